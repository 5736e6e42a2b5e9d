/- Walks of single functions, written by a program of this work. -/
import Derived.Test.YtlipdmblinjjaaaDoorGWSchedPlays2
namespace Go.Proofs.YtlipdmblinjjaaaDoor.GV
open Go Go.RowKit
set_option linter.unusedVariables false
set_option linter.unusedSimpArgs false
set_option maxRecDepth 100000

/-! punctual/punctualref.Played -/
abbrev punctualref_Played.Post (w0 : World) (r : (List (List Int)) × (List Int)) (e : Ending) (w : World) : Prop := ∃ (y0 : Rows) (v1 : Value), e = .returned (.tuple #[(Rows.val y0), v1]) ∧ St w0 w [Own.nest y0 23 3 r.1, Own.of v1 3 r.2]
def punctualref_Played.r0 (l0 : List SJob) : Nat × (List Int) × (List (Int × Int)) → Option ((Nat × (List Int) × (List (Int × Int))) ⊕ (((List Int) × (List (Int × Int))) ⊕ ((List (List Int)) × (List Int))))
  | (i1, m1, mp1) =>
    if (i1 : Int) < (l0.length : Int) then
      match l0[i1]? with
      | none => none
      | some e1 =>
        match m1[i1]? with
        | none => none
        | some e2 =>
          some (.inl ((i1 + 1), (m1.set i1 (-1)), (mset mp1 (i1 : Int) e1.C)))
    else
      some (.inr (.inl (m1, mp1)))
def punctualref_Played.p3 (z1 : Int) (mp4 : List (Int × Int)) (i2 : Nat) (e3 : SJob) : Option (Bool ⊕ ((List (List Int)) × (List Int))) :=
    if e3.At ≤ z1 then
      some (.inl (decide (((mget mp4 (i2 : Int)).getD 0) > 0)))
    else
      some (.inl false)
def punctualref_Played.r4 (l0 : List SJob) (x1 : Int) (m8 : List Int) (i2 : Nat) : Int → Option (Int ⊕ (Int ⊕ ((List (List Int)) × (List Int))))
  | z2 =>
    if z2 > 0 then
      if 0 ≤ (IntKind.i64.wrap (z2 - 1)) then
        match m8[(IntKind.i64.wrap (z2 - 1)).toNat]? with
        | none => none
        | some e4 =>
          match punctualref_Goes.f l0 (i2 : Int) e4 x1 with
          | none => none
          | some r1 =>
            if r1 = true then
              some (.inl (IntKind.i64.wrap (z2 - 1)))
            else
              some (.inr (.inl z2))
      else
        none
    else
      some (.inr (.inl z2))
def punctualref_Played.r2 (K : Nat) (l0 : List SJob) (x1 : Int) (z1 : Int) (mp4 : List (Int × Int)) : (List Int) × Nat → Option (((List Int) × Nat) ⊕ ((List Int) ⊕ ((List (List Int)) × (List Int))))
  | (m8, i2) =>
    if (i2 : Int) < (l0.length : Int) then
      match l0[i2]? with
      | none => none
      | some e3 =>
        match punctualref_Played.p3 z1 mp4 i2 e3 with
        | none => none
        | some (.inl q2) =>
          if q2 = true then
            match iter (punctualref_Played.r4 l0 x1 m8 i2) K (m8.length : Int) with
            | none => none
            | some (.inl z4) =>
              if 0 ≤ z4 then
                if ((z4).toNat) ≤ m8.length then
                  if ([(i2 : Int)] : List Int).length + ((m8.take m8.length).drop ((z4).toNat)).length ≤ 17592186044416 then
                    if (m8.take ((z4).toNat)).length + (([(i2 : Int)] : List Int) ++ ((m8.take m8.length).drop ((z4).toNat))).length ≤ 17592186044416 then
                      some (.inl (((m8.take ((z4).toNat)) ++ (([(i2 : Int)] : List Int) ++ ((m8.take m8.length).drop ((z4).toNat)))), (i2 + 1)))
                    else
                      none
                  else
                    none
                else
                  none
              else
                none
            | some (.inr rr1) =>
              some (.inr (.inr rr1))
          else
            some (.inl (m8, (i2 + 1)))
        | some (.inr rr2) =>
          some (.inr (.inr rr2))
    else
      some (.inr (.inl m8))
def punctualref_Played.p5 (x2 : Bool) (z1 : Int) (m5 : List (List Int)) (mp4 : List (Int × Int)) (m10 : List Int) : Option ((List Int) ⊕ ((List (List Int)) × (List Int))) :=
    if x2 = true then
      some (.inl m10)
    else
      if z1 > 0 then
        if 0 ≤ (IntKind.i64.wrap (z1 - 1)) then
          match m5[(IntKind.i64.wrap (z1 - 1)).toNat]? with
          | none => none
          | some e5 =>
            if (e5.length : Int) > 0 then
              match e5[0]? with
              | none => none
              | some e6 =>
                if ((mget mp4 e6).getD 0) > 0 then
                  some (.inl ([e6] : List Int))
                else
                  some (.inl m10)
            else
              some (.inl m10)
        else
          none
      else
        some (.inl m10)
def punctualref_Played.p6 (x3 : Int) (m12 : List Int) : Option ((List Int) ⊕ ((List (List Int)) × (List Int))) :=
    if (m12.length : Int) > x3 then
      if 0 ≤ x3 then
        if ((x3).toNat) ≤ m12.length then
          some (.inl (m12.take ((x3).toNat)))
        else
          none
      else
        none
    else
      some (.inl m12)
def punctualref_Played.r7 (z1 : Int) (m14 : List Int) : Int × (List Int) × (List (Int × Int)) → Option ((Int × (List Int) × (List (Int × Int))) ⊕ (((List Int) × (List (Int × Int))) ⊕ ((List (List Int)) × (List Int))))
  | (z5, m15, mp5) =>
    if z5 < (m14.length : Int) then
      if 0 ≤ z5 then
        match m14[(z5).toNat]? with
        | none => none
        | some e8 =>
          if ((mget (mset mp5 e8 (IntKind.i64.wrap (((mget mp5 e8).getD 0) - 1))) e8).getD 0) = 0 then
            if 0 ≤ e8 then
              match m15[(e8).toNat]? with
              | none => none
              | some e9 =>
                some (.inl (IntKind.i64.wrap (z5 + 1), (m15.set ((e8).toNat) (IntKind.i64.wrap (z1 + 1))), (mset mp5 e8 (IntKind.i64.wrap (((mget mp5 e8).getD 0) - 1)))))
            else
              none
          else
            some (.inl (IntKind.i64.wrap (z5 + 1), m15, (mset mp5 e8 (IntKind.i64.wrap (((mget mp5 e8).getD 0) - 1)))))
      else
        none
    else
      some (.inr (.inl (m15, mp5)))
def punctualref_Played.r1 (K : Nat) (l0 : List SJob) (x1 : Int) (x2 : Bool) (x3 : Int) (x4 : Int) : Int × (List Int) × (List (List Int)) × (List (Int × Int)) → Option ((Int × (List Int) × (List (List Int)) × (List (Int × Int))) ⊕ (((List Int) × (List (List Int))) ⊕ ((List (List Int)) × (List Int))))
  | (z1, m4, m5, mp4) =>
    if z1 < x4 then
      if (punctualref_Always.f z1) = true then
        match iter (punctualref_Played.r2 K l0 x1 z1 mp4) K (([] : List Int), 0) with
        | none => none
        | some (.inl m10) =>
          match punctualref_Played.p5 x2 z1 m5 mp4 m10 with
          | none => none
          | some (.inl m12) =>
            match punctualref_Played.p6 x3 m12 with
            | none => none
            | some (.inl m14) =>
              if 0 ≤ z1 then
                match m5[(z1).toNat]? with
                | none => none
                | some e7 =>
                  match iter (punctualref_Played.r7 z1 m14) K (0, m4, mp4) with
                  | none => none
                  | some (.inl (m17, mp7)) =>
                    some (.inl (IntKind.i64.wrap (z1 + 1), m17, (m5.set ((z1).toNat) m14), mp7))
                  | some (.inr rr3) =>
                    some (.inr (.inr rr3))
              else
                none
            | some (.inr rr4) =>
              some (.inr (.inr rr4))
          | some (.inr rr5) =>
            some (.inr (.inr rr5))
        | some (.inr rr6) =>
          some (.inr (.inr rr6))
      else
        some (.inl (IntKind.i64.wrap (z1 + 1), m4, m5, mp4))
    else
      some (.inr (.inl (m4, m5)))
def punctualref_Played.f (K : Nat) (l0 : List SJob) (x1 : Int) (x2 : Bool) (x3 : Int) (x4 : Int) : Option ((List (List Int)) × (List Int)) :=
  if l0.length ≤ 17592186044416 then
    match iter (punctualref_Played.r0 l0) K (0, (List.replicate l0.length (0 : Int)), ([] : List (Int × Int))) with
    | none => none
    | some (.inl (m3, mp3)) =>
      if 0 ≤ x4 then
        if ((x4).toNat) ≤ 5864062014805 then
          match iter (punctualref_Played.r1 K l0 x1 x2 x3 x4) K (0, m3, (List.replicate ((x4).toNat) ([] : List Int)), mp3) with
          | none => none
          | some (.inl (m18, m19)) =>
            some (m19, m18)
          | some (.inr rr7) =>
            some rr7
        else
          none
      else
        none
    | some (.inr rr8) =>
      some rr8
  else
    none
abbrev punctualref_Played.A0 (K : Nat) (w0 : World) (l0 : List SJob) (A0 : Option Addr) (c0 : Nat) (x1 : Int) (x2 : Bool) (x3 : Int) (x4 : Int) (hR0 : RdL w0 A0 l0) (hL0 : l0.length ≤ c0) (b1 : Nat) (hc1 : l0.length ≤ 17592186044416) (Z1 : Option Addr) (cz1 : Nat) : (Nat × (List Int) × (List (Int × Int))) → Act → World → Prop := fun (s : Nat × (List Int) × (List (Int × Int))) a w => St w0 w [Own.of (.slice Z1 s.2.1.length cz1) 3 s.2.1, Own.map (κ := Int) (ν := Int) b1 s.2.2] ∧ Frm 169 a [(0, .slice A0 l0.length c0), (1, .int .i64 x1), (2, .bool x2), (3, .int .i64 x3), (4, .int .i64 x4), (5, .func (.func 68) #[] #[]), (14, .map (some b1)), (15, (.slice Z1 s.2.1.length cz1)), (30, .slice A0 l0.length c0), (31, .int .i64 (l0.length : Int)), (32, .int .i64 (s.1 : Int))]
abbrev punctualref_Played.B0 (K : Nat) (w0 : World) (l0 : List SJob) (A0 : Option Addr) (c0 : Nat) (x1 : Int) (x2 : Bool) (x3 : Int) (x4 : Int) (hR0 : RdL w0 A0 l0) (hL0 : l0.length ≤ c0) (b1 : Nat) (hc1 : l0.length ≤ 17592186044416) (Z1 : Option Addr) (cz1 : Nat) : (((List Int) × (List (Int × Int))) ⊕ ((List (List Int)) × (List Int))) → Exit → Act → World → Prop := Exits 0 (fun (s : (List Int) × (List (Int × Int))) a w => St w0 w [Own.of (.slice Z1 s.1.length cz1) 3 s.1, Own.map (κ := Int) (ν := Int) b1 s.2] ∧ Frm 169 a [(0, .slice A0 l0.length c0), (1, .int .i64 x1), (2, .bool x2), (3, .int .i64 x3), (4, .int .i64 x4), (5, .func (.func 68) #[] #[]), (14, .map (some b1)), (15, (.slice Z1 s.1.length cz1))]) (Rets Tryd.prog Tryd.f67 (punctualref_Played.Post w0))
theorem punctualref_Played_r0 (K : Nat) (w0 : World) (l0 : List SJob) (A0 : Option Addr) (c0 : Nat) (x1 : Int) (x2 : Bool) (x3 : Int) (x4 : Int) (hR0 : RdL w0 A0 l0) (hL0 : l0.length ≤ c0) (b1 : Nat) (hc1 : l0.length ≤ 17592186044416) (Z1 : Option Addr) (cz1 : Nat) (s : Nat × (List Int) × (List (Int × Int))) (o : (Nat × (List Int) × (List (Int × Int))) ⊕ (((List Int) × (List (Int × Int))) ⊕ ((List (List Int)) × (List Int)))) (h : punctualref_Played.r0 l0 s = some o) (a : Act) (w : World) (hA : punctualref_Played.A0 K w0 l0 A0 c0 x1 x2 x3 x4 hR0 hL0 b1 hc1 Z1 cz1 s a w) (Q : Exit → Act → World → Prop) (hQ : ∀ x a w, Outs (punctualref_Played.A0 K w0 l0 A0 c0 x1 x2 x3 x4 hR0 hL0 b1 hc1 Z1 cz1) (punctualref_Played.B0 K w0 l0 A0 c0 x1 x2 x3 x4 hR0 hL0 b1 hc1 Z1 cz1) o x a w → Q x a w) : (subF Tryd.f67 [1, 1, 1, 0, 1, 0, 0]).wp Tryd.prog Q a w := by
  obtain ⟨i1, m1, mp1⟩ := s
  obtain ⟨hS, hF⟩ := hA
  replace hS : St w0 w [Own.of (.slice Z1 m1.length cz1) 3 m1, Own.map (κ := Int) (ν := Int) b1 mp1] := hS
  simp only [punctualref_Played.r0] at h
  refine (?_ : WE Tryd.prog 169 (subF Tryd.f67 [1, 1, 1, 0, 1, 0, 0]) Q [(0, .slice A0 l0.length c0), (1, .int .i64 x1), (2, .bool x2), (3, .int .i64 x3), (4, .int .i64 x4), (5, .func (.func 68) #[] #[]), (14, .map (some b1)), (15, (.slice Z1 m1.length cz1)), (30, .slice A0 l0.length c0), (31, .int .i64 (l0.length : Int)), (32, .int .i64 (i1 : Int))] w) a hF
  clear hF a
  refine we_seq fun K6 hK6 => ?_
  refine we_region [(0, 0)] rfl ?_
  refine ge_batch [0] (ans := []) (vs := [(33, .bool (decide ((i1 : Int) < (l0.length : Int))))]) (l := []) (by kernel_rfl) trivial ?_
  refine ge_nil fun a hF => hK6 _ _ ?_ a hF
  refine we_seq fun K7 hK7 => ?_
  by_cases hc2 : (i1 : Int) < (l0.length : Int)
  · rw [if_pos hc2] at h
    refine we_known (t := 33) (b := decide ((i1 : Int) < (l0.length : Int))) (v := true) (by kernel_rfl) (decide_eq_true hc2) ?_
    refine we_true (by kernel_rfl) ?_
    refine we_skip fun a hF => hK7 _ _ ?_ a hF
    refine we_seq fun K8 hK8 => ?_
    refine we_block ?_
    refine we_seq fun K9 hK9 => ?_
    refine we_region [(0, 0), (1, 0), (2, 0), (3, 1), (4, 0), (5, 2)] rfl ?_
    refine ge_batch [0] (ans := []) (vs := [(34, .int .i64 (i1 : Int))]) (l := []) (by kernel_rfl) trivial ?_
    rcases hx2 : l0[i1]? with _ | e1
    · rw [hx2] at h; cases h
    rw [hx2] at h
    simp only [] at h
    refine ge_index (d := 35) (ty := 0) (t := 22) (el := 30) (sz := 5) (m := l0.length) (c := c0) (x := (.tmp 30)) (y := (.tmp 32)) (A := A0) (k' := .i64) (j := (i1 : Int)) (jn := i1) (b0 := blkOf A0) (o0 := offOf A0) (by kernel_rfl) (by kernel_rfl) (by kernel_rfl) (by kernel_rfl) (by kernel_rfl) ((hS.rd hR0).eqSome (pos_of_get hx2)) rfl (lt_of_get hx2) ?_
    refine ge_batch [2] (ans := [.val (.int .i64 e1.Task), .val (.int .i64 e1.At), .val (.int .i64 e1.C), .val (.int .i64 e1.Due), .val (.int .i64 e1.P)]) (vs := [(36, .agg #[.int .i64 e1.Task, .int .i64 e1.At, .int .i64 e1.C, .int .i64 e1.Due, .int .i64 e1.P])]) (l := [.loaded ⟨blkOf A0, offOf A0 + i1 * 5, none⟩ (.int .i64 e1.Task), .loaded ⟨blkOf A0, offOf A0 + i1 * 5 + 1, none⟩ (.int .i64 e1.At), .loaded ⟨blkOf A0, offOf A0 + i1 * 5 + 2, none⟩ (.int .i64 e1.C), .loaded ⟨blkOf A0, offOf A0 + i1 * 5 + 3, none⟩ (.int .i64 e1.Due), .loaded ⟨blkOf A0, offOf A0 + i1 * 5 + 4, none⟩ (.int .i64 e1.P)]) (by kernel_rfl) ⟨RdL.cell (j := 0) (hS.rd hR0) hx2 rfl, RdL.cell (j := 1) (hS.rd hR0) hx2 rfl, RdL.cell (j := 2) (hS.rd hR0) hx2 rfl, RdL.cell (j := 3) (hS.rd hR0) hx2 rfl, RdL.cell (j := 4) (hS.rd hR0) hx2 rfl, trivial⟩ ?_
    refine ge_new (d := some 17) (o := .cells #[.int .i64 0, .int .i64 0, .int .i64 0, .int .i64 0, .int .i64 0] 30) (v := fun b => .pointer (some ⟨b, 0, none⟩)) hS (fun b => by kernel_rfl) fun b2 w3 hx3 hS6 => ?_
    refine ge_batch [4] (ans := []) (vs := [(16, .int .i64 (i1 : Int))]) (l := []) (by kernel_rfl) trivial ?_
    refine ge_set (b := b2) (j := 0) (cs := #[.int .i64 0, .int .i64 0, .int .i64 0, .int .i64 0, .int .i64 0]) (t := 30) (vs := [.int .i64 e1.Task, .int .i64 e1.At, .int .i64 e1.C, .int .i64 e1.Due, .int .i64 e1.P]) hS6 (by kernel_rfl) rfl rfl fun w4 hS7 => ?_
    have hS8 : St w0 w4 [Own.blk b2 (.cells #[.int .i64 e1.Task, .int .i64 e1.At, .int .i64 e1.C, .int .i64 e1.Due, .int .i64 e1.P] 30 (0, 0)), Own.of (.slice Z1 m1.length cz1) 3 m1, Own.map (κ := Int) (ν := Int) b1 mp1] := hS7
    refine ge_nil fun a hF => hK9 _ _ ?_ a hF
    refine we_seq fun K10 hK10 => ?_
    refine we_region [(0, 0), (1, 0), (2, 0), (3, 0), (4, 2)] rfl ?_
    refine ge_batch [0, 1, 2, 3] (ans := [.val (.int .i64 e1.C)]) (vs := [(40, .int .i64 e1.C), (39, .pointer (some ⟨b2, 2, none⟩)), (38, .int .i64 (i1 : Int)), (37, .map (some b1))]) (l := [.loaded ⟨b2, 2, none⟩ (.int .i64 e1.C)]) (by kernel_rfl) ⟨hS8.cell 0 rfl rfl, trivial⟩ ?_
    have hS9 := hS8.bring 2 rfl
    refine ge_mapSet (κ := Int) (ν := Int) (b := b1) (ins := false) (mm := 0) (t := 112) (kt := 3) (et := 3) (x := (.tmp 37)) (y := (.tmp 38)) (u := (.tmp 40)) (ty := 0) (m := mp1) (k := (i1 : Int)) (v := e1.C) (vv := .int .i64 e1.C) (by kernel_rfl) (by kernel_rfl) (by kernel_rfl) (by kernel_rfl) rfl (by kernel_rfl) (by kernel_rfl) hS9 fun w5 hS10 => ?_
    refine ge_nil fun a hF => hK10 _ _ ?_ a hF
    refine we_region [(0, 0), (1, 0), (2, 0), (3, 2)] rfl ?_
    refine ge_batch [0, 1] (ans := []) (vs := [(42, .int .i64 (i1 : Int)), (41, (.slice Z1 m1.length cz1))]) (l := []) (by kernel_rfl) trivial ?_
    rcases hx4 : m1[i1]? with _ | e2
    · rw [hx4] at h; cases h
    rw [hx4] at h
    simp only [] at h
    refine ge_index (d := 43) (ty := 0) (t := 23) (el := 3) (sz := 1) (m := m1.length) (c := cz1) (x := (.tmp 41)) (y := (.tmp 42)) (A := Z1) (k' := .i64) (j := (i1 : Int)) (jn := i1) (b0 := blkOf Z1) (o0 := offOf Z1) (by kernel_rfl) (by kernel_rfl) (by kernel_rfl) (by kernel_rfl) (by kernel_rfl) ((hS10.rdAt 2 rfl).eqSome (pos_of_get hx4)) rfl (lt_of_get hx4) ?_
    have hS11 := hS10.bring 2 rfl
    refine ge_seti (α := Int) (A := Z1) (nn := m1.length) (c := cz1) (t := 3) (l := m1) (x := e2) (x' := (-1)) (jn := i1) (j := 0) (vs := [.int .i64 (-1)]) (l' := [.stored ⟨blkOf Z1, offOf Z1 + i1 * 1, none⟩ (.int .i64 (-1))]) hS11 (by kernel_rfl) (by kernel_rfl) hx4 rfl rfl rfl fun w6 hS12 => ?_
    have hS13 : St w0 w6 [Own.of (.slice Z1 m1.length cz1) 3 (m1.set i1 (-1)), Own.map (κ := Int) (ν := Int) b1 (mset mp1 (i1 : Int) e1.C), Own.blk b2 (.cells #[.int .i64 e1.Task, .int .i64 e1.At, .int .i64 e1.C, .int .i64 e1.Due, .int .i64 e1.P] 30 (0, 0))] := hS12
    have hE1 : m1.length = (m1.set i1 (-1)).length := hS13.lenAt 0 rfl
    have hS14 : St w0 w6 [Own.of (.slice Z1 (m1.set i1 (-1)).length cz1) 3 (m1.set i1 (-1)), Own.map (κ := Int) (ν := Int) b1 (mset mp1 (i1 : Int) e1.C), Own.blk b2 (.cells #[.int .i64 e1.Task, .int .i64 e1.At, .int .i64 e1.C, .int .i64 e1.Due, .int .i64 e1.P] 30 (0, 0))] := by rw [← hE1]; exact hS13
    refine ge_same (t := 15) (v := (.slice Z1 m1.length cz1)) (v' := (.slice Z1 (m1.set i1 (-1)).length cz1)) (by kernel_rfl) (by rw [hE1]) ?_
    refine ge_same (t := 41) (v := (.slice Z1 m1.length cz1)) (v' := (.slice Z1 (m1.set i1 (-1)).length cz1)) (by kernel_rfl) (by rw [hE1]) ?_
    refine ge_nil fun a hF => hK8 _ _ ?_ a hF
    refine we_region [(0, 0), (1, 0)] rfl ?_
    refine ge_addn (d := 44) (ty := 3) (x := (.tmp 32)) (y := (.const (.int .i64 1))) (t := 3) (t2 := 3) (k := .i64) (m := i1) (by kernel_rfl) (by kernel_rfl) (by kernel_rfl) (by have h0 := hR0.small; omega) ?_
    refine ge_batch [1] (ans := []) (vs := [(32, .int .i64 ((i1 + 1 : Nat) : Int))]) (l := []) (by kernel_rfl) trivial ?_
    have hS15 := hS14.bring 1 rfl
    have hS16 := hS15.bring 1 rfl
    have hS17 := hS16.takeN 2
    obtain rfl := Option.some.inj h
    exact ge_nil fun a hF => hQ _ _ _ (Outs.again ⟨hS17, hF.weaken ⟨by kernel_rfl, by kernel_rfl, by kernel_rfl, by kernel_rfl, by kernel_rfl, by kernel_rfl, by kernel_rfl, by kernel_rfl, by kernel_rfl, by kernel_rfl, by kernel_rfl, trivial⟩⟩)
  · rw [if_neg hc2] at h
    refine we_known (t := 33) (b := decide ((i1 : Int) < (l0.length : Int))) (v := false) (by kernel_rfl) (decide_eq_false hc2) ?_
    refine we_false (by kernel_rfl) ?_
    have hS18 := hS.bring 1 rfl
    have hS19 := hS18.bring 1 rfl
    obtain rfl := Option.some.inj h
    exact we_exit fun a hF => hQ _ _ _ (Outs.out nofun (Exits.here ⟨hS19, hF.weaken ⟨by kernel_rfl, by kernel_rfl, by kernel_rfl, by kernel_rfl, by kernel_rfl, by kernel_rfl, by kernel_rfl, by kernel_rfl, trivial⟩⟩))
abbrev punctualref_Played.A3 (K : Nat) (w0 : World) (l0 : List SJob) (A0 : Option Addr) (c0 : Nat) (x1 : Int) (x2 : Bool) (x3 : Int) (x4 : Int) (hR0 : RdL w0 A0 l0) (hL0 : l0.length ≤ c0) (b1 : Nat) (hc1 : l0.length ≤ 17592186044416) (Z1 : Option Addr) (cz1 : Nat) (m3 : List Int) (mp3 : List (Int × Int)) (hc3 : 0 ≤ x4) (hc4 : ((x4).toNat) ≤ 5864062014805) (xr1 : Rows) (z1 : Int) (m4 : List Int) (m5 : List (List Int)) (xr2 : Rows) (mp4 : List (Int × Int)) (hc5 : z1 < x4) (hc6 : (punctualref_Always.f z1) = true) (m8 : List Int) (i2 : Nat) (hc7 : (i2 : Int) < (l0.length : Int)) (e3 : SJob) (hx5 : l0[i2]? = some e3) (b3 : Nat) (Z2 : Option Addr) (cz2 : Nat) : Bool → Act → World → Prop := fun (s : Bool) a w => St w0 w [Own.of (.slice Z1 m4.length cz1) 3 m4, Own.nest xr2 23 3 m5, Own.of (.slice Z2 m8.length cz2) 3 m8, Own.map (κ := Int) (ν := Int) b1 mp4] ∧ Frm 169 a [(0, .slice A0 l0.length c0), (1, .int .i64 x1), (2, .bool x2), (3, .int .i64 x3), (4, .int .i64 x4), (5, .func (.func 68) #[] #[]), (14, .map (some b1)), (15, (.slice Z1 m4.length cz1)), (18, (Rows.val xr2)), (19, .int .i64 z1), (20, (.slice Z2 m8.length cz2)), (21, .int .i64 (i2 : Int)), (56, .slice A0 l0.length c0), (57, .int .i64 (l0.length : Int)), (58, .int .i64 (i2 : Int)), (72, .bool s)]
abbrev punctualref_Played.B3 (K : Nat) (w0 : World) (l0 : List SJob) (A0 : Option Addr) (c0 : Nat) (x1 : Int) (x2 : Bool) (x3 : Int) (x4 : Int) (hR0 : RdL w0 A0 l0) (hL0 : l0.length ≤ c0) (b1 : Nat) (hc1 : l0.length ≤ 17592186044416) (Z1 : Option Addr) (cz1 : Nat) (m3 : List Int) (mp3 : List (Int × Int)) (hc3 : 0 ≤ x4) (hc4 : ((x4).toNat) ≤ 5864062014805) (xr1 : Rows) (z1 : Int) (m4 : List Int) (m5 : List (List Int)) (xr2 : Rows) (mp4 : List (Int × Int)) (hc5 : z1 < x4) (hc6 : (punctualref_Always.f z1) = true) (m8 : List Int) (i2 : Nat) (hc7 : (i2 : Int) < (l0.length : Int)) (e3 : SJob) (hx5 : l0[i2]? = some e3) (b3 : Nat) (Z2 : Option Addr) (cz2 : Nat) : ((List (List Int)) × (List Int)) → Exit → Act → World → Prop := Rets Tryd.prog Tryd.f67 (punctualref_Played.Post w0)
theorem punctualref_Played_p3 (K : Nat) (w0 : World) (l0 : List SJob) (A0 : Option Addr) (c0 : Nat) (x1 : Int) (x2 : Bool) (x3 : Int) (x4 : Int) (hR0 : RdL w0 A0 l0) (hL0 : l0.length ≤ c0) (b1 : Nat) (hc1 : l0.length ≤ 17592186044416) (Z1 : Option Addr) (cz1 : Nat) (m3 : List Int) (mp3 : List (Int × Int)) (hc3 : 0 ≤ x4) (hc4 : ((x4).toNat) ≤ 5864062014805) (xr1 : Rows) (z1 : Int) (m4 : List Int) (m5 : List (List Int)) (xr2 : Rows) (mp4 : List (Int × Int)) (hc5 : z1 < x4) (hc6 : (punctualref_Always.f z1) = true) (m8 : List Int) (i2 : Nat) (hc7 : (i2 : Int) < (l0.length : Int)) (e3 : SJob) (hx5 : l0[i2]? = some e3) (b3 : Nat) (Z2 : Option Addr) (cz2 : Nat) (o : Bool ⊕ ((List (List Int)) × (List Int))) (h : punctualref_Played.p3 z1 mp4 i2 e3 = some o) (w : World) (hS : St w0 w [Own.blk b3 (.cells #[.int .i64 e3.Task, .int .i64 e3.At, .int .i64 e3.C, .int .i64 e3.Due, .int .i64 e3.P] 30 (0, 0)), Own.of (.slice Z1 m4.length cz1) 3 m4, Own.nest xr2 23 3 m5, Own.of (.slice Z2 m8.length cz2) 3 m8, Own.map (κ := Int) (ν := Int) b1 mp4]) (Q : Exit → Act → World → Prop) (hQ : ∀ x a w, Outs (punctualref_Played.A3 K w0 l0 A0 c0 x1 x2 x3 x4 hR0 hL0 b1 hc1 Z1 cz1 m3 mp3 hc3 hc4 xr1 z1 m4 m5 xr2 mp4 hc5 hc6 m8 i2 hc7 e3 hx5 b3 Z2 cz2) (punctualref_Played.B3 K w0 l0 A0 c0 x1 x2 x3 x4 hR0 hL0 b1 hc1 Z1 cz1 m3 mp3 hc3 hc4 xr1 z1 m4 m5 xr2 mp4 hc5 hc6 m8 i2 hc7 e3 hx5 b3 Z2 cz2) o x a w → Q x a w) : WE Tryd.prog 169 (subF Tryd.f67 [1, 1, 1, 1, 1, 0, 1, 0, 0, 1, 0, 0, 1, 1, 0, 1, 0, 0, 1, 1, 0, 0, 1, 0]) Q [(0, .slice A0 l0.length c0), (1, .int .i64 x1), (2, .bool x2), (3, .int .i64 x3), (4, .int .i64 x4), (5, .func (.func 68) #[] #[]), (14, .map (some b1)), (15, (.slice Z1 m4.length cz1)), (18, (Rows.val xr2)), (19, .int .i64 z1), (20, (.slice Z2 m8.length cz2)), (21, .int .i64 (i2 : Int)), (22, .pointer (some ⟨b3, 0, none⟩)), (56, .slice A0 l0.length c0), (57, .int .i64 (l0.length : Int)), (58, .int .i64 (i2 : Int)), (59, .bool true), (60, .int .i64 (i2 : Int)), (61, .pointer (some ⟨blkOf A0, offOf A0 + i2 * 5, none⟩)), (62, .agg #[.int .i64 e3.Task, .int .i64 e3.At, .int .i64 e3.C, .int .i64 e3.Due, .int .i64 e3.P])] w := by
  simp only [punctualref_Played.p3] at h
  refine we_region [(0, 0), (1, 0), (2, 0), (3, 0), (4, 0), (5, 0), (6, 0), (7, 0), (8, 0), (9, 0)] rfl ?_
  refine ge_batch [0, 1, 2, 3, 4] (ans := [.val (.int .i64 e3.At)]) (vs := [(67, .bool (decide (e3.At ≤ z1))), (66, .bool (decide (e3.At ≤ z1))), (65, .int .i64 z1), (64, .int .i64 e3.At), (63, .pointer (some ⟨b3, 1, none⟩))]) (l := [.loaded ⟨b3, 1, none⟩ (.int .i64 e3.At)]) (by kernel_rfl) ⟨hS.cell 0 rfl rfl, trivial⟩ ?_
  by_cases hc8 : e3.At ≤ z1
  · rw [if_pos hc8] at h
    refine ge_known (t := 67) (b := decide (e3.At ≤ z1)) (c := true) (by kernel_rfl) (decide_eq_true hc8) ?_
    refine ge_batch [5, 6] (ans := []) (vs := [(69, .int .i64 (i2 : Int)), (68, .map (some b1))]) (l := []) (by kernel_rfl) trivial ?_
    refine ge_lookup (κ := Int) (ν := Int) (d := 70) (b := b1) (q := 4) (t := 112) (kt := 3) (et := 3) (x := (.tmp 68)) (y := (.tmp 69)) (ty := 3) (m := mp4) (k := (i2 : Int)) (z := 0) (v := ((mget mp4 (i2 : Int)).getD 0)) (zv := .int .i64 0) (vv := .int .i64 ((mget mp4 (i2 : Int)).getD 0)) (by kernel_rfl) (by kernel_rfl) (by kernel_rfl) (by kernel_rfl) (by kernel_rfl) (fun w' => by kernel_rfl) rfl hS rfl rfl rfl ?_
    refine ge_batch [8, 9] (ans := []) (vs := [(72, .bool (decide (((mget mp4 (i2 : Int)).getD 0) > 0))), (71, .bool (decide (((mget mp4 (i2 : Int)).getD 0) > 0)))]) (l := []) (by kernel_rfl) trivial ?_
    have hS36 := hS.bring 4 rfl
    have hS37 := hS36.bring 4 rfl
    have hS38 := hS37.bring 4 rfl
    have hS39 := hS38.bring 4 rfl
    have hS40 := hS39.takeN 4
    obtain rfl := Option.some.inj h
    exact ge_nil fun a hF => hQ _ _ _ (Outs.again ⟨hS40, hF.weaken ⟨by kernel_rfl, by kernel_rfl, by kernel_rfl, by kernel_rfl, by kernel_rfl, by kernel_rfl, by kernel_rfl, by kernel_rfl, by kernel_rfl, by kernel_rfl, by kernel_rfl, by kernel_rfl, by kernel_rfl, by kernel_rfl, by kernel_rfl, by kernel_rfl, trivial⟩⟩)
  · rw [if_neg hc8] at h
    refine ge_known (t := 67) (b := decide (e3.At ≤ z1)) (c := false) (by kernel_rfl) (decide_eq_false hc8) ?_
    refine ge_batch [5, 6, 7, 8, 9] (ans := []) (vs := [(72, .bool false), (71, undef), (70, undef), (69, undef), (68, undef)]) (l := []) (by kernel_rfl) trivial ?_
    have hS41 := hS.bring 4 rfl
    have hS42 := hS41.bring 4 rfl
    have hS43 := hS42.bring 4 rfl
    have hS44 := hS43.bring 4 rfl
    have hS45 := hS44.takeN 4
    obtain rfl := Option.some.inj h
    exact ge_nil fun a hF => hQ _ _ _ (Outs.again ⟨hS45, hF.weaken ⟨by kernel_rfl, by kernel_rfl, by kernel_rfl, by kernel_rfl, by kernel_rfl, by kernel_rfl, by kernel_rfl, by kernel_rfl, by kernel_rfl, by kernel_rfl, by kernel_rfl, by kernel_rfl, by kernel_rfl, by kernel_rfl, by kernel_rfl, by kernel_rfl, trivial⟩⟩)
abbrev punctualref_Played.A4 (K : Nat) (w0 : World) (l0 : List SJob) (A0 : Option Addr) (c0 : Nat) (x1 : Int) (x2 : Bool) (x3 : Int) (x4 : Int) (hR0 : RdL w0 A0 l0) (hL0 : l0.length ≤ c0) (b1 : Nat) (hc1 : l0.length ≤ 17592186044416) (Z1 : Option Addr) (cz1 : Nat) (m3 : List Int) (mp3 : List (Int × Int)) (hc3 : 0 ≤ x4) (hc4 : ((x4).toNat) ≤ 5864062014805) (xr1 : Rows) (z1 : Int) (m4 : List Int) (m5 : List (List Int)) (xr2 : Rows) (mp4 : List (Int × Int)) (hc5 : z1 < x4) (hc6 : (punctualref_Always.f z1) = true) (m8 : List Int) (i2 : Nat) (hc7 : (i2 : Int) < (l0.length : Int)) (e3 : SJob) (hx5 : l0[i2]? = some e3) (b3 : Nat) (Z2 : Option Addr) (cz2 : Nat) (q2 : Bool) (hc9 : q2 = true) : Int → Act → World → Prop := fun (s : Int) a w => St w0 w [Own.of (.slice Z1 m4.length cz1) 3 m4, Own.nest xr2 23 3 m5, Own.of (.slice Z2 m8.length cz2) 3 m8, Own.map (κ := Int) (ν := Int) b1 mp4] ∧ Frm 169 a [(0, .slice A0 l0.length c0), (1, .int .i64 x1), (2, .bool x2), (3, .int .i64 x3), (4, .int .i64 x4), (5, .func (.func 68) #[] #[]), (14, .map (some b1)), (15, (.slice Z1 m4.length cz1)), (18, (Rows.val xr2)), (19, .int .i64 z1), (20, (.slice Z2 m8.length cz2)), (21, .int .i64 (i2 : Int)), (23, .int .i64 s), (56, .slice A0 l0.length c0), (57, .int .i64 (l0.length : Int)), (58, .int .i64 (i2 : Int))]
abbrev punctualref_Played.B4 (K : Nat) (w0 : World) (l0 : List SJob) (A0 : Option Addr) (c0 : Nat) (x1 : Int) (x2 : Bool) (x3 : Int) (x4 : Int) (hR0 : RdL w0 A0 l0) (hL0 : l0.length ≤ c0) (b1 : Nat) (hc1 : l0.length ≤ 17592186044416) (Z1 : Option Addr) (cz1 : Nat) (m3 : List Int) (mp3 : List (Int × Int)) (hc3 : 0 ≤ x4) (hc4 : ((x4).toNat) ≤ 5864062014805) (xr1 : Rows) (z1 : Int) (m4 : List Int) (m5 : List (List Int)) (xr2 : Rows) (mp4 : List (Int × Int)) (hc5 : z1 < x4) (hc6 : (punctualref_Always.f z1) = true) (m8 : List Int) (i2 : Nat) (hc7 : (i2 : Int) < (l0.length : Int)) (e3 : SJob) (hx5 : l0[i2]? = some e3) (b3 : Nat) (Z2 : Option Addr) (cz2 : Nat) (q2 : Bool) (hc9 : q2 = true) : (Int ⊕ ((List (List Int)) × (List Int))) → Exit → Act → World → Prop := Exits 6 (fun (s : Int) a w => St w0 w [Own.of (.slice Z1 m4.length cz1) 3 m4, Own.nest xr2 23 3 m5, Own.of (.slice Z2 m8.length cz2) 3 m8, Own.map (κ := Int) (ν := Int) b1 mp4] ∧ Frm 169 a [(0, .slice A0 l0.length c0), (1, .int .i64 x1), (2, .bool x2), (3, .int .i64 x3), (4, .int .i64 x4), (5, .func (.func 68) #[] #[]), (14, .map (some b1)), (15, (.slice Z1 m4.length cz1)), (18, (Rows.val xr2)), (19, .int .i64 z1), (20, (.slice Z2 m8.length cz2)), (21, .int .i64 (i2 : Int)), (23, .int .i64 s), (56, .slice A0 l0.length c0), (57, .int .i64 (l0.length : Int)), (58, .int .i64 (i2 : Int))]) (Rets Tryd.prog Tryd.f67 (punctualref_Played.Post w0))
theorem punctualref_Played_r4 (K : Nat) (w0 : World) (l0 : List SJob) (A0 : Option Addr) (c0 : Nat) (x1 : Int) (x2 : Bool) (x3 : Int) (x4 : Int) (hR0 : RdL w0 A0 l0) (hL0 : l0.length ≤ c0) (b1 : Nat) (hc1 : l0.length ≤ 17592186044416) (Z1 : Option Addr) (cz1 : Nat) (m3 : List Int) (mp3 : List (Int × Int)) (hc3 : 0 ≤ x4) (hc4 : ((x4).toNat) ≤ 5864062014805) (xr1 : Rows) (z1 : Int) (m4 : List Int) (m5 : List (List Int)) (xr2 : Rows) (mp4 : List (Int × Int)) (hc5 : z1 < x4) (hc6 : (punctualref_Always.f z1) = true) (m8 : List Int) (i2 : Nat) (hc7 : (i2 : Int) < (l0.length : Int)) (e3 : SJob) (hx5 : l0[i2]? = some e3) (b3 : Nat) (Z2 : Option Addr) (cz2 : Nat) (q2 : Bool) (hc9 : q2 = true) (s : Int) (o : Int ⊕ (Int ⊕ ((List (List Int)) × (List Int)))) (h : punctualref_Played.r4 l0 x1 m8 i2 s = some o) (a : Act) (w : World) (hA : punctualref_Played.A4 K w0 l0 A0 c0 x1 x2 x3 x4 hR0 hL0 b1 hc1 Z1 cz1 m3 mp3 hc3 hc4 xr1 z1 m4 m5 xr2 mp4 hc5 hc6 m8 i2 hc7 e3 hx5 b3 Z2 cz2 q2 hc9 s a w) (Q : Exit → Act → World → Prop) (hQ : ∀ x a w, Outs (punctualref_Played.A4 K w0 l0 A0 c0 x1 x2 x3 x4 hR0 hL0 b1 hc1 Z1 cz1 m3 mp3 hc3 hc4 xr1 z1 m4 m5 xr2 mp4 hc5 hc6 m8 i2 hc7 e3 hx5 b3 Z2 cz2 q2 hc9) (punctualref_Played.B4 K w0 l0 A0 c0 x1 x2 x3 x4 hR0 hL0 b1 hc1 Z1 cz1 m3 mp3 hc3 hc4 xr1 z1 m4 m5 xr2 mp4 hc5 hc6 m8 i2 hc7 e3 hx5 b3 Z2 cz2 q2 hc9) o x a w → Q x a w) : (subF Tryd.f67 [1, 1, 1, 1, 1, 0, 1, 0, 0, 1, 0, 0, 1, 1, 0, 1, 0, 0, 1, 1, 0, 0, 1, 1, 0, 1, 0, 0, 0]).wp Tryd.prog Q a w := by
  obtain ⟨z2, hs⟩ : ∃ z, z = s := ⟨s, rfl⟩
  subst hs
  obtain ⟨hS, hF⟩ := hA
  replace hS : St w0 w [Own.of (.slice Z1 m4.length cz1) 3 m4, Own.nest xr2 23 3 m5, Own.of (.slice Z2 m8.length cz2) 3 m8, Own.map (κ := Int) (ν := Int) b1 mp4] := hS
  simp only [punctualref_Played.r4] at h
  refine (?_ : WE Tryd.prog 169 (subF Tryd.f67 [1, 1, 1, 1, 1, 0, 1, 0, 0, 1, 0, 0, 1, 1, 0, 1, 0, 0, 1, 1, 0, 0, 1, 1, 0, 1, 0, 0, 0]) Q [(0, .slice A0 l0.length c0), (1, .int .i64 x1), (2, .bool x2), (3, .int .i64 x3), (4, .int .i64 x4), (5, .func (.func 68) #[] #[]), (14, .map (some b1)), (15, (.slice Z1 m4.length cz1)), (18, (Rows.val xr2)), (19, .int .i64 z1), (20, (.slice Z2 m8.length cz2)), (21, .int .i64 (i2 : Int)), (23, .int .i64 z2), (56, .slice A0 l0.length c0), (57, .int .i64 (l0.length : Int)), (58, .int .i64 (i2 : Int))] w) a hF
  clear hF a
  refine we_seq fun K29 hK29 => ?_
  refine we_seq fun K30 hK30 => ?_
  refine we_region [(0, 0), (1, 0), (2, 0), (3, 0), (4, 0), (5, 0), (6, 0), (7, 0), (8, 0), (9, 0), (10, 0), (11, 1), (12, 0)] rfl ?_
  refine ge_batch [0, 1, 2] (ans := []) (vs := [(77, .bool (decide (z2 > 0))), (76, .bool (decide (z2 > 0))), (75, .int .i64 z2)]) (l := []) (by kernel_rfl) trivial ?_
  by_cases hc10 : z2 > 0
  · rw [if_pos hc10] at h
    refine ge_known (t := 77) (b := decide (z2 > 0)) (c := true) (by kernel_rfl) (decide_eq_true hc10) ?_
    refine ge_batch [3, 4, 5, 6, 7] (ans := []) (vs := [(82, .int .i64 (IntKind.i64.wrap (z2 - 1))), (81, .int .i64 z2), (80, (.slice Z2 m8.length cz2)), (79, .int .i64 (i2 : Int)), (78, .slice A0 l0.length c0)]) (l := []) (by kernel_rfl) trivial ?_
    by_cases hc11 : 0 ≤ (IntKind.i64.wrap (z2 - 1))
    · rw [if_pos hc11] at h
      rcases hx7 : m8[(IntKind.i64.wrap (z2 - 1)).toNat]? with _ | e4
      · rw [hx7] at h; cases h
      rw [hx7] at h
      simp only [] at h
      refine ge_index (d := 83) (ty := 0) (t := 23) (el := 3) (sz := 1) (m := m8.length) (c := cz2) (x := (.tmp 80)) (y := (.tmp 82)) (A := Z2) (k' := .i64) (j := (IntKind.i64.wrap (z2 - 1))) (jn := ((IntKind.i64.wrap (z2 - 1)).toNat)) (b0 := blkOf Z2) (o0 := offOf Z2) (by kernel_rfl) (by kernel_rfl) (by kernel_rfl) (by kernel_rfl) (by kernel_rfl) ((hS.rdAt 2 rfl).eqSome (pos_of_get hx7)) (Int.toNat_of_nonneg hc11).symm (lt_of_get hx7) ?_
      rcases hq4 : punctualref_Goes.f l0 (i2 : Int) e4 x1 with _ | r1
      · rw [hq4] at h; cases h
      rw [hq4] at h
      simp only [] at h
      refine ge_batch [9, 10] (ans := [.val (.int .i64 e4)]) (vs := [(85, .int .i64 x1), (84, .int .i64 e4)]) (l := [.loaded ⟨blkOf Z2, offOf Z2 + ((IntKind.i64.wrap (z2 - 1)).toNat) * 1, none⟩ (.int .i64 e4)]) (by kernel_rfl) ⟨RdL.cell (j := 0) (hS.rdAt 2 rfl) hx7 rfl, trivial⟩ ?_
      refine ge_call (d := some 86) (f := 91) (args := #[.slice A0 l0.length c0, .int .i64 (i2 : Int), .int .i64 e4, .int .i64 x1]) (by kernel_rfl) (punctualref_Goes_ok l0 A0 c0 (i2 : Int) e4 x1 _ (hS.rd hR0) hL0 _ hq4) ?_
      rintro _ w13 ⟨rfl, hS51⟩
      refine ⟨_, rfl, hS51.below, ?_⟩
      have hS52 := hS.call hS51
      refine ge_batch [12] (ans := []) (vs := [(87, .bool r1)]) (l := []) (by kernel_rfl) trivial ?_
      refine ge_nil fun a hF => hK30 _ _ ?_ a hF
      by_cases hc12 : r1 = true
      · rw [if_pos hc12] at h
        refine we_known (t := 87) (b := r1) (v := true) (by kernel_rfl) hc12 ?_
        refine we_true (by kernel_rfl) ?_
        refine we_skip fun a hF => hK29 _ _ ?_ a hF
        refine we_block ?_
        refine we_region [(0, 0), (1, 0), (2, 0)] rfl ?_
        refine ge_batch [0, 1, 2] (ans := []) (vs := [(23, .int .i64 (IntKind.i64.wrap (z2 - 1))), (89, .int .i64 (IntKind.i64.wrap (z2 - 1))), (88, .int .i64 z2)]) (l := []) (by kernel_rfl) trivial ?_
        have hS53 := hS52.bring 3 rfl
        have hS54 := hS53.bring 3 rfl
        have hS55 := hS54.bring 3 rfl
        have hS56 := hS55.bring 3 rfl
        obtain rfl := Option.some.inj h
        exact ge_nil fun a hF => hQ _ _ _ (Outs.again ⟨hS56, hF.weaken ⟨by kernel_rfl, by kernel_rfl, by kernel_rfl, by kernel_rfl, by kernel_rfl, by kernel_rfl, by kernel_rfl, by kernel_rfl, by kernel_rfl, by kernel_rfl, by kernel_rfl, by kernel_rfl, by kernel_rfl, by kernel_rfl, by kernel_rfl, by kernel_rfl, trivial⟩⟩)
      · rw [if_neg hc12] at h
        refine we_known (t := 87) (b := r1) (v := false) (by kernel_rfl) (Bool.eq_false_iff.2 hc12) ?_
        refine we_false (by kernel_rfl) ?_
        have hS57 := hS52.bring 3 rfl
        have hS58 := hS57.bring 3 rfl
        have hS59 := hS58.bring 3 rfl
        have hS60 := hS59.bring 3 rfl
        obtain rfl := Option.some.inj h
        exact we_exit fun a hF => hQ _ _ _ (Outs.out nofun (Exits.here ⟨hS60, hF.weaken ⟨by kernel_rfl, by kernel_rfl, by kernel_rfl, by kernel_rfl, by kernel_rfl, by kernel_rfl, by kernel_rfl, by kernel_rfl, by kernel_rfl, by kernel_rfl, by kernel_rfl, by kernel_rfl, by kernel_rfl, by kernel_rfl, by kernel_rfl, by kernel_rfl, trivial⟩⟩))
    · rw [if_neg hc11] at h
      cases h
  · rw [if_neg hc10] at h
    refine ge_known (t := 77) (b := decide (z2 > 0)) (c := false) (by kernel_rfl) (decide_eq_false hc10) ?_
    refine ge_batch [3, 4, 5, 6, 7, 8, 9, 10] (ans := []) (vs := [(85, undef), (84, undef), (83, undef), (82, undef), (81, undef), (80, undef), (79, undef), (78, undef)]) (l := []) (by kernel_rfl) trivial ?_
    refine ge_off rfl rfl rfl (by kernel_rfl) ?_
    refine ge_batch [12] (ans := []) (vs := [(87, .bool false)]) (l := []) (by kernel_rfl) trivial ?_
    refine ge_nil fun a hF => hK30 _ _ ?_ a hF
    refine we_false (by kernel_rfl) ?_
    have hS61 := hS.bring 3 rfl
    have hS62 := hS61.bring 3 rfl
    have hS63 := hS62.bring 3 rfl
    have hS64 := hS63.bring 3 rfl
    obtain rfl := Option.some.inj h
    exact we_exit fun a hF => hQ _ _ _ (Outs.out nofun (Exits.here ⟨hS64, hF.weaken ⟨by kernel_rfl, by kernel_rfl, by kernel_rfl, by kernel_rfl, by kernel_rfl, by kernel_rfl, by kernel_rfl, by kernel_rfl, by kernel_rfl, by kernel_rfl, by kernel_rfl, by kernel_rfl, by kernel_rfl, by kernel_rfl, by kernel_rfl, by kernel_rfl, trivial⟩⟩))
abbrev punctualref_Played.A2 (K : Nat) (w0 : World) (l0 : List SJob) (A0 : Option Addr) (c0 : Nat) (x1 : Int) (x2 : Bool) (x3 : Int) (x4 : Int) (hR0 : RdL w0 A0 l0) (hL0 : l0.length ≤ c0) (b1 : Nat) (hc1 : l0.length ≤ 17592186044416) (Z1 : Option Addr) (cz1 : Nat) (m3 : List Int) (mp3 : List (Int × Int)) (hc3 : 0 ≤ x4) (hc4 : ((x4).toNat) ≤ 5864062014805) (xr1 : Rows) (z1 : Int) (m4 : List Int) (m5 : List (List Int)) (xr2 : Rows) (mp4 : List (Int × Int)) (hc5 : z1 < x4) (hc6 : (punctualref_Always.f z1) = true) : ((List Int) × Nat) → Act → World → Prop := fun (s : (List Int) × Nat) a w => ∃ (v3 : Value), St w0 w [Own.of (.slice Z1 m4.length cz1) 3 m4, Own.nest xr2 23 3 m5, Own.of v3 3 s.1, Own.map (κ := Int) (ν := Int) b1 mp4] ∧ Frm 169 a [(0, .slice A0 l0.length c0), (1, .int .i64 x1), (2, .bool x2), (3, .int .i64 x3), (4, .int .i64 x4), (5, .func (.func 68) #[] #[]), (14, .map (some b1)), (15, (.slice Z1 m4.length cz1)), (18, (Rows.val xr2)), (19, .int .i64 z1), (20, v3), (56, .slice A0 l0.length c0), (57, .int .i64 (l0.length : Int)), (58, .int .i64 (s.2 : Int))]
abbrev punctualref_Played.B2 (K : Nat) (w0 : World) (l0 : List SJob) (A0 : Option Addr) (c0 : Nat) (x1 : Int) (x2 : Bool) (x3 : Int) (x4 : Int) (hR0 : RdL w0 A0 l0) (hL0 : l0.length ≤ c0) (b1 : Nat) (hc1 : l0.length ≤ 17592186044416) (Z1 : Option Addr) (cz1 : Nat) (m3 : List Int) (mp3 : List (Int × Int)) (hc3 : 0 ≤ x4) (hc4 : ((x4).toNat) ≤ 5864062014805) (xr1 : Rows) (z1 : Int) (m4 : List Int) (m5 : List (List Int)) (xr2 : Rows) (mp4 : List (Int × Int)) (hc5 : z1 < x4) (hc6 : (punctualref_Always.f z1) = true) : ((List Int) ⊕ ((List (List Int)) × (List Int))) → Exit → Act → World → Prop := Exits 4 (fun (s : (List Int)) a w => ∃ (v4 : Value), St w0 w [Own.of (.slice Z1 m4.length cz1) 3 m4, Own.nest xr2 23 3 m5, Own.of v4 3 s, Own.map (κ := Int) (ν := Int) b1 mp4] ∧ Frm 169 a [(0, .slice A0 l0.length c0), (1, .int .i64 x1), (2, .bool x2), (3, .int .i64 x3), (4, .int .i64 x4), (5, .func (.func 68) #[] #[]), (14, .map (some b1)), (15, (.slice Z1 m4.length cz1)), (18, (Rows.val xr2)), (19, .int .i64 z1), (20, v4)]) (Rets Tryd.prog Tryd.f67 (punctualref_Played.Post w0))
theorem punctualref_Played_r2 (K : Nat) (w0 : World) (l0 : List SJob) (A0 : Option Addr) (c0 : Nat) (x1 : Int) (x2 : Bool) (x3 : Int) (x4 : Int) (hR0 : RdL w0 A0 l0) (hL0 : l0.length ≤ c0) (b1 : Nat) (hc1 : l0.length ≤ 17592186044416) (Z1 : Option Addr) (cz1 : Nat) (m3 : List Int) (mp3 : List (Int × Int)) (hc3 : 0 ≤ x4) (hc4 : ((x4).toNat) ≤ 5864062014805) (xr1 : Rows) (z1 : Int) (m4 : List Int) (m5 : List (List Int)) (xr2 : Rows) (mp4 : List (Int × Int)) (hc5 : z1 < x4) (hc6 : (punctualref_Always.f z1) = true) (s : (List Int) × Nat) (o : ((List Int) × Nat) ⊕ ((List Int) ⊕ ((List (List Int)) × (List Int)))) (h : punctualref_Played.r2 K l0 x1 z1 mp4 s = some o) (a : Act) (w : World) (hA : punctualref_Played.A2 K w0 l0 A0 c0 x1 x2 x3 x4 hR0 hL0 b1 hc1 Z1 cz1 m3 mp3 hc3 hc4 xr1 z1 m4 m5 xr2 mp4 hc5 hc6 s a w) (Q : Exit → Act → World → Prop) (hQ : ∀ x a w, Outs (punctualref_Played.A2 K w0 l0 A0 c0 x1 x2 x3 x4 hR0 hL0 b1 hc1 Z1 cz1 m3 mp3 hc3 hc4 xr1 z1 m4 m5 xr2 mp4 hc5 hc6) (punctualref_Played.B2 K w0 l0 A0 c0 x1 x2 x3 x4 hR0 hL0 b1 hc1 Z1 cz1 m3 mp3 hc3 hc4 xr1 z1 m4 m5 xr2 mp4 hc5 hc6) o x a w → Q x a w) : (subF Tryd.f67 [1, 1, 1, 1, 1, 0, 1, 0, 0, 1, 0, 0, 1, 1, 0, 1, 0, 0]).wp Tryd.prog Q a w := by
  obtain ⟨m8, i2⟩ := s
  obtain ⟨v3, hS, hF⟩ := hA
  replace hS : St w0 w [Own.of (.slice Z1 m4.length cz1) 3 m4, Own.nest xr2 23 3 m5, Own.of v3 3 m8, Own.map (κ := Int) (ν := Int) b1 mp4] := hS
  simp only [punctualref_Played.r2] at h
  refine (?_ : WE Tryd.prog 169 (subF Tryd.f67 [1, 1, 1, 1, 1, 0, 1, 0, 0, 1, 0, 0, 1, 1, 0, 1, 0, 0]) Q [(0, .slice A0 l0.length c0), (1, .int .i64 x1), (2, .bool x2), (3, .int .i64 x3), (4, .int .i64 x4), (5, .func (.func 68) #[] #[]), (14, .map (some b1)), (15, (.slice Z1 m4.length cz1)), (18, (Rows.val xr2)), (19, .int .i64 z1), (20, v3), (56, .slice A0 l0.length c0), (57, .int .i64 (l0.length : Int)), (58, .int .i64 (i2 : Int))] w) a hF
  clear hF a
  refine we_seq fun K22 hK22 => ?_
  refine we_region [(0, 0)] rfl ?_
  refine ge_batch [0] (ans := []) (vs := [(59, .bool (decide ((i2 : Int) < (l0.length : Int))))]) (l := []) (by kernel_rfl) trivial ?_
  refine ge_nil fun a hF => hK22 _ _ ?_ a hF
  refine we_seq fun K23 hK23 => ?_
  by_cases hc7 : (i2 : Int) < (l0.length : Int)
  · rw [if_pos hc7] at h
    refine we_known (t := 59) (b := decide ((i2 : Int) < (l0.length : Int))) (v := true) (by kernel_rfl) (decide_eq_true hc7) ?_
    refine we_true (by kernel_rfl) ?_
    refine we_skip fun a hF => hK23 _ _ ?_ a hF
    refine we_seq fun K24 hK24 => ?_
    refine we_block ?_
    refine we_seq fun K25 hK25 => ?_
    refine we_region [(0, 0), (1, 0), (2, 0), (3, 1), (4, 0), (5, 2)] rfl ?_
    refine ge_batch [0] (ans := []) (vs := [(60, .int .i64 (i2 : Int))]) (l := []) (by kernel_rfl) trivial ?_
    rcases hx5 : l0[i2]? with _ | e3
    · rw [hx5] at h; cases h
    rw [hx5] at h
    simp only [] at h
    refine ge_index (d := 61) (ty := 0) (t := 22) (el := 30) (sz := 5) (m := l0.length) (c := c0) (x := (.tmp 56)) (y := (.tmp 58)) (A := A0) (k' := .i64) (j := (i2 : Int)) (jn := i2) (b0 := blkOf A0) (o0 := offOf A0) (by kernel_rfl) (by kernel_rfl) (by kernel_rfl) (by kernel_rfl) (by kernel_rfl) ((hS.rd hR0).eqSome (pos_of_get hx5)) rfl (lt_of_get hx5) ?_
    refine ge_batch [2] (ans := [.val (.int .i64 e3.Task), .val (.int .i64 e3.At), .val (.int .i64 e3.C), .val (.int .i64 e3.Due), .val (.int .i64 e3.P)]) (vs := [(62, .agg #[.int .i64 e3.Task, .int .i64 e3.At, .int .i64 e3.C, .int .i64 e3.Due, .int .i64 e3.P])]) (l := [.loaded ⟨blkOf A0, offOf A0 + i2 * 5, none⟩ (.int .i64 e3.Task), .loaded ⟨blkOf A0, offOf A0 + i2 * 5 + 1, none⟩ (.int .i64 e3.At), .loaded ⟨blkOf A0, offOf A0 + i2 * 5 + 2, none⟩ (.int .i64 e3.C), .loaded ⟨blkOf A0, offOf A0 + i2 * 5 + 3, none⟩ (.int .i64 e3.Due), .loaded ⟨blkOf A0, offOf A0 + i2 * 5 + 4, none⟩ (.int .i64 e3.P)]) (by kernel_rfl) ⟨RdL.cell (j := 0) (hS.rd hR0) hx5 rfl, RdL.cell (j := 1) (hS.rd hR0) hx5 rfl, RdL.cell (j := 2) (hS.rd hR0) hx5 rfl, RdL.cell (j := 3) (hS.rd hR0) hx5 rfl, RdL.cell (j := 4) (hS.rd hR0) hx5 rfl, trivial⟩ ?_
    refine ge_new (d := some 22) (o := .cells #[.int .i64 0, .int .i64 0, .int .i64 0, .int .i64 0, .int .i64 0] 30) (v := fun b => .pointer (some ⟨b, 0, none⟩)) hS (fun b => by kernel_rfl) fun b3 w10 hx6 hS33 => ?_
    refine ge_batch [4] (ans := []) (vs := [(21, .int .i64 (i2 : Int))]) (l := []) (by kernel_rfl) trivial ?_
    refine ge_set (b := b3) (j := 0) (cs := #[.int .i64 0, .int .i64 0, .int .i64 0, .int .i64 0, .int .i64 0]) (t := 30) (vs := [.int .i64 e3.Task, .int .i64 e3.At, .int .i64 e3.C, .int .i64 e3.Due, .int .i64 e3.P]) hS33 (by kernel_rfl) rfl rfl fun w11 hS34 => ?_
    have hS35 : St w0 w11 [Own.blk b3 (.cells #[.int .i64 e3.Task, .int .i64 e3.At, .int .i64 e3.C, .int .i64 e3.Due, .int .i64 e3.P] 30 (0, 0)), Own.of (.slice Z1 m4.length cz1) 3 m4, Own.nest xr2 23 3 m5, Own.of v3 3 m8, Own.map (κ := Int) (ν := Int) b1 mp4] := hS34
    refine ge_nil fun a hF => hK25 _ _ ?_ a hF
    refine we_seq fun K26 hK26 => ?_
    obtain ⟨Z2, cz2, rfl⟩ := hS35.open 3 rfl
    rcases hq3 : punctualref_Played.p3 z1 mp4 i2 e3 with _ | (q2 | rr2)
    · rw [hq3] at h; cases h
    · rw [hq3] at h
      simp only [] at h
      refine we_keep (e' := [(0, .slice A0 l0.length c0), (1, .int .i64 x1), (2, .bool x2), (3, .int .i64 x3), (4, .int .i64 x4), (5, .func (.func 68) #[] #[]), (14, .map (some b1)), (15, (.slice Z1 m4.length cz1)), (18, (Rows.val xr2)), (19, .int .i64 z1), (20, (.slice Z2 m8.length cz2)), (21, .int .i64 (i2 : Int)), (22, .pointer (some ⟨b3, 0, none⟩)), (56, .slice A0 l0.length c0), (57, .int .i64 (l0.length : Int)), (58, .int .i64 (i2 : Int)), (59, .bool true), (60, .int .i64 (i2 : Int)), (61, .pointer (some ⟨blkOf A0, offOf A0 + i2 * 5, none⟩)), (62, .agg #[.int .i64 e3.Task, .int .i64 e3.At, .int .i64 e3.C, .int .i64 e3.Due, .int .i64 e3.P])]) ⟨by kernel_rfl, by kernel_rfl, by kernel_rfl, by kernel_rfl, by kernel_rfl, by kernel_rfl, by kernel_rfl, by kernel_rfl, by kernel_rfl, by kernel_rfl, by kernel_rfl, by kernel_rfl, by kernel_rfl, by kernel_rfl, by kernel_rfl, by kernel_rfl, by kernel_rfl, by kernel_rfl, by kernel_rfl, by kernel_rfl, trivial⟩ (punctualref_Played_p3 K w0 l0 A0 c0 x1 x2 x3 x4 hR0 hL0 b1 hc1 Z1 cz1 m3 mp3 hc3 hc4 xr1 z1 m4 m5 xr2 mp4 hc5 hc6 m8 i2 hc7 e3 hx5 b3 Z2 cz2 _ hq3 _ hS35 _ ?_)
      rintro _ a w12 ⟨rfl, hS46, hF⟩
      replace hS46 : St w0 w12 [Own.of (.slice Z1 m4.length cz1) 3 m4, Own.nest xr2 23 3 m5, Own.of (.slice Z2 m8.length cz2) 3 m8, Own.map (κ := Int) (ν := Int) b1 mp4] := hS46
      refine hK26 [(0, .slice A0 l0.length c0), (1, .int .i64 x1), (2, .bool x2), (3, .int .i64 x3), (4, .int .i64 x4), (5, .func (.func 68) #[] #[]), (14, .map (some b1)), (15, (.slice Z1 m4.length cz1)), (18, (Rows.val xr2)), (19, .int .i64 z1), (20, (.slice Z2 m8.length cz2)), (21, .int .i64 (i2 : Int)), (56, .slice A0 l0.length c0), (57, .int .i64 (l0.length : Int)), (58, .int .i64 (i2 : Int)), (72, .bool q2)] w12 ?_ a hF
      by_cases hc9 : q2 = true
      · rw [if_pos hc9] at h
        refine we_known (t := 72) (b := q2) (v := true) (by kernel_rfl) hc9 ?_
        refine we_true (by kernel_rfl) ?_
        refine we_seq fun K27 hK27 => ?_
        refine we_region [(0, 0), (1, 0), (2, 0)] rfl ?_
        refine ge_batch [0, 1, 2] (ans := []) (vs := [(23, .int .i64 (m8.length : Int)), (74, .int .i64 (m8.length : Int)), (73, (.slice Z2 m8.length cz2))]) (l := []) (by kernel_rfl) trivial ?_
        refine ge_nil fun a hF => hK27 _ _ ?_ a hF
        refine we_seq fun K28 hK28 => ?_
        refine we_block ?_
        have hS47 := hS46.bring 3 rfl
        have hS48 := hS47.bring 3 rfl
        have hS49 := hS48.bring 3 rfl
        have hS50 := hS49.bring 3 rfl
        rcases hq5 : iter (punctualref_Played.r4 l0 x1 m8 i2) K (m8.length : Int) with _ | (z4 | rr1)
        · rw [hq5] at h; cases h
        · rw [hq5] at h
          simp only [] at h
          refine we_iter (A := punctualref_Played.A4 K w0 l0 A0 c0 x1 x2 x3 x4 hR0 hL0 b1 hc1 Z1 cz1 m3 mp3 hc3 hc4 xr1 z1 m4 m5 xr2 mp4 hc5 hc6 m8 i2 hc7 e3 hx5 b3 Z2 cz2 q2 hc9) (B := punctualref_Played.B4 K w0 l0 A0 c0 x1 x2 x3 x4 hR0 hL0 b1 hc1 Z1 cz1 m3 mp3 hc3 hc4 xr1 z1 m4 m5 xr2 mp4 hc5 hc6 m8 i2 hc7 e3 hx5 b3 Z2 cz2 q2 hc9) hq5 (fun a hF => ⟨hS50, hF.weaken ⟨by kernel_rfl, by kernel_rfl, by kernel_rfl, by kernel_rfl, by kernel_rfl, by kernel_rfl, by kernel_rfl, by kernel_rfl, by kernel_rfl, by kernel_rfl, by kernel_rfl, by kernel_rfl, by kernel_rfl, by kernel_rfl, by kernel_rfl, by kernel_rfl, trivial⟩⟩) (fun s o hf a w hA Q hQ => punctualref_Played_r4 K w0 l0 A0 c0 x1 x2 x3 x4 hR0 hL0 b1 hc1 Z1 cz1 m3 mp3 hc3 hc4 xr1 z1 m4 m5 xr2 mp4 hc5 hc6 m8 i2 hc7 e3 hx5 b3 Z2 cz2 q2 hc9 s o hf a w hA Q hQ) ?_
          rintro _ a w14 _ ⟨rfl, hS65, hF⟩
          replace hS65 : St w0 w14 [Own.of (.slice Z1 m4.length cz1) 3 m4, Own.nest xr2 23 3 m5, Own.of (.slice Z2 m8.length cz2) 3 m8, Own.map (κ := Int) (ν := Int) b1 mp4] := hS65
          refine hK28 [(0, .slice A0 l0.length c0), (1, .int .i64 x1), (2, .bool x2), (3, .int .i64 x3), (4, .int .i64 x4), (5, .func (.func 68) #[] #[]), (14, .map (some b1)), (15, (.slice Z1 m4.length cz1)), (18, (Rows.val xr2)), (19, .int .i64 z1), (20, (.slice Z2 m8.length cz2)), (21, .int .i64 (i2 : Int)), (23, .int .i64 z4), (56, .slice A0 l0.length c0), (57, .int .i64 (l0.length : Int)), (58, .int .i64 (i2 : Int))] w14 ?_ a hF
          refine we_orders2 (by kernel_rfl) [] (.vals [0] (.vals [1] (.vals [2] (.vals [3] (.vals [5] (.vals [6] (.vals [7] (.alt 4 1 (.alt 8 2 (.alt 9 2 (.vals [10] .fin) .nomore) .nomore) .nomore)))))))) (by kernel_rfl) ?_
          have hS66 := hS65.drew
          refine go2_batch [0, 1] (ans := []) (vs := [(91, .int .i64 z4), (90, (.slice Z2 m8.length cz2))]) (l := []) (by kernel_rfl) trivial mem_nil ?_
          by_cases hc13 : 0 ≤ z4
          · rw [if_pos hc13] at h
            by_cases hc14 : ((z4).toNat) ≤ m8.length
            · rw [if_pos hc14] at h
              refine go2_sliceHi (d := 92) (ty := 23) (t := 23) (el := 3) (sz := 1) (m := m8.length) (c := cz2) (hn := ((z4).toNat)) (x := (.tmp 90)) (y := (.tmp 91)) (A := Z2) (k' := .i64) (hi := z4) (by kernel_rfl) (by kernel_rfl) (by kernel_rfl) (Int.toNat_of_nonneg hc13).symm (by kernel_rfl) (by kernel_rfl) (by have f0 := hc14; have f1 := (hS66.capAt 2 rfl); omega) ?_
              refine go2_same (t := 92) (v := .slice Z2 ((z4).toNat) cz2) (v' := .slice Z2 ((m8.take ((z4).toNat)).length) cz2) (by kernel_rfl) (congrArg (fun z => Value.slice Z2 z cz2) (show (z4).toNat = (m8.take ((z4).toNat)).length by have f0 := hc14; have f1 := (hS66.capAt 2 rfl); simp only [List.length_take]; omega)) ?_
              refine go2_batch [3, 5, 6] (ans := []) (vs := [(96, .int .i64 z4), (95, (.slice Z2 m8.length cz2)), (93, .int .i64 (i2 : Int))]) (l := []) (by kernel_rfl) trivial mem_nil ?_
              refine go2_part (d := 97) (ty := 23) (t := 23) (el := 3) (sz := 1) (m := m8.length) (c := cz2) (lo := ((z4).toNat)) (hi := m8.length) (x := (.tmp 95)) (xl := some (.tmp 96)) (xh := none) (A := Z2) (by kernel_rfl) (by kernel_rfl) ⟨.i64, z4, by kernel_rfl, (Int.toNat_of_nonneg hc13).symm⟩ rfl (by kernel_rfl) (by kernel_rfl) (by have f0 := hc14; have f1 := (hS66.capAt 2 rfl); omega) (by have f0 := hc14; have f1 := (hS66.capAt 2 rfl); omega) ?_
              refine go2_same (t := 97) (v := .slice (subA Z2 cz2 ((z4).toNat) 1) (m8.length - ((z4).toNat)) (cz2 - ((z4).toNat))) (v' := .slice (subA Z2 cz2 ((z4).toNat) 1) (((m8.take m8.length).drop ((z4).toNat)).length) (cz2 - ((z4).toNat))) (by kernel_rfl) (congrArg (fun z => Value.slice (subA Z2 cz2 ((z4).toNat) 1) z (cz2 - ((z4).toNat))) (show m8.length - ((z4).toNat) = ((m8.take m8.length).drop ((z4).toNat)).length by have f0 := hc14; have f1 := (hS66.capAt 2 rfl); simp only [List.length_drop, List.length_take]; omega)) ?_
              refine go_alt2 (fun KK hKK => ?_) ?_
              · refine ge_one2 ?_
                refine ge_new (d := some 94) (o := .cells #[.int .i64 (i2 : Int)] 3) (v := fun b => .slice (some ⟨b, 0, none⟩) 1 1) hS66 (fun b => by kernel_rfl) fun b4 w15 hx8 hS67 => ?_
                refine ge_nil fun a hF => hKK _ _ (RS.of2 (l := []) (by kernel_rfl) trivial trivial) ?_ a hF
                refine go_alt2 (fun KK hKK => ?_) ?_
                · have hS68 := hS67.asRow (α := Int) (c := 1) ([(i2 : Int)] : List Int) (Nat.le_refl _) (by decide) rfl rfl
                  by_cases hc15 : ([(i2 : Int)] : List Int).length + ((m8.take m8.length).drop ((z4).toNat)).length ≤ 17592186044416
                  · rw [if_pos hc15] at h
                    refine ge_appendL (α := Int) (m := 0) (d := 98) (t := 23) (el := 3) (bytes := 8) (c1 := (cz2 - ((z4).toNat))) (A1 := (subA Z2 cz2 ((z4).toNat) 1)) (x := (.tmp 94)) (y := (.tmp 97)) (ty := 23) (v := (.slice (some ⟨b4, 0, none⟩) 1 1)) (z := .int .i64 0) (l := ([(i2 : Int)] : List Int)) (us := ((m8.take m8.length).drop ((z4).toNat))) (by kernel_rfl) (by kernel_rfl) (by kernel_rfl) (by kernel_rfl) (by kernel_rfl) rfl hS68 (RdL.part (hS68.rdAt 3 rfl) (hS68.capAt 3 rfl) ((z4).toNat) m8.length) rfl (Nat.mul_le_of_le_div _ _ _ hc15) fun v5 w16 hS69 => ?_
                    have hS70 : St w0 w16 [Own.of v5 3 (([(i2 : Int)] : List Int) ++ ((m8.take m8.length).drop ((z4).toNat))), Own.of (.slice Z1 m4.length cz1) 3 m4, Own.nest xr2 23 3 m5, Own.of (.slice Z2 m8.length cz2) 3 m8, Own.map (κ := Int) (ν := Int) b1 mp4] := hS69
                    refine ge_nil fun a hF => hKK _ _ (RS.of2 (l := []) (by kernel_rfl) trivial trivial) ?_ a hF
                    refine go_alt2 (fun KK hKK => ?_) ?_
                    · have hS71 := hS70.bring 3 rfl
                      have hS72 := hS71.shrink ((z4).toNat)
                      obtain ⟨Z3, cz3, rfl⟩ := hS72.open 1 rfl
                      by_cases hc16 : (m8.take ((z4).toNat)).length + (([(i2 : Int)] : List Int) ++ ((m8.take m8.length).drop ((z4).toNat))).length ≤ 17592186044416
                      · rw [if_pos hc16] at h
                        refine ge_appendL (α := Int) (m := 0) (d := 99) (t := 23) (el := 3) (bytes := 8) (c1 := cz3) (A1 := Z3) (x := (.tmp 92)) (y := (.tmp 98)) (ty := 23) (v := (.slice Z2 (m8.take ((z4).toNat)).length cz2)) (z := .int .i64 0) (l := (m8.take ((z4).toNat))) (us := (([(i2 : Int)] : List Int) ++ ((m8.take m8.length).drop ((z4).toNat)))) (by kernel_rfl) (by kernel_rfl) (by kernel_rfl) (by kernel_rfl) (by kernel_rfl) rfl hS72 (hS72.rdAt 1 rfl) rfl (Nat.mul_le_of_le_div _ _ _ hc16) fun v6 w17 hS73 => ?_
                        have hS74 : St w0 w17 [Own.of v6 3 ((m8.take ((z4).toNat)) ++ (([(i2 : Int)] : List Int) ++ ((m8.take m8.length).drop ((z4).toNat)))), Own.of (.slice Z3 (([(i2 : Int)] : List Int) ++ ((m8.take m8.length).drop ((z4).toNat))).length cz3) 3 (([(i2 : Int)] : List Int) ++ ((m8.take m8.length).drop ((z4).toNat))), Own.of (.slice Z1 m4.length cz1) 3 m4, Own.nest xr2 23 3 m5, Own.map (κ := Int) (ν := Int) b1 mp4] := hS73
                        refine ge_nil fun a hF => hKK _ _ (RS.of2 (l := []) (by kernel_rfl) trivial trivial) ?_ a hF
                        refine go2_batch [10] (ans := []) (vs := [(20, v6)]) (l := []) (by kernel_rfl) trivial mem_nil ?_
                        refine go_fin2 fun a hF => hK24 _ _ ?_ a hF
                        refine we_region [(0, 0), (1, 0)] rfl ?_
                        refine ge_addn (d := 100) (ty := 3) (x := (.tmp 58)) (y := (.const (.int .i64 1))) (t := 3) (t2 := 3) (k := .i64) (m := i2) (by kernel_rfl) (by kernel_rfl) (by kernel_rfl) (by have h0 := hR0.small; omega) ?_
                        refine ge_batch [1] (ans := []) (vs := [(58, .int .i64 ((i2 + 1 : Nat) : Int))]) (l := []) (by kernel_rfl) trivial ?_
                        have hS75 := hS74.bring 4 rfl
                        have hS76 := hS75.bring 1 rfl
                        have hS77 := hS76.bring 4 rfl
                        have hS78 := hS77.bring 4 rfl
                        have hS79 := hS78.takeN 4
                        obtain rfl := Option.some.inj h
                        exact ge_nil fun a hF => hQ _ _ _ (Outs.again ⟨v6, hS79, hF.weaken ⟨by kernel_rfl, by kernel_rfl, by kernel_rfl, by kernel_rfl, by kernel_rfl, by kernel_rfl, by kernel_rfl, by kernel_rfl, by kernel_rfl, by kernel_rfl, by kernel_rfl, by kernel_rfl, by kernel_rfl, by kernel_rfl, trivial⟩⟩)
                      · rw [if_neg hc16] at h
                        cases h
                    exact go_nomore2
                  · rw [if_neg hc15] at h
                    cases h
                exact go_nomore2
              exact go_nomore2
            · rw [if_neg hc14] at h
              cases h
          · rw [if_neg hc13] at h
            cases h
        · rw [hq5] at h
          simp only [] at h
          refine we_iter (A := punctualref_Played.A4 K w0 l0 A0 c0 x1 x2 x3 x4 hR0 hL0 b1 hc1 Z1 cz1 m3 mp3 hc3 hc4 xr1 z1 m4 m5 xr2 mp4 hc5 hc6 m8 i2 hc7 e3 hx5 b3 Z2 cz2 q2 hc9) (B := punctualref_Played.B4 K w0 l0 A0 c0 x1 x2 x3 x4 hR0 hL0 b1 hc1 Z1 cz1 m3 mp3 hc3 hc4 xr1 z1 m4 m5 xr2 mp4 hc5 hc6 m8 i2 hc7 e3 hx5 b3 Z2 cz2 q2 hc9) hq5 (fun a hF => ⟨hS50, hF.weaken ⟨by kernel_rfl, by kernel_rfl, by kernel_rfl, by kernel_rfl, by kernel_rfl, by kernel_rfl, by kernel_rfl, by kernel_rfl, by kernel_rfl, by kernel_rfl, by kernel_rfl, by kernel_rfl, by kernel_rfl, by kernel_rfl, by kernel_rfl, by kernel_rfl, trivial⟩⟩) (fun s o hf a w hA Q hQ => punctualref_Played_r4 K w0 l0 A0 c0 x1 x2 x3 x4 hR0 hL0 b1 hc1 Z1 cz1 m3 mp3 hc3 hc4 xr1 z1 m4 m5 xr2 mp4 hc5 hc6 m8 i2 hc7 e3 hx5 b3 Z2 cz2 q2 hc9 s o hf a w hA Q hQ) ?_
          rintro _ a w1 _ ⟨rfl, hb⟩
          obtain rfl := Option.some.inj h
          exact hQ _ _ _ (Outs.out nofun (Exits.on ⟨rfl, hb⟩))
      · rw [if_neg hc9] at h
        refine we_known (t := 72) (b := q2) (v := false) (by kernel_rfl) (Bool.eq_false_iff.2 hc9) ?_
        refine we_false (by kernel_rfl) ?_
        refine we_skip fun a hF => hK24 _ _ ?_ a hF
        refine we_region [(0, 0), (1, 0)] rfl ?_
        refine ge_addn (d := 100) (ty := 3) (x := (.tmp 58)) (y := (.const (.int .i64 1))) (t := 3) (t2 := 3) (k := .i64) (m := i2) (by kernel_rfl) (by kernel_rfl) (by kernel_rfl) (by have h0 := hR0.small; omega) ?_
        refine ge_batch [1] (ans := []) (vs := [(58, .int .i64 ((i2 + 1 : Nat) : Int))]) (l := []) (by kernel_rfl) trivial ?_
        have hS80 := hS46.bring 3 rfl
        have hS81 := hS80.bring 3 rfl
        have hS82 := hS81.bring 3 rfl
        have hS83 := hS82.bring 3 rfl
        obtain rfl := Option.some.inj h
        exact ge_nil fun a hF => hQ _ _ _ (Outs.again ⟨(.slice Z2 m8.length cz2), hS83, hF.weaken ⟨by kernel_rfl, by kernel_rfl, by kernel_rfl, by kernel_rfl, by kernel_rfl, by kernel_rfl, by kernel_rfl, by kernel_rfl, by kernel_rfl, by kernel_rfl, by kernel_rfl, by kernel_rfl, by kernel_rfl, by kernel_rfl, trivial⟩⟩)
    · rw [hq3] at h
      simp only [] at h
      refine we_keep (e' := [(0, .slice A0 l0.length c0), (1, .int .i64 x1), (2, .bool x2), (3, .int .i64 x3), (4, .int .i64 x4), (5, .func (.func 68) #[] #[]), (14, .map (some b1)), (15, (.slice Z1 m4.length cz1)), (18, (Rows.val xr2)), (19, .int .i64 z1), (20, (.slice Z2 m8.length cz2)), (21, .int .i64 (i2 : Int)), (22, .pointer (some ⟨b3, 0, none⟩)), (56, .slice A0 l0.length c0), (57, .int .i64 (l0.length : Int)), (58, .int .i64 (i2 : Int)), (59, .bool true), (60, .int .i64 (i2 : Int)), (61, .pointer (some ⟨blkOf A0, offOf A0 + i2 * 5, none⟩)), (62, .agg #[.int .i64 e3.Task, .int .i64 e3.At, .int .i64 e3.C, .int .i64 e3.Due, .int .i64 e3.P])]) ⟨by kernel_rfl, by kernel_rfl, by kernel_rfl, by kernel_rfl, by kernel_rfl, by kernel_rfl, by kernel_rfl, by kernel_rfl, by kernel_rfl, by kernel_rfl, by kernel_rfl, by kernel_rfl, by kernel_rfl, by kernel_rfl, by kernel_rfl, by kernel_rfl, by kernel_rfl, by kernel_rfl, by kernel_rfl, by kernel_rfl, trivial⟩ (punctualref_Played_p3 K w0 l0 A0 c0 x1 x2 x3 x4 hR0 hL0 b1 hc1 Z1 cz1 m3 mp3 hc3 hc4 xr1 z1 m4 m5 xr2 mp4 hc5 hc6 m8 i2 hc7 e3 hx5 b3 Z2 cz2 _ hq3 _ hS35 _ ?_)
      rintro _ a w1 ⟨_, rfl, hb⟩
      obtain rfl := Option.some.inj h
      exact hQ _ _ _ (Outs.out nofun (Exits.on ⟨rfl, hb⟩))
  · rw [if_neg hc7] at h
    refine we_known (t := 59) (b := decide ((i2 : Int) < (l0.length : Int))) (v := false) (by kernel_rfl) (decide_eq_false hc7) ?_
    refine we_false (by kernel_rfl) ?_
    have hS84 := hS.bring 3 rfl
    have hS85 := hS84.bring 3 rfl
    have hS86 := hS85.bring 3 rfl
    have hS87 := hS86.bring 3 rfl
    obtain rfl := Option.some.inj h
    exact we_exit fun a hF => hQ _ _ _ (Outs.out nofun (Exits.here ⟨v3, hS87, hF.weaken ⟨by kernel_rfl, by kernel_rfl, by kernel_rfl, by kernel_rfl, by kernel_rfl, by kernel_rfl, by kernel_rfl, by kernel_rfl, by kernel_rfl, by kernel_rfl, by kernel_rfl, trivial⟩⟩))
abbrev punctualref_Played.A5 (K : Nat) (w0 : World) (l0 : List SJob) (A0 : Option Addr) (c0 : Nat) (x1 : Int) (x2 : Bool) (x3 : Int) (x4 : Int) (hR0 : RdL w0 A0 l0) (hL0 : l0.length ≤ c0) (b1 : Nat) (hc1 : l0.length ≤ 17592186044416) (Z1 : Option Addr) (cz1 : Nat) (m3 : List Int) (mp3 : List (Int × Int)) (hc3 : 0 ≤ x4) (hc4 : ((x4).toNat) ≤ 5864062014805) (xr1 : Rows) (z1 : Int) (m4 : List Int) (m5 : List (List Int)) (xr2 : Rows) (mp4 : List (Int × Int)) (hc5 : z1 < x4) (hc6 : (punctualref_Always.f z1) = true) (m10 : List Int) (Z4 : Option Addr) (cz4 : Nat) : (List Int) → Act → World → Prop := fun (s : (List Int)) a w => ∃ (v8 : Value), St w0 w [Own.of (.slice Z1 m4.length cz1) 3 m4, Own.nest xr2 23 3 m5, Own.of v8 3 s, Own.map (κ := Int) (ν := Int) b1 mp4] ∧ Frm 169 a [(0, .slice A0 l0.length c0), (1, .int .i64 x1), (2, .bool x2), (3, .int .i64 x3), (4, .int .i64 x4), (5, .func (.func 68) #[] #[]), (14, .map (some b1)), (15, (.slice Z1 m4.length cz1)), (18, (Rows.val xr2)), (19, .int .i64 z1), (20, v8)]
abbrev punctualref_Played.B5 (K : Nat) (w0 : World) (l0 : List SJob) (A0 : Option Addr) (c0 : Nat) (x1 : Int) (x2 : Bool) (x3 : Int) (x4 : Int) (hR0 : RdL w0 A0 l0) (hL0 : l0.length ≤ c0) (b1 : Nat) (hc1 : l0.length ≤ 17592186044416) (Z1 : Option Addr) (cz1 : Nat) (m3 : List Int) (mp3 : List (Int × Int)) (hc3 : 0 ≤ x4) (hc4 : ((x4).toNat) ≤ 5864062014805) (xr1 : Rows) (z1 : Int) (m4 : List Int) (m5 : List (List Int)) (xr2 : Rows) (mp4 : List (Int × Int)) (hc5 : z1 < x4) (hc6 : (punctualref_Always.f z1) = true) (m10 : List Int) (Z4 : Option Addr) (cz4 : Nat) : ((List (List Int)) × (List Int)) → Exit → Act → World → Prop := Rets Tryd.prog Tryd.f67 (punctualref_Played.Post w0)
theorem punctualref_Played_p5 (K : Nat) (w0 : World) (l0 : List SJob) (A0 : Option Addr) (c0 : Nat) (x1 : Int) (x2 : Bool) (x3 : Int) (x4 : Int) (hR0 : RdL w0 A0 l0) (hL0 : l0.length ≤ c0) (b1 : Nat) (hc1 : l0.length ≤ 17592186044416) (Z1 : Option Addr) (cz1 : Nat) (m3 : List Int) (mp3 : List (Int × Int)) (hc3 : 0 ≤ x4) (hc4 : ((x4).toNat) ≤ 5864062014805) (xr1 : Rows) (z1 : Int) (m4 : List Int) (m5 : List (List Int)) (xr2 : Rows) (mp4 : List (Int × Int)) (hc5 : z1 < x4) (hc6 : (punctualref_Always.f z1) = true) (m10 : List Int) (Z4 : Option Addr) (cz4 : Nat) (o : (List Int) ⊕ ((List (List Int)) × (List Int))) (h : punctualref_Played.p5 x2 z1 m5 mp4 m10 = some o) (w : World) (hS : St w0 w [Own.of (.slice Z1 m4.length cz1) 3 m4, Own.nest xr2 23 3 m5, Own.of (.slice Z4 m10.length cz4) 3 m10, Own.map (κ := Int) (ν := Int) b1 mp4]) (Q : Exit → Act → World → Prop) (hQ : ∀ x a w, Outs (punctualref_Played.A5 K w0 l0 A0 c0 x1 x2 x3 x4 hR0 hL0 b1 hc1 Z1 cz1 m3 mp3 hc3 hc4 xr1 z1 m4 m5 xr2 mp4 hc5 hc6 m10 Z4 cz4) (punctualref_Played.B5 K w0 l0 A0 c0 x1 x2 x3 x4 hR0 hL0 b1 hc1 Z1 cz1 m3 mp3 hc3 hc4 xr1 z1 m4 m5 xr2 mp4 hc5 hc6 m10 Z4 cz4) o x a w → Q x a w) : WE Tryd.prog 169 (subF Tryd.f67 [1, 1, 1, 1, 1, 0, 1, 0, 0, 1, 0, 0, 1, 1, 1, 0]) Q [(0, .slice A0 l0.length c0), (1, .int .i64 x1), (2, .bool x2), (3, .int .i64 x3), (4, .int .i64 x4), (5, .func (.func 68) #[] #[]), (14, .map (some b1)), (15, (.slice Z1 m4.length cz1)), (18, (Rows.val xr2)), (19, .int .i64 z1), (20, (.slice Z4 m10.length cz4))] w := by
  simp only [punctualref_Played.p5] at h
  refine we_seq fun K32 hK32 => ?_
  refine we_region [(0, 0), (1, 0), (2, 0), (3, 0), (4, 0), (5, 0), (6, 0), (7, 0), (8, 0), (9, 0), (10, 0), (11, 0), (12, 0), (13, 0), (14, 0), (15, 0), (16, 0), (17, 0), (18, 0), (19, 0), (20, 0), (21, 0), (22, 0), (23, 0), (24, 0), (25, 0), (26, 0)] rfl ?_
  refine ge_batch [0, 1, 2] (ans := []) (vs := [(103, .bool (!x2)), (102, .bool (!x2)), (101, .bool x2)]) (l := []) (by kernel_rfl) trivial ?_
  by_cases hc17 : x2 = true
  · rw [if_pos hc17] at h
    refine ge_known (t := 103) (b := !x2) (c := false) (by kernel_rfl) (congrArg (fun z => !z) hc17) ?_
    refine ge_batch [3, 4, 5, 6, 7, 8, 9, 10, 11, 12, 13, 14, 15, 16, 17, 18, 19, 20, 21, 22, 23, 24, 25, 26] (ans := []) (vs := [(127, .bool false), (126, undef), (125, undef), (124, undef), (123, undef), (122, undef), (121, undef), (120, undef), (119, undef), (118, undef), (117, undef), (116, .bool false), (115, .bool false), (114, undef), (113, undef), (112, undef), (111, undef), (110, undef), (109, undef), (108, undef), (107, .bool false), (106, .bool false), (105, undef), (104, undef)]) (l := []) (by kernel_rfl) trivial ?_
    refine ge_nil fun a hF => hK32 _ _ ?_ a hF
    refine we_false (by kernel_rfl) ?_
    have hS89 := hS.bring 3 rfl
    have hS90 := hS89.bring 3 rfl
    have hS91 := hS90.bring 3 rfl
    have hS92 := hS91.bring 3 rfl
    obtain rfl := Option.some.inj h
    exact we_skip fun a hF => hQ _ _ _ (Outs.again ⟨(.slice Z4 m10.length cz4), hS92, hF.weaken ⟨by kernel_rfl, by kernel_rfl, by kernel_rfl, by kernel_rfl, by kernel_rfl, by kernel_rfl, by kernel_rfl, by kernel_rfl, by kernel_rfl, by kernel_rfl, by kernel_rfl, trivial⟩⟩)
  · rw [if_neg hc17] at h
    refine ge_known (t := 103) (b := !x2) (c := true) (by kernel_rfl) (congrArg (fun z => !z) (Bool.eq_false_iff.2 hc17)) ?_
    refine ge_batch [3, 4, 5, 6] (ans := []) (vs := [(107, .bool (decide (z1 > 0))), (106, .bool (decide (z1 > 0))), (105, .bool (decide (z1 > 0))), (104, .int .i64 z1)]) (l := []) (by kernel_rfl) trivial ?_
    by_cases hc18 : z1 > 0
    · rw [if_pos hc18] at h
      refine ge_known (t := 107) (b := decide (z1 > 0)) (c := true) (by kernel_rfl) (decide_eq_true hc18) ?_
      refine ge_batch [7, 8, 9] (ans := []) (vs := [(110, .int .i64 (IntKind.i64.wrap (z1 - 1))), (109, .int .i64 z1), (108, (Rows.val xr2))]) (l := []) (by kernel_rfl) trivial ?_
      by_cases hc19 : 0 ≤ (IntKind.i64.wrap (z1 - 1))
      · rw [if_pos hc19] at h
        rcases hx9 : m5[(IntKind.i64.wrap (z1 - 1)).toNat]? with _ | e5
        · rw [hx9] at h; cases h
        rw [hx9] at h
        simp only [] at h
        obtain ⟨An1, cn1, hxn1, -, -⟩ := (hS.nestAt 1 rfl).nl.get hx9
        refine ge_index (d := 111) (ty := 0) (t := 96) (el := 23) (sz := 1) (m := xr2.n) (c := xr2.c) (x := (.tmp 108)) (y := (.tmp 110)) (A := xr2.A) (k' := .i64) (j := (IntKind.i64.wrap (z1 - 1))) (jn := ((IntKind.i64.wrap (z1 - 1)).toNat)) (b0 := blkOf xr2.A) (o0 := offOf xr2.A) (by kernel_rfl) (by kernel_rfl) (by kernel_rfl) (by kernel_rfl) (by kernel_rfl) ((hS.nestAt 1 rfl).rd.eqSome (pos_of_get hxn1)) (Int.toNat_of_nonneg hc19).symm (by have h0 := lt_of_get hx9; have h1 := (hS.nestAt 1 rfl).n; omega) ?_
        refine ge_batch [11, 12, 13, 14, 15] (ans := [.val (.slice An1 e5.length cn1)]) (vs := [(116, .bool (decide ((e5.length : Int) > 0))), (115, .bool (decide ((e5.length : Int) > 0))), (114, .bool (decide ((e5.length : Int) > 0))), (113, .int .i64 (e5.length : Int)), (112, .slice An1 e5.length cn1)]) (l := [.loaded ⟨blkOf xr2.A, offOf xr2.A + ((IntKind.i64.wrap (z1 - 1)).toNat) * 1, none⟩ (.slice An1 e5.length cn1)]) (by kernel_rfl) ⟨RdL.cell (j := 0) ((hS.nestAt 1 rfl).rd) hxn1 rfl, trivial⟩ ?_
        by_cases hc20 : (e5.length : Int) > 0
        · rw [if_pos hc20] at h
          refine ge_known (t := 116) (b := decide ((e5.length : Int) > 0)) (c := true) (by kernel_rfl) (decide_eq_true hc20) ?_
          refine ge_batch [16, 17, 18, 19] (ans := []) (vs := [(120, .int .i64 (IntKind.i64.wrap (z1 - 1))), (119, .int .i64 z1), (118, (Rows.val xr2)), (117, .map (some b1))]) (l := []) (by kernel_rfl) trivial ?_
          refine ge_index (d := 121) (ty := 0) (t := 96) (el := 23) (sz := 1) (m := xr2.n) (c := xr2.c) (x := (.tmp 118)) (y := (.tmp 120)) (A := xr2.A) (k' := .i64) (j := (IntKind.i64.wrap (z1 - 1))) (jn := ((IntKind.i64.wrap (z1 - 1)).toNat)) (b0 := blkOf xr2.A) (o0 := offOf xr2.A) (by kernel_rfl) (by kernel_rfl) (by kernel_rfl) (by kernel_rfl) (by kernel_rfl) ((hS.nestAt 1 rfl).rd.eqSome (pos_of_get hxn1)) (Int.toNat_of_nonneg hc19).symm (by have h0 := lt_of_get hx9; have h1 := (hS.nestAt 1 rfl).n; omega) ?_
          refine ge_batch [21] (ans := [.val (.slice An1 e5.length cn1)]) (vs := [(122, .slice An1 e5.length cn1)]) (l := [.loaded ⟨blkOf xr2.A, offOf xr2.A + ((IntKind.i64.wrap (z1 - 1)).toNat) * 1, none⟩ (.slice An1 e5.length cn1)]) (by kernel_rfl) ⟨RdL.cell (j := 0) ((hS.nestAt 1 rfl).rd) hxn1 rfl, trivial⟩ ?_
          rcases hx10 : e5[0]? with _ | e6
          · rw [hx10] at h; cases h
          rw [hx10] at h
          simp only [] at h
          refine ge_index (d := 123) (ty := 0) (t := 23) (el := 3) (sz := 1) (m := e5.length) (c := cn1) (x := (.tmp 122)) (y := (.const (.int .i64 0))) (A := An1) (k' := .i64) (j := 0) (jn := 0) (b0 := blkOf An1) (o0 := offOf An1) (by kernel_rfl) (by kernel_rfl) (by kernel_rfl) (by kernel_rfl) (by kernel_rfl) ((((hS.nestAt 1 rfl).nl.each _ _ _ hxn1 hx9).2.1).eqSome (pos_of_get hx10)) rfl (lt_of_get hx10) ?_
          refine ge_batch [23] (ans := [.val (.int .i64 e6)]) (vs := [(124, .int .i64 e6)]) (l := [.loaded ⟨blkOf An1, offOf An1 + 0 * 1, none⟩ (.int .i64 e6)]) (by kernel_rfl) ⟨RdL.cell (j := 0) (((hS.nestAt 1 rfl).nl.each _ _ _ hxn1 hx9).2.1) hx10 rfl, trivial⟩ ?_
          refine ge_lookup (κ := Int) (ν := Int) (d := 125) (b := b1) (q := 3) (t := 112) (kt := 3) (et := 3) (x := (.tmp 117)) (y := (.tmp 124)) (ty := 3) (m := mp4) (k := e6) (z := 0) (v := ((mget mp4 e6).getD 0)) (zv := .int .i64 0) (vv := .int .i64 ((mget mp4 e6).getD 0)) (by kernel_rfl) (by kernel_rfl) (by kernel_rfl) (by kernel_rfl) (by kernel_rfl) (fun w' => by kernel_rfl) rfl hS rfl rfl rfl ?_
          refine ge_batch [25, 26] (ans := []) (vs := [(127, .bool (decide (((mget mp4 e6).getD 0) > 0))), (126, .bool (decide (((mget mp4 e6).getD 0) > 0)))]) (l := []) (by kernel_rfl) trivial ?_
          refine ge_nil fun a hF => hK32 _ _ ?_ a hF
          by_cases hc21 : ((mget mp4 e6).getD 0) > 0
          · rw [if_pos hc21] at h
            refine we_known (t := 127) (b := decide (((mget mp4 e6).getD 0) > 0)) (v := true) (by kernel_rfl) (decide_eq_true hc21) ?_
            refine we_true (by kernel_rfl) ?_
            refine we_region [(0, 0), (1, 0), (2, 0), (3, 0), (4, 0), (5, 0), (6, 0), (7, 1), (8, 0)] rfl ?_
            refine ge_batch [0, 1, 2] (ans := []) (vs := [(130, .int .i64 (IntKind.i64.wrap (z1 - 1))), (129, .int .i64 z1), (128, (Rows.val xr2))]) (l := []) (by kernel_rfl) trivial ?_
            refine ge_index (d := 131) (ty := 0) (t := 96) (el := 23) (sz := 1) (m := xr2.n) (c := xr2.c) (x := (.tmp 128)) (y := (.tmp 130)) (A := xr2.A) (k' := .i64) (j := (IntKind.i64.wrap (z1 - 1))) (jn := ((IntKind.i64.wrap (z1 - 1)).toNat)) (b0 := blkOf xr2.A) (o0 := offOf xr2.A) (by kernel_rfl) (by kernel_rfl) (by kernel_rfl) (by kernel_rfl) (by kernel_rfl) ((hS.nestAt 1 rfl).rd.eqSome (pos_of_get hxn1)) (Int.toNat_of_nonneg hc19).symm (by have h0 := lt_of_get hx9; have h1 := (hS.nestAt 1 rfl).n; omega) ?_
            refine ge_batch [4] (ans := [.val (.slice An1 e5.length cn1)]) (vs := [(132, .slice An1 e5.length cn1)]) (l := [.loaded ⟨blkOf xr2.A, offOf xr2.A + ((IntKind.i64.wrap (z1 - 1)).toNat) * 1, none⟩ (.slice An1 e5.length cn1)]) (by kernel_rfl) ⟨RdL.cell (j := 0) ((hS.nestAt 1 rfl).rd) hxn1 rfl, trivial⟩ ?_
            refine ge_index (d := 133) (ty := 0) (t := 23) (el := 3) (sz := 1) (m := e5.length) (c := cn1) (x := (.tmp 132)) (y := (.const (.int .i64 0))) (A := An1) (k' := .i64) (j := 0) (jn := 0) (b0 := blkOf An1) (o0 := offOf An1) (by kernel_rfl) (by kernel_rfl) (by kernel_rfl) (by kernel_rfl) (by kernel_rfl) ((((hS.nestAt 1 rfl).nl.each _ _ _ hxn1 hx9).2.1).eqSome (pos_of_get hx10)) rfl (lt_of_get hx10) ?_
            refine ge_batch [6] (ans := [.val (.int .i64 e6)]) (vs := [(134, .int .i64 e6)]) (l := [.loaded ⟨blkOf An1, offOf An1 + 0 * 1, none⟩ (.int .i64 e6)]) (by kernel_rfl) ⟨RdL.cell (j := 0) (((hS.nestAt 1 rfl).nl.each _ _ _ hxn1 hx9).2.1) hx10 rfl, trivial⟩ ?_
            refine ge_new (d := some 135) (o := .cells #[.int .i64 e6] 3) (v := fun b => .slice (some ⟨b, 0, none⟩) 1 1) hS (fun b => by kernel_rfl) fun b5 w19 hx11 hS93 => ?_
            refine ge_batch [8] (ans := []) (vs := [(20, .slice (some ⟨b5, 0, none⟩) 1 1)]) (l := []) (by kernel_rfl) trivial ?_
            have hS94 := hS93.asRow (α := Int) (c := 1) ([e6] : List Int) (Nat.le_refl _) (by decide) rfl rfl
            have hS95 := hS94.bring 4 rfl
            have hS96 := hS95.bring 1 rfl
            have hS97 := hS96.bring 3 rfl
            have hS98 := hS97.bring 3 rfl
            have hS99 := hS98.takeN 4
            obtain rfl := Option.some.inj h
            exact ge_nil fun a hF => hQ _ _ _ (Outs.again ⟨(.slice (some ⟨b5, 0, none⟩) 1 1), hS99, hF.weaken ⟨by kernel_rfl, by kernel_rfl, by kernel_rfl, by kernel_rfl, by kernel_rfl, by kernel_rfl, by kernel_rfl, by kernel_rfl, by kernel_rfl, by kernel_rfl, by kernel_rfl, trivial⟩⟩)
          · rw [if_neg hc21] at h
            refine we_known (t := 127) (b := decide (((mget mp4 e6).getD 0) > 0)) (v := false) (by kernel_rfl) (decide_eq_false hc21) ?_
            refine we_false (by kernel_rfl) ?_
            have hS100 := hS.bring 3 rfl
            have hS101 := hS100.bring 3 rfl
            have hS102 := hS101.bring 3 rfl
            have hS103 := hS102.bring 3 rfl
            obtain rfl := Option.some.inj h
            exact we_skip fun a hF => hQ _ _ _ (Outs.again ⟨(.slice Z4 m10.length cz4), hS103, hF.weaken ⟨by kernel_rfl, by kernel_rfl, by kernel_rfl, by kernel_rfl, by kernel_rfl, by kernel_rfl, by kernel_rfl, by kernel_rfl, by kernel_rfl, by kernel_rfl, by kernel_rfl, trivial⟩⟩)
        · rw [if_neg hc20] at h
          refine ge_known (t := 116) (b := decide ((e5.length : Int) > 0)) (c := false) (by kernel_rfl) (decide_eq_false hc20) ?_
          refine ge_batch [16, 17, 18, 19, 20, 21, 22, 23, 24, 25, 26] (ans := []) (vs := [(127, .bool false), (126, undef), (125, undef), (124, undef), (123, undef), (122, undef), (121, undef), (120, undef), (119, undef), (118, undef), (117, undef)]) (l := []) (by kernel_rfl) trivial ?_
          refine ge_nil fun a hF => hK32 _ _ ?_ a hF
          refine we_false (by kernel_rfl) ?_
          have hS104 := hS.bring 3 rfl
          have hS105 := hS104.bring 3 rfl
          have hS106 := hS105.bring 3 rfl
          have hS107 := hS106.bring 3 rfl
          obtain rfl := Option.some.inj h
          exact we_skip fun a hF => hQ _ _ _ (Outs.again ⟨(.slice Z4 m10.length cz4), hS107, hF.weaken ⟨by kernel_rfl, by kernel_rfl, by kernel_rfl, by kernel_rfl, by kernel_rfl, by kernel_rfl, by kernel_rfl, by kernel_rfl, by kernel_rfl, by kernel_rfl, by kernel_rfl, trivial⟩⟩)
      · rw [if_neg hc19] at h
        cases h
    · rw [if_neg hc18] at h
      refine ge_known (t := 107) (b := decide (z1 > 0)) (c := false) (by kernel_rfl) (decide_eq_false hc18) ?_
      refine ge_batch [7, 8, 9, 10, 11, 12, 13, 14, 15, 16, 17, 18, 19, 20, 21, 22, 23, 24, 25, 26] (ans := []) (vs := [(127, .bool false), (126, undef), (125, undef), (124, undef), (123, undef), (122, undef), (121, undef), (120, undef), (119, undef), (118, undef), (117, undef), (116, .bool false), (115, .bool false), (114, undef), (113, undef), (112, undef), (111, undef), (110, undef), (109, undef), (108, undef)]) (l := []) (by kernel_rfl) trivial ?_
      refine ge_nil fun a hF => hK32 _ _ ?_ a hF
      refine we_false (by kernel_rfl) ?_
      have hS108 := hS.bring 3 rfl
      have hS109 := hS108.bring 3 rfl
      have hS110 := hS109.bring 3 rfl
      have hS111 := hS110.bring 3 rfl
      obtain rfl := Option.some.inj h
      exact we_skip fun a hF => hQ _ _ _ (Outs.again ⟨(.slice Z4 m10.length cz4), hS111, hF.weaken ⟨by kernel_rfl, by kernel_rfl, by kernel_rfl, by kernel_rfl, by kernel_rfl, by kernel_rfl, by kernel_rfl, by kernel_rfl, by kernel_rfl, by kernel_rfl, by kernel_rfl, trivial⟩⟩)
abbrev punctualref_Played.A6 (K : Nat) (w0 : World) (l0 : List SJob) (A0 : Option Addr) (c0 : Nat) (x1 : Int) (x2 : Bool) (x3 : Int) (x4 : Int) (hR0 : RdL w0 A0 l0) (hL0 : l0.length ≤ c0) (b1 : Nat) (hc1 : l0.length ≤ 17592186044416) (Z1 : Option Addr) (cz1 : Nat) (m3 : List Int) (mp3 : List (Int × Int)) (hc3 : 0 ≤ x4) (hc4 : ((x4).toNat) ≤ 5864062014805) (xr1 : Rows) (z1 : Int) (m4 : List Int) (m5 : List (List Int)) (xr2 : Rows) (mp4 : List (Int × Int)) (hc5 : z1 < x4) (hc6 : (punctualref_Always.f z1) = true) (m10 : List Int) (Z4 : Option Addr) (cz4 : Nat) (m12 : List Int) (Z5 : Option Addr) (cz5 : Nat) : (List Int) → Act → World → Prop := fun (s : (List Int)) a w => ∃ (v10 : Value), St w0 w [Own.of (.slice Z1 m4.length cz1) 3 m4, Own.nest xr2 23 3 m5, Own.of v10 3 s, Own.map (κ := Int) (ν := Int) b1 mp4] ∧ Frm 169 a [(0, .slice A0 l0.length c0), (1, .int .i64 x1), (2, .bool x2), (3, .int .i64 x3), (4, .int .i64 x4), (5, .func (.func 68) #[] #[]), (14, .map (some b1)), (15, (.slice Z1 m4.length cz1)), (18, (Rows.val xr2)), (19, .int .i64 z1), (20, v10)]
abbrev punctualref_Played.B6 (K : Nat) (w0 : World) (l0 : List SJob) (A0 : Option Addr) (c0 : Nat) (x1 : Int) (x2 : Bool) (x3 : Int) (x4 : Int) (hR0 : RdL w0 A0 l0) (hL0 : l0.length ≤ c0) (b1 : Nat) (hc1 : l0.length ≤ 17592186044416) (Z1 : Option Addr) (cz1 : Nat) (m3 : List Int) (mp3 : List (Int × Int)) (hc3 : 0 ≤ x4) (hc4 : ((x4).toNat) ≤ 5864062014805) (xr1 : Rows) (z1 : Int) (m4 : List Int) (m5 : List (List Int)) (xr2 : Rows) (mp4 : List (Int × Int)) (hc5 : z1 < x4) (hc6 : (punctualref_Always.f z1) = true) (m10 : List Int) (Z4 : Option Addr) (cz4 : Nat) (m12 : List Int) (Z5 : Option Addr) (cz5 : Nat) : ((List (List Int)) × (List Int)) → Exit → Act → World → Prop := Rets Tryd.prog Tryd.f67 (punctualref_Played.Post w0)
theorem punctualref_Played_p6 (K : Nat) (w0 : World) (l0 : List SJob) (A0 : Option Addr) (c0 : Nat) (x1 : Int) (x2 : Bool) (x3 : Int) (x4 : Int) (hR0 : RdL w0 A0 l0) (hL0 : l0.length ≤ c0) (b1 : Nat) (hc1 : l0.length ≤ 17592186044416) (Z1 : Option Addr) (cz1 : Nat) (m3 : List Int) (mp3 : List (Int × Int)) (hc3 : 0 ≤ x4) (hc4 : ((x4).toNat) ≤ 5864062014805) (xr1 : Rows) (z1 : Int) (m4 : List Int) (m5 : List (List Int)) (xr2 : Rows) (mp4 : List (Int × Int)) (hc5 : z1 < x4) (hc6 : (punctualref_Always.f z1) = true) (m10 : List Int) (Z4 : Option Addr) (cz4 : Nat) (m12 : List Int) (Z5 : Option Addr) (cz5 : Nat) (o : (List Int) ⊕ ((List (List Int)) × (List Int))) (h : punctualref_Played.p6 x3 m12 = some o) (w : World) (hS : St w0 w [Own.of (.slice Z1 m4.length cz1) 3 m4, Own.nest xr2 23 3 m5, Own.of (.slice Z5 m12.length cz5) 3 m12, Own.map (κ := Int) (ν := Int) b1 mp4]) (Q : Exit → Act → World → Prop) (hQ : ∀ x a w, Outs (punctualref_Played.A6 K w0 l0 A0 c0 x1 x2 x3 x4 hR0 hL0 b1 hc1 Z1 cz1 m3 mp3 hc3 hc4 xr1 z1 m4 m5 xr2 mp4 hc5 hc6 m10 Z4 cz4 m12 Z5 cz5) (punctualref_Played.B6 K w0 l0 A0 c0 x1 x2 x3 x4 hR0 hL0 b1 hc1 Z1 cz1 m3 mp3 hc3 hc4 xr1 z1 m4 m5 xr2 mp4 hc5 hc6 m10 Z4 cz4 m12 Z5 cz5) o x a w → Q x a w) : WE Tryd.prog 169 (subF Tryd.f67 [1, 1, 1, 1, 1, 0, 1, 0, 0, 1, 0, 0, 1, 1, 1, 1, 0]) Q [(0, .slice A0 l0.length c0), (1, .int .i64 x1), (2, .bool x2), (3, .int .i64 x3), (4, .int .i64 x4), (5, .func (.func 68) #[] #[]), (14, .map (some b1)), (15, (.slice Z1 m4.length cz1)), (18, (Rows.val xr2)), (19, .int .i64 z1), (20, (.slice Z5 m12.length cz5))] w := by
  simp only [punctualref_Played.p6] at h
  refine we_seq fun K34 hK34 => ?_
  refine we_region [(0, 0), (1, 0), (2, 0), (3, 0)] rfl ?_
  refine ge_batch [0, 1, 2, 3] (ans := []) (vs := [(139, .bool (decide ((m12.length : Int) > x3))), (138, .int .i64 x3), (137, .int .i64 (m12.length : Int)), (136, (.slice Z5 m12.length cz5))]) (l := []) (by kernel_rfl) trivial ?_
  refine ge_nil fun a hF => hK34 _ _ ?_ a hF
  by_cases hc22 : (m12.length : Int) > x3
  · rw [if_pos hc22] at h
    refine we_known (t := 139) (b := decide ((m12.length : Int) > x3)) (v := true) (by kernel_rfl) (decide_eq_true hc22) ?_
    refine we_true (by kernel_rfl) ?_
    refine we_region [(0, 0), (1, 0), (2, 0), (3, 0)] rfl ?_
    refine ge_batch [0, 1] (ans := []) (vs := [(141, .int .i64 x3), (140, (.slice Z5 m12.length cz5))]) (l := []) (by kernel_rfl) trivial ?_
    by_cases hc23 : 0 ≤ x3
    · rw [if_pos hc23] at h
      by_cases hc24 : ((x3).toNat) ≤ m12.length
      · rw [if_pos hc24] at h
        refine ge_sliceHi (d := 142) (ty := 23) (t := 23) (el := 3) (sz := 1) (m := m12.length) (c := cz5) (hn := ((x3).toNat)) (x := (.tmp 140)) (y := (.tmp 141)) (A := Z5) (k' := .i64) (hi := x3) (by kernel_rfl) (by kernel_rfl) (by kernel_rfl) (Int.toNat_of_nonneg hc23).symm (by kernel_rfl) (by kernel_rfl) (by have f0 := hc24; have f1 := (hS.capAt 2 rfl); omega) ?_
        refine ge_same (t := 142) (v := .slice Z5 ((x3).toNat) cz5) (v' := .slice Z5 ((m12.take ((x3).toNat)).length) cz5) (by kernel_rfl) (congrArg (fun z => Value.slice Z5 z cz5) (show (x3).toNat = (m12.take ((x3).toNat)).length by have f0 := hc24; have f1 := (hS.capAt 2 rfl); simp only [List.length_take]; omega)) ?_
        refine ge_batch [3] (ans := []) (vs := [(20, .slice Z5 ((m12.take ((x3).toNat)).length) cz5)]) (l := []) (by kernel_rfl) trivial ?_
        have hS113 := hS.bring 2 rfl
        have hS114 := hS113.shrink ((x3).toNat)
        have hS115 := hS114.bring 3 rfl
        have hS116 := hS115.bring 1 rfl
        have hS117 := hS116.bring 3 rfl
        have hS118 := hS117.bring 3 rfl
        obtain rfl := Option.some.inj h
        exact ge_nil fun a hF => hQ _ _ _ (Outs.again ⟨(.slice Z5 (m12.take ((x3).toNat)).length cz5), hS118, hF.weaken ⟨by kernel_rfl, by kernel_rfl, by kernel_rfl, by kernel_rfl, by kernel_rfl, by kernel_rfl, by kernel_rfl, by kernel_rfl, by kernel_rfl, by kernel_rfl, by kernel_rfl, trivial⟩⟩)
      · rw [if_neg hc24] at h
        cases h
    · rw [if_neg hc23] at h
      cases h
  · rw [if_neg hc22] at h
    refine we_known (t := 139) (b := decide ((m12.length : Int) > x3)) (v := false) (by kernel_rfl) (decide_eq_false hc22) ?_
    refine we_false (by kernel_rfl) ?_
    have hS119 := hS.bring 3 rfl
    have hS120 := hS119.bring 3 rfl
    have hS121 := hS120.bring 3 rfl
    have hS122 := hS121.bring 3 rfl
    obtain rfl := Option.some.inj h
    exact we_skip fun a hF => hQ _ _ _ (Outs.again ⟨(.slice Z5 m12.length cz5), hS122, hF.weaken ⟨by kernel_rfl, by kernel_rfl, by kernel_rfl, by kernel_rfl, by kernel_rfl, by kernel_rfl, by kernel_rfl, by kernel_rfl, by kernel_rfl, by kernel_rfl, by kernel_rfl, trivial⟩⟩)
abbrev punctualref_Played.A7 (K : Nat) (w0 : World) (l0 : List SJob) (A0 : Option Addr) (c0 : Nat) (x1 : Int) (x2 : Bool) (x3 : Int) (x4 : Int) (hR0 : RdL w0 A0 l0) (hL0 : l0.length ≤ c0) (b1 : Nat) (hc1 : l0.length ≤ 17592186044416) (Z1 : Option Addr) (cz1 : Nat) (m3 : List Int) (mp3 : List (Int × Int)) (hc3 : 0 ≤ x4) (hc4 : ((x4).toNat) ≤ 5864062014805) (xr1 : Rows) (z1 : Int) (m4 : List Int) (m5 : List (List Int)) (xr2 : Rows) (mp4 : List (Int × Int)) (hc5 : z1 < x4) (hc6 : (punctualref_Always.f z1) = true) (m10 : List Int) (Z4 : Option Addr) (cz4 : Nat) (m12 : List Int) (Z5 : Option Addr) (cz5 : Nat) (m14 : List Int) (hc25 : 0 ≤ z1) (e7 : List Int) (hx12 : m5[(z1).toNat]? = some e7) (An2 : Option Addr) (cn2 : Nat) (hxn2 : xr2.hs[(z1).toNat]? = some ⟨An2, e7.length, cn2⟩) (Z6 : Option Addr) (cz6 : Nat) (hh1 : (Rows.put xr2 ((z1).toNat) Z6 m14.length cz6).hs[(z1).toNat]? = some ⟨Z6, m14.length, cz6⟩) (hx13 : (m5.set ((z1).toNat) m14)[(z1).toNat]? = some m14) : (Int × (List Int) × (List (Int × Int))) → Act → World → Prop := fun (s : Int × (List Int) × (List (Int × Int))) a w => St w0 w [Own.of (.slice Z1 s.2.1.length cz1) 3 s.2.1, Own.nest (Rows.put xr2 ((z1).toNat) Z6 m14.length cz6) 23 3 (m5.set ((z1).toNat) m14), Own.map (κ := Int) (ν := Int) b1 s.2.2] ∧ Frm 169 a [(0, .slice A0 l0.length c0), (1, .int .i64 x1), (2, .bool x2), (3, .int .i64 x3), (4, .int .i64 x4), (5, .func (.func 68) #[] #[]), (14, .map (some b1)), (15, (.slice Z1 s.2.1.length cz1)), (18, (Rows.val (Rows.put xr2 ((z1).toNat) Z6 m14.length cz6))), (19, .int .i64 z1), (147, .slice Z6 m14.length cz6), (148, .int .i64 (m14.length : Int)), (149, .int .i64 s.1)]
abbrev punctualref_Played.B7 (K : Nat) (w0 : World) (l0 : List SJob) (A0 : Option Addr) (c0 : Nat) (x1 : Int) (x2 : Bool) (x3 : Int) (x4 : Int) (hR0 : RdL w0 A0 l0) (hL0 : l0.length ≤ c0) (b1 : Nat) (hc1 : l0.length ≤ 17592186044416) (Z1 : Option Addr) (cz1 : Nat) (m3 : List Int) (mp3 : List (Int × Int)) (hc3 : 0 ≤ x4) (hc4 : ((x4).toNat) ≤ 5864062014805) (xr1 : Rows) (z1 : Int) (m4 : List Int) (m5 : List (List Int)) (xr2 : Rows) (mp4 : List (Int × Int)) (hc5 : z1 < x4) (hc6 : (punctualref_Always.f z1) = true) (m10 : List Int) (Z4 : Option Addr) (cz4 : Nat) (m12 : List Int) (Z5 : Option Addr) (cz5 : Nat) (m14 : List Int) (hc25 : 0 ≤ z1) (e7 : List Int) (hx12 : m5[(z1).toNat]? = some e7) (An2 : Option Addr) (cn2 : Nat) (hxn2 : xr2.hs[(z1).toNat]? = some ⟨An2, e7.length, cn2⟩) (Z6 : Option Addr) (cz6 : Nat) (hh1 : (Rows.put xr2 ((z1).toNat) Z6 m14.length cz6).hs[(z1).toNat]? = some ⟨Z6, m14.length, cz6⟩) (hx13 : (m5.set ((z1).toNat) m14)[(z1).toNat]? = some m14) : (((List Int) × (List (Int × Int))) ⊕ ((List (List Int)) × (List Int))) → Exit → Act → World → Prop := Exits 8 (fun (s : (List Int) × (List (Int × Int))) a w => St w0 w [Own.of (.slice Z1 s.1.length cz1) 3 s.1, Own.nest (Rows.put xr2 ((z1).toNat) Z6 m14.length cz6) 23 3 (m5.set ((z1).toNat) m14), Own.map (κ := Int) (ν := Int) b1 s.2] ∧ Frm 169 a [(0, .slice A0 l0.length c0), (1, .int .i64 x1), (2, .bool x2), (3, .int .i64 x3), (4, .int .i64 x4), (5, .func (.func 68) #[] #[]), (14, .map (some b1)), (15, (.slice Z1 s.1.length cz1)), (18, (Rows.val (Rows.put xr2 ((z1).toNat) Z6 m14.length cz6))), (19, .int .i64 z1)]) (Rets Tryd.prog Tryd.f67 (punctualref_Played.Post w0))
theorem punctualref_Played_r7 (K : Nat) (w0 : World) (l0 : List SJob) (A0 : Option Addr) (c0 : Nat) (x1 : Int) (x2 : Bool) (x3 : Int) (x4 : Int) (hR0 : RdL w0 A0 l0) (hL0 : l0.length ≤ c0) (b1 : Nat) (hc1 : l0.length ≤ 17592186044416) (Z1 : Option Addr) (cz1 : Nat) (m3 : List Int) (mp3 : List (Int × Int)) (hc3 : 0 ≤ x4) (hc4 : ((x4).toNat) ≤ 5864062014805) (xr1 : Rows) (z1 : Int) (m4 : List Int) (m5 : List (List Int)) (xr2 : Rows) (mp4 : List (Int × Int)) (hc5 : z1 < x4) (hc6 : (punctualref_Always.f z1) = true) (m10 : List Int) (Z4 : Option Addr) (cz4 : Nat) (m12 : List Int) (Z5 : Option Addr) (cz5 : Nat) (m14 : List Int) (hc25 : 0 ≤ z1) (e7 : List Int) (hx12 : m5[(z1).toNat]? = some e7) (An2 : Option Addr) (cn2 : Nat) (hxn2 : xr2.hs[(z1).toNat]? = some ⟨An2, e7.length, cn2⟩) (Z6 : Option Addr) (cz6 : Nat) (hh1 : (Rows.put xr2 ((z1).toNat) Z6 m14.length cz6).hs[(z1).toNat]? = some ⟨Z6, m14.length, cz6⟩) (hx13 : (m5.set ((z1).toNat) m14)[(z1).toNat]? = some m14) (s : Int × (List Int) × (List (Int × Int))) (o : (Int × (List Int) × (List (Int × Int))) ⊕ (((List Int) × (List (Int × Int))) ⊕ ((List (List Int)) × (List Int)))) (h : punctualref_Played.r7 z1 m14 s = some o) (a : Act) (w : World) (hA : punctualref_Played.A7 K w0 l0 A0 c0 x1 x2 x3 x4 hR0 hL0 b1 hc1 Z1 cz1 m3 mp3 hc3 hc4 xr1 z1 m4 m5 xr2 mp4 hc5 hc6 m10 Z4 cz4 m12 Z5 cz5 m14 hc25 e7 hx12 An2 cn2 hxn2 Z6 cz6 hh1 hx13 s a w) (Q : Exit → Act → World → Prop) (hQ : ∀ x a w, Outs (punctualref_Played.A7 K w0 l0 A0 c0 x1 x2 x3 x4 hR0 hL0 b1 hc1 Z1 cz1 m3 mp3 hc3 hc4 xr1 z1 m4 m5 xr2 mp4 hc5 hc6 m10 Z4 cz4 m12 Z5 cz5 m14 hc25 e7 hx12 An2 cn2 hxn2 Z6 cz6 hh1 hx13) (punctualref_Played.B7 K w0 l0 A0 c0 x1 x2 x3 x4 hR0 hL0 b1 hc1 Z1 cz1 m3 mp3 hc3 hc4 xr1 z1 m4 m5 xr2 mp4 hc5 hc6 m10 Z4 cz4 m12 Z5 cz5 m14 hc25 e7 hx12 An2 cn2 hxn2 Z6 cz6 hh1 hx13) o x a w → Q x a w) : (subF Tryd.f67 [1, 1, 1, 1, 1, 0, 1, 0, 0, 1, 0, 0, 1, 1, 1, 1, 1, 1, 1, 0, 0]).wp Tryd.prog Q a w := by
  obtain ⟨z5, m15, mp5⟩ := s
  obtain ⟨hS, hF⟩ := hA
  replace hS : St w0 w [Own.of (.slice Z1 m15.length cz1) 3 m15, Own.nest (Rows.put xr2 ((z1).toNat) Z6 m14.length cz6) 23 3 (m5.set ((z1).toNat) m14), Own.map (κ := Int) (ν := Int) b1 mp5] := hS
  simp only [punctualref_Played.r7] at h
  refine (?_ : WE Tryd.prog 169 (subF Tryd.f67 [1, 1, 1, 1, 1, 0, 1, 0, 0, 1, 0, 0, 1, 1, 1, 1, 1, 1, 1, 0, 0]) Q [(0, .slice A0 l0.length c0), (1, .int .i64 x1), (2, .bool x2), (3, .int .i64 x3), (4, .int .i64 x4), (5, .func (.func 68) #[] #[]), (14, .map (some b1)), (15, (.slice Z1 m15.length cz1)), (18, (Rows.val (Rows.put xr2 ((z1).toNat) Z6 m14.length cz6))), (19, .int .i64 z1), (147, .slice Z6 m14.length cz6), (148, .int .i64 (m14.length : Int)), (149, .int .i64 z5)] w) a hF
  clear hF a
  refine we_seq fun K37 hK37 => ?_
  refine we_region [(0, 0)] rfl ?_
  refine ge_batch [0] (ans := []) (vs := [(150, .bool (decide (z5 < (m14.length : Int))))]) (l := []) (by kernel_rfl) trivial ?_
  refine ge_nil fun a hF => hK37 _ _ ?_ a hF
  refine we_seq fun K38 hK38 => ?_
  by_cases hc26 : z5 < (m14.length : Int)
  · rw [if_pos hc26] at h
    refine we_known (t := 150) (b := decide (z5 < (m14.length : Int))) (v := true) (by kernel_rfl) (decide_eq_true hc26) ?_
    refine we_true (by kernel_rfl) ?_
    refine we_skip fun a hF => hK38 _ _ ?_ a hF
    refine we_seq fun K39 hK39 => ?_
    refine we_block ?_
    refine we_seq fun K40 hK40 => ?_
    refine we_region [(0, 0), (1, 0), (2, 0)] rfl ?_
    by_cases hc27 : 0 ≤ z5
    · rw [if_pos hc27] at h
      rcases hx14 : m14[(z5).toNat]? with _ | e8
      · rw [hx14] at h; cases h
      rw [hx14] at h
      simp only [] at h
      refine ge_index (d := 151) (ty := 0) (t := 23) (el := 3) (sz := 1) (m := m14.length) (c := cz6) (x := (.tmp 147)) (y := (.tmp 149)) (A := Z6) (k' := .i64) (j := z5) (jn := ((z5).toNat)) (b0 := blkOf Z6) (o0 := offOf Z6) (by kernel_rfl) (by kernel_rfl) (by kernel_rfl) (by kernel_rfl) (by kernel_rfl) ((((hS.nestAt 1 rfl).nl.each _ _ _ hh1 hx13).2.1).eqSome (pos_of_get hx14)) (Int.toNat_of_nonneg hc27).symm (lt_of_get hx14) ?_
      refine ge_batch [1, 2] (ans := [.val (.int .i64 e8)]) (vs := [(25, .int .i64 e8), (152, .int .i64 e8)]) (l := [.loaded ⟨blkOf Z6, offOf Z6 + ((z5).toNat) * 1, none⟩ (.int .i64 e8)]) (by kernel_rfl) ⟨RdL.cell (j := 0) (((hS.nestAt 1 rfl).nl.each _ _ _ hh1 hx13).2.1) hx14 rfl, trivial⟩ ?_
      refine ge_nil fun a hF => hK40 _ _ ?_ a hF
      refine we_seq fun K41 hK41 => ?_
      refine we_region [(0, 0), (1, 0), (2, 0), (3, 0), (4, 2)] rfl ?_
      refine ge_batch [0, 1] (ans := []) (vs := [(154, .int .i64 e8), (153, .map (some b1))]) (l := []) (by kernel_rfl) trivial ?_
      refine ge_lookup (κ := Int) (ν := Int) (d := 155) (b := b1) (q := 2) (t := 112) (kt := 3) (et := 3) (x := (.tmp 153)) (y := (.tmp 154)) (ty := 3) (m := mp5) (k := e8) (z := 0) (v := ((mget mp5 e8).getD 0)) (zv := .int .i64 0) (vv := .int .i64 ((mget mp5 e8).getD 0)) (by kernel_rfl) (by kernel_rfl) (by kernel_rfl) (by kernel_rfl) (by kernel_rfl) (fun w' => by kernel_rfl) rfl hS rfl rfl rfl ?_
      refine ge_batch [3] (ans := []) (vs := [(156, .int .i64 (IntKind.i64.wrap (((mget mp5 e8).getD 0) - 1)))]) (l := []) (by kernel_rfl) trivial ?_
      have hS130 := hS.bring 2 rfl
      refine ge_mapSet (κ := Int) (ν := Int) (b := b1) (ins := false) (mm := 0) (t := 112) (kt := 3) (et := 3) (x := (.tmp 153)) (y := (.tmp 154)) (u := (.tmp 156)) (ty := 0) (m := mp5) (k := e8) (v := (IntKind.i64.wrap (((mget mp5 e8).getD 0) - 1))) (vv := .int .i64 (IntKind.i64.wrap (((mget mp5 e8).getD 0) - 1))) (by kernel_rfl) (by kernel_rfl) (by kernel_rfl) (by kernel_rfl) rfl (by kernel_rfl) (by kernel_rfl) hS130 fun w23 hS131 => ?_
      refine ge_nil fun a hF => hK41 _ _ ?_ a hF
      refine we_seq fun K42 hK42 => ?_
      refine we_region [(0, 0), (1, 0), (2, 0), (3, 0)] rfl ?_
      refine ge_batch [0, 1] (ans := []) (vs := [(158, .int .i64 e8), (157, .map (some b1))]) (l := []) (by kernel_rfl) trivial ?_
      refine ge_lookup (κ := Int) (ν := Int) (d := 159) (b := b1) (q := 0) (t := 112) (kt := 3) (et := 3) (x := (.tmp 157)) (y := (.tmp 158)) (ty := 3) (m := (mset mp5 e8 (IntKind.i64.wrap (((mget mp5 e8).getD 0) - 1)))) (k := e8) (z := 0) (v := ((mget (mset mp5 e8 (IntKind.i64.wrap (((mget mp5 e8).getD 0) - 1))) e8).getD 0)) (zv := .int .i64 0) (vv := .int .i64 ((mget (mset mp5 e8 (IntKind.i64.wrap (((mget mp5 e8).getD 0) - 1))) e8).getD 0)) (by kernel_rfl) (by kernel_rfl) (by kernel_rfl) (by kernel_rfl) (by kernel_rfl) (fun w' => by kernel_rfl) rfl hS131 rfl rfl rfl ?_
      refine ge_batch [3] (ans := []) (vs := [(160, .bool (((mget (mset mp5 e8 (IntKind.i64.wrap (((mget mp5 e8).getD 0) - 1))) e8).getD 0) == 0))]) (l := []) (by kernel_rfl) trivial ?_
      refine ge_nil fun a hF => hK42 _ _ ?_ a hF
      by_cases hc28 : ((mget (mset mp5 e8 (IntKind.i64.wrap (((mget mp5 e8).getD 0) - 1))) e8).getD 0) = 0
      · rw [if_pos hc28] at h
        refine we_known (t := 160) (b := (((mget (mset mp5 e8 (IntKind.i64.wrap (((mget mp5 e8).getD 0) - 1))) e8).getD 0) == 0)) (v := true) (by kernel_rfl) (beq_iff_eq.2 hc28) ?_
        refine we_true (by kernel_rfl) ?_
        refine we_region [(0, 0), (1, 0), (2, 0), (3, 0), (4, 0), (5, 2)] rfl ?_
        refine ge_batch [0, 1, 2, 3] (ans := []) (vs := [(164, .int .i64 (IntKind.i64.wrap (z1 + 1))), (163, .int .i64 z1), (162, .int .i64 e8), (161, (.slice Z1 m15.length cz1))]) (l := []) (by kernel_rfl) trivial ?_
        by_cases hc29 : 0 ≤ e8
        · rw [if_pos hc29] at h
          rcases hx15 : m15[(e8).toNat]? with _ | e9
          · rw [hx15] at h; cases h
          rw [hx15] at h
          simp only [] at h
          refine ge_index (d := 165) (ty := 0) (t := 23) (el := 3) (sz := 1) (m := m15.length) (c := cz1) (x := (.tmp 161)) (y := (.tmp 162)) (A := Z1) (k' := .i64) (j := e8) (jn := ((e8).toNat)) (b0 := blkOf Z1) (o0 := offOf Z1) (by kernel_rfl) (by kernel_rfl) (by kernel_rfl) (by kernel_rfl) (by kernel_rfl) ((hS131.rdAt 1 rfl).eqSome (pos_of_get hx15)) (Int.toNat_of_nonneg hc29).symm (lt_of_get hx15) ?_
          have hS132 := hS131.bring 1 rfl
          refine ge_seti (α := Int) (A := Z1) (nn := m15.length) (c := cz1) (t := 3) (l := m15) (x := e9) (x' := (IntKind.i64.wrap (z1 + 1))) (jn := ((e8).toNat)) (j := 0) (vs := [.int .i64 (IntKind.i64.wrap (z1 + 1))]) (l' := [.stored ⟨blkOf Z1, offOf Z1 + ((e8).toNat) * 1, none⟩ (.int .i64 (IntKind.i64.wrap (z1 + 1)))]) hS132 (by kernel_rfl) (by kernel_rfl) hx15 rfl rfl rfl fun w24 hS133 => ?_
          have hS134 : St w0 w24 [Own.of (.slice Z1 m15.length cz1) 3 (m15.set ((e8).toNat) (IntKind.i64.wrap (z1 + 1))), Own.map (κ := Int) (ν := Int) b1 (mset mp5 e8 (IntKind.i64.wrap (((mget mp5 e8).getD 0) - 1))), Own.nest (Rows.put xr2 ((z1).toNat) Z6 m14.length cz6) 23 3 (m5.set ((z1).toNat) m14)] := hS133
          have hE2 : m15.length = (m15.set ((e8).toNat) (IntKind.i64.wrap (z1 + 1))).length := hS134.lenAt 0 rfl
          have hS135 : St w0 w24 [Own.of (.slice Z1 (m15.set ((e8).toNat) (IntKind.i64.wrap (z1 + 1))).length cz1) 3 (m15.set ((e8).toNat) (IntKind.i64.wrap (z1 + 1))), Own.map (κ := Int) (ν := Int) b1 (mset mp5 e8 (IntKind.i64.wrap (((mget mp5 e8).getD 0) - 1))), Own.nest (Rows.put xr2 ((z1).toNat) Z6 m14.length cz6) 23 3 (m5.set ((z1).toNat) m14)] := by rw [← hE2]; exact hS134
          refine ge_same (t := 15) (v := (.slice Z1 m15.length cz1)) (v' := (.slice Z1 (m15.set ((e8).toNat) (IntKind.i64.wrap (z1 + 1))).length cz1)) (by kernel_rfl) (by rw [hE2]) ?_
          refine ge_same (t := 161) (v := (.slice Z1 m15.length cz1)) (v' := (.slice Z1 (m15.set ((e8).toNat) (IntKind.i64.wrap (z1 + 1))).length cz1)) (by kernel_rfl) (by rw [hE2]) ?_
          refine ge_nil fun a hF => hK39 _ _ ?_ a hF
          refine we_region [(0, 0), (1, 0)] rfl ?_
          refine ge_batch [0, 1] (ans := []) (vs := [(149, .int .i64 (IntKind.i64.wrap (z5 + 1))), (166, .int .i64 (IntKind.i64.wrap (z5 + 1)))]) (l := []) (by kernel_rfl) trivial ?_
          have hS136 := hS135.bring 1 rfl
          have hS137 := hS136.bring 2 rfl
          have hS138 := hS137.bring 2 rfl
          obtain rfl := Option.some.inj h
          exact ge_nil fun a hF => hQ _ _ _ (Outs.again ⟨hS138, hF.weaken ⟨by kernel_rfl, by kernel_rfl, by kernel_rfl, by kernel_rfl, by kernel_rfl, by kernel_rfl, by kernel_rfl, by kernel_rfl, by kernel_rfl, by kernel_rfl, by kernel_rfl, by kernel_rfl, by kernel_rfl, trivial⟩⟩)
        · rw [if_neg hc29] at h
          cases h
      · rw [if_neg hc28] at h
        refine we_known (t := 160) (b := (((mget (mset mp5 e8 (IntKind.i64.wrap (((mget mp5 e8).getD 0) - 1))) e8).getD 0) == 0)) (v := false) (by kernel_rfl) (beq_eq_false_iff_ne.2 hc28) ?_
        refine we_false (by kernel_rfl) ?_
        refine we_skip fun a hF => hK39 _ _ ?_ a hF
        refine we_region [(0, 0), (1, 0)] rfl ?_
        refine ge_batch [0, 1] (ans := []) (vs := [(149, .int .i64 (IntKind.i64.wrap (z5 + 1))), (166, .int .i64 (IntKind.i64.wrap (z5 + 1)))]) (l := []) (by kernel_rfl) trivial ?_
        have hS139 := hS131.bring 2 rfl
        have hS140 := hS139.bring 2 rfl
        obtain rfl := Option.some.inj h
        exact ge_nil fun a hF => hQ _ _ _ (Outs.again ⟨hS140, hF.weaken ⟨by kernel_rfl, by kernel_rfl, by kernel_rfl, by kernel_rfl, by kernel_rfl, by kernel_rfl, by kernel_rfl, by kernel_rfl, by kernel_rfl, by kernel_rfl, by kernel_rfl, by kernel_rfl, by kernel_rfl, trivial⟩⟩)
    · rw [if_neg hc27] at h
      cases h
  · rw [if_neg hc26] at h
    refine we_known (t := 150) (b := decide (z5 < (m14.length : Int))) (v := false) (by kernel_rfl) (decide_eq_false hc26) ?_
    refine we_false (by kernel_rfl) ?_
    have hS141 := hS.bring 2 rfl
    have hS142 := hS141.bring 2 rfl
    have hS143 := hS142.bring 2 rfl
    obtain rfl := Option.some.inj h
    exact we_exit fun a hF => hQ _ _ _ (Outs.out nofun (Exits.here ⟨hS143, hF.weaken ⟨by kernel_rfl, by kernel_rfl, by kernel_rfl, by kernel_rfl, by kernel_rfl, by kernel_rfl, by kernel_rfl, by kernel_rfl, by kernel_rfl, by kernel_rfl, trivial⟩⟩))
abbrev punctualref_Played.A1 (K : Nat) (w0 : World) (l0 : List SJob) (A0 : Option Addr) (c0 : Nat) (x1 : Int) (x2 : Bool) (x3 : Int) (x4 : Int) (hR0 : RdL w0 A0 l0) (hL0 : l0.length ≤ c0) (b1 : Nat) (hc1 : l0.length ≤ 17592186044416) (Z1 : Option Addr) (cz1 : Nat) (m3 : List Int) (mp3 : List (Int × Int)) (hc3 : 0 ≤ x4) (hc4 : ((x4).toNat) ≤ 5864062014805) (xr1 : Rows) : (Int × (List Int) × (List (List Int)) × (List (Int × Int))) → Act → World → Prop := fun (s : Int × (List Int) × (List (List Int)) × (List (Int × Int))) a w => ∃ (xr2 : Rows), St w0 w [Own.of (.slice Z1 s.2.1.length cz1) 3 s.2.1, Own.nest xr2 23 3 s.2.2.1, Own.map (κ := Int) (ν := Int) b1 s.2.2.2] ∧ Frm 169 a [(0, .slice A0 l0.length c0), (1, .int .i64 x1), (2, .bool x2), (3, .int .i64 x3), (4, .int .i64 x4), (5, .func (.func 68) #[] #[]), (14, .map (some b1)), (15, (.slice Z1 s.2.1.length cz1)), (18, (Rows.val xr2)), (19, .int .i64 s.1)]
abbrev punctualref_Played.B1 (K : Nat) (w0 : World) (l0 : List SJob) (A0 : Option Addr) (c0 : Nat) (x1 : Int) (x2 : Bool) (x3 : Int) (x4 : Int) (hR0 : RdL w0 A0 l0) (hL0 : l0.length ≤ c0) (b1 : Nat) (hc1 : l0.length ≤ 17592186044416) (Z1 : Option Addr) (cz1 : Nat) (m3 : List Int) (mp3 : List (Int × Int)) (hc3 : 0 ≤ x4) (hc4 : ((x4).toNat) ≤ 5864062014805) (xr1 : Rows) : (((List Int) × (List (List Int))) ⊕ ((List (List Int)) × (List Int))) → Exit → Act → World → Prop := Exits 2 (fun (s : (List Int) × (List (List Int))) a w => ∃ (xr3 : Rows), St w0 w [Own.of (.slice Z1 s.1.length cz1) 3 s.1, Own.nest xr3 23 3 s.2] ∧ Frm 169 a [(15, (.slice Z1 s.1.length cz1)), (18, (Rows.val xr3))]) (Rets Tryd.prog Tryd.f67 (punctualref_Played.Post w0))
theorem punctualref_Played_r1 (K : Nat) (w0 : World) (l0 : List SJob) (A0 : Option Addr) (c0 : Nat) (x1 : Int) (x2 : Bool) (x3 : Int) (x4 : Int) (hR0 : RdL w0 A0 l0) (hL0 : l0.length ≤ c0) (b1 : Nat) (hc1 : l0.length ≤ 17592186044416) (Z1 : Option Addr) (cz1 : Nat) (m3 : List Int) (mp3 : List (Int × Int)) (hc3 : 0 ≤ x4) (hc4 : ((x4).toNat) ≤ 5864062014805) (xr1 : Rows) (s : Int × (List Int) × (List (List Int)) × (List (Int × Int))) (o : (Int × (List Int) × (List (List Int)) × (List (Int × Int))) ⊕ (((List Int) × (List (List Int))) ⊕ ((List (List Int)) × (List Int)))) (h : punctualref_Played.r1 K l0 x1 x2 x3 x4 s = some o) (a : Act) (w : World) (hA : punctualref_Played.A1 K w0 l0 A0 c0 x1 x2 x3 x4 hR0 hL0 b1 hc1 Z1 cz1 m3 mp3 hc3 hc4 xr1 s a w) (Q : Exit → Act → World → Prop) (hQ : ∀ x a w, Outs (punctualref_Played.A1 K w0 l0 A0 c0 x1 x2 x3 x4 hR0 hL0 b1 hc1 Z1 cz1 m3 mp3 hc3 hc4 xr1) (punctualref_Played.B1 K w0 l0 A0 c0 x1 x2 x3 x4 hR0 hL0 b1 hc1 Z1 cz1 m3 mp3 hc3 hc4 xr1) o x a w → Q x a w) : (subF Tryd.f67 [1, 1, 1, 1, 1, 0, 1, 0, 0]).wp Tryd.prog Q a w := by
  obtain ⟨z1, m4, m5, mp4⟩ := s
  obtain ⟨xr2, hS, hF⟩ := hA
  replace hS : St w0 w [Own.of (.slice Z1 m4.length cz1) 3 m4, Own.nest xr2 23 3 m5, Own.map (κ := Int) (ν := Int) b1 mp4] := hS
  simp only [punctualref_Played.r1] at h
  refine (?_ : WE Tryd.prog 169 (subF Tryd.f67 [1, 1, 1, 1, 1, 0, 1, 0, 0]) Q [(0, .slice A0 l0.length c0), (1, .int .i64 x1), (2, .bool x2), (3, .int .i64 x3), (4, .int .i64 x4), (5, .func (.func 68) #[] #[]), (14, .map (some b1)), (15, (.slice Z1 m4.length cz1)), (18, (Rows.val xr2)), (19, .int .i64 z1)] w) a hF
  clear hF a
  refine we_seq fun K14 hK14 => ?_
  refine we_seq fun K15 hK15 => ?_
  refine we_region [(0, 0), (1, 0), (2, 0)] rfl ?_
  refine ge_batch [0, 1, 2] (ans := []) (vs := [(49, .bool (decide (z1 < x4))), (48, .int .i64 x4), (47, .int .i64 z1)]) (l := []) (by kernel_rfl) trivial ?_
  refine ge_nil fun a hF => hK15 _ _ ?_ a hF
  by_cases hc5 : z1 < x4
  · rw [if_pos hc5] at h
    refine we_known (t := 49) (b := decide (z1 < x4)) (v := true) (by kernel_rfl) (decide_eq_true hc5) ?_
    refine we_true (by kernel_rfl) ?_
    refine we_skip fun a hF => hK14 _ _ ?_ a hF
    refine we_seq fun K16 hK16 => ?_
    refine we_block ?_
    refine we_seq fun K17 hK17 => ?_
    refine we_seq fun K18 hK18 => ?_
    refine we_region [(0, 0), (1, 0), (2, 1), (3, 0)] rfl ?_
    refine ge_batch [0, 1] (ans := []) (vs := [(53, .int .i64 z1), (52, .func (.func 68) #[] #[])]) (l := []) (by kernel_rfl) trivial ?_
    refine ge_call (d := some 54) (f := 68) (args := #[.int .i64 z1]) (by kernel_rfl) (punctualref_Always_ok z1 _ _ rfl) ?_
    rintro _ w9 ⟨rfl, hS26⟩
    refine ⟨_, rfl, hS26.below, ?_⟩
    have hS27 := hS.call hS26
    refine ge_batch [3] (ans := []) (vs := [(55, .bool (!(punctualref_Always.f z1)))]) (l := []) (by kernel_rfl) trivial ?_
    refine ge_nil fun a hF => hK18 _ _ ?_ a hF
    by_cases hc6 : (punctualref_Always.f z1) = true
    · rw [if_pos hc6] at h
      refine we_known (t := 55) (b := !(punctualref_Always.f z1)) (v := false) (by kernel_rfl) (congrArg (fun z => !z) hc6) ?_
      refine we_false (by kernel_rfl) ?_
      refine we_skip fun a hF => hK17 _ _ ?_ a hF
      refine we_seq fun K19 hK19 => ?_
      refine we_region [(0, 0)] rfl ?_
      refine ge_batch [0] (ans := []) (vs := [(20, .slice none 0 0)]) (l := []) (by kernel_rfl) trivial ?_
      refine ge_nil fun a hF => hK19 _ _ ?_ a hF
      refine we_seq fun K20 hK20 => ?_
      refine we_seq fun K21 hK21 => ?_
      refine we_region [(0, 0), (1, 0), (2, 0)] rfl ?_
      refine ge_batch [0, 1, 2] (ans := []) (vs := [(58, .int .i64 0), (57, .int .i64 (l0.length : Int)), (56, .slice A0 l0.length c0)]) (l := []) (by kernel_rfl) trivial ?_
      refine ge_nil fun a hF => hK21 _ _ ?_ a hF
      refine we_block ?_
      have hS28 := hS27.nil (α := Int) 3
      have hS29 := hS28.bring 3 rfl
      have hS30 := hS29.bring 1 rfl
      have hS31 := hS30.bring 3 rfl
      have hS32 := hS31.bring 3 rfl
      rcases hq6 : iter (punctualref_Played.r2 K l0 x1 z1 mp4) K (([] : List Int), 0) with _ | (m10 | rr6)
      · rw [hq6] at h; cases h
      · rw [hq6] at h
        simp only [] at h
        refine we_iter (A := punctualref_Played.A2 K w0 l0 A0 c0 x1 x2 x3 x4 hR0 hL0 b1 hc1 Z1 cz1 m3 mp3 hc3 hc4 xr1 z1 m4 m5 xr2 mp4 hc5 hc6) (B := punctualref_Played.B2 K w0 l0 A0 c0 x1 x2 x3 x4 hR0 hL0 b1 hc1 Z1 cz1 m3 mp3 hc3 hc4 xr1 z1 m4 m5 xr2 mp4 hc5 hc6) hq6 (fun a hF => ⟨(.slice none 0 0), hS32, hF.weaken ⟨by kernel_rfl, by kernel_rfl, by kernel_rfl, by kernel_rfl, by kernel_rfl, by kernel_rfl, by kernel_rfl, by kernel_rfl, by kernel_rfl, by kernel_rfl, by kernel_rfl, by kernel_rfl, by kernel_rfl, by kernel_rfl, trivial⟩⟩) (fun s o hf a w hA Q hQ => punctualref_Played_r2 K w0 l0 A0 c0 x1 x2 x3 x4 hR0 hL0 b1 hc1 Z1 cz1 m3 mp3 hc3 hc4 xr1 z1 m4 m5 xr2 mp4 hc5 hc6 s o hf a w hA Q hQ) ?_
        rintro _ a w18 _ ⟨rfl, v7, hS88, hF⟩
        replace hS88 : St w0 w18 [Own.of (.slice Z1 m4.length cz1) 3 m4, Own.nest xr2 23 3 m5, Own.of v7 3 m10, Own.map (κ := Int) (ν := Int) b1 mp4] := hS88
        refine hK20 [(0, .slice A0 l0.length c0), (1, .int .i64 x1), (2, .bool x2), (3, .int .i64 x3), (4, .int .i64 x4), (5, .func (.func 68) #[] #[]), (14, .map (some b1)), (15, (.slice Z1 m4.length cz1)), (18, (Rows.val xr2)), (19, .int .i64 z1), (20, v7)] w18 ?_ a hF
        refine we_seq fun K31 hK31 => ?_
        obtain ⟨Z4, cz4, rfl⟩ := hS88.open 2 rfl
        rcases hq7 : punctualref_Played.p5 x2 z1 m5 mp4 m10 with _ | (m12 | rr5)
        · rw [hq7] at h; cases h
        · rw [hq7] at h
          simp only [] at h
          refine we_keep (e' := [(0, .slice A0 l0.length c0), (1, .int .i64 x1), (2, .bool x2), (3, .int .i64 x3), (4, .int .i64 x4), (5, .func (.func 68) #[] #[]), (14, .map (some b1)), (15, (.slice Z1 m4.length cz1)), (18, (Rows.val xr2)), (19, .int .i64 z1), (20, (.slice Z4 m10.length cz4))]) ⟨by kernel_rfl, by kernel_rfl, by kernel_rfl, by kernel_rfl, by kernel_rfl, by kernel_rfl, by kernel_rfl, by kernel_rfl, by kernel_rfl, by kernel_rfl, by kernel_rfl, trivial⟩ (punctualref_Played_p5 K w0 l0 A0 c0 x1 x2 x3 x4 hR0 hL0 b1 hc1 Z1 cz1 m3 mp3 hc3 hc4 xr1 z1 m4 m5 xr2 mp4 hc5 hc6 m10 Z4 cz4 _ hq7 _ hS88 _ ?_)
          rintro _ a w20 ⟨rfl, v9, hS112, hF⟩
          replace hS112 : St w0 w20 [Own.of (.slice Z1 m4.length cz1) 3 m4, Own.nest xr2 23 3 m5, Own.of v9 3 m12, Own.map (κ := Int) (ν := Int) b1 mp4] := hS112
          refine hK31 [(0, .slice A0 l0.length c0), (1, .int .i64 x1), (2, .bool x2), (3, .int .i64 x3), (4, .int .i64 x4), (5, .func (.func 68) #[] #[]), (14, .map (some b1)), (15, (.slice Z1 m4.length cz1)), (18, (Rows.val xr2)), (19, .int .i64 z1), (20, v9)] w20 ?_ a hF
          refine we_seq fun K33 hK33 => ?_
          obtain ⟨Z5, cz5, rfl⟩ := hS112.open 2 rfl
          rcases hq8 : punctualref_Played.p6 x3 m12 with _ | (m14 | rr4)
          · rw [hq8] at h; cases h
          · rw [hq8] at h
            simp only [] at h
            refine we_keep (e' := [(0, .slice A0 l0.length c0), (1, .int .i64 x1), (2, .bool x2), (3, .int .i64 x3), (4, .int .i64 x4), (5, .func (.func 68) #[] #[]), (14, .map (some b1)), (15, (.slice Z1 m4.length cz1)), (18, (Rows.val xr2)), (19, .int .i64 z1), (20, (.slice Z5 m12.length cz5))]) ⟨by kernel_rfl, by kernel_rfl, by kernel_rfl, by kernel_rfl, by kernel_rfl, by kernel_rfl, by kernel_rfl, by kernel_rfl, by kernel_rfl, by kernel_rfl, by kernel_rfl, trivial⟩ (punctualref_Played_p6 K w0 l0 A0 c0 x1 x2 x3 x4 hR0 hL0 b1 hc1 Z1 cz1 m3 mp3 hc3 hc4 xr1 z1 m4 m5 xr2 mp4 hc5 hc6 m10 Z4 cz4 m12 Z5 cz5 _ hq8 _ hS112 _ ?_)
            rintro _ a w21 ⟨rfl, v11, hS123, hF⟩
            replace hS123 : St w0 w21 [Own.of (.slice Z1 m4.length cz1) 3 m4, Own.nest xr2 23 3 m5, Own.of v11 3 m14, Own.map (κ := Int) (ν := Int) b1 mp4] := hS123
            refine hK33 [(0, .slice A0 l0.length c0), (1, .int .i64 x1), (2, .bool x2), (3, .int .i64 x3), (4, .int .i64 x4), (5, .func (.func 68) #[] #[]), (14, .map (some b1)), (15, (.slice Z1 m4.length cz1)), (18, (Rows.val xr2)), (19, .int .i64 z1), (20, v11)] w21 ?_ a hF
            refine we_seq fun K35 hK35 => ?_
            refine we_region [(0, 0), (1, 0), (2, 0), (3, 0), (4, 2)] rfl ?_
            refine ge_batch [0, 1, 2] (ans := []) (vs := [(145, v11), (144, .int .i64 z1), (143, (Rows.val xr2))]) (l := []) (by kernel_rfl) trivial ?_
            by_cases hc25 : 0 ≤ z1
            · rw [if_pos hc25] at h
              rcases hx12 : m5[(z1).toNat]? with _ | e7
              · rw [hx12] at h; cases h
              rw [hx12] at h
              simp only [] at h
              obtain ⟨An2, cn2, hxn2, -, -⟩ := (hS123.nestAt 1 rfl).nl.get hx12
              refine ge_index (d := 146) (ty := 0) (t := 96) (el := 23) (sz := 1) (m := xr2.n) (c := xr2.c) (x := (.tmp 143)) (y := (.tmp 144)) (A := xr2.A) (k' := .i64) (j := z1) (jn := ((z1).toNat)) (b0 := blkOf xr2.A) (o0 := offOf xr2.A) (by kernel_rfl) (by kernel_rfl) (by kernel_rfl) (by kernel_rfl) (by kernel_rfl) ((hS123.nestAt 1 rfl).rd.eqSome (pos_of_get hxn2)) (Int.toNat_of_nonneg hc25).symm (by have h0 := lt_of_get hx12; have h1 := (hS123.nestAt 1 rfl).n; omega) ?_
              obtain ⟨Z6, cz6, rfl⟩ := hS123.open 2 rfl
              have hS124 := hS123.bring 1 rfl
              have hS125 := hS124.bring 2 rfl
              have hh1 := Rows.put_at (A := Z6) (n := m14.length) (c := cz6) (hS125.nestAt 1 rfl).nl.len (lt_of_get hx12)
              have hx13 := set_at (l := m14) hx12
              refine ge_nestSet (α := Int) (jn := ((z1).toNat)) (c := cz6) (T := 23) (t := 3) (A := Z6) (x := xr2) (l := m14) (ls := m5) (l' := [.stored ⟨blkOf xr2.A, offOf xr2.A + ((z1).toNat) * 1, none⟩ (.slice Z6 m14.length cz6)]) hS125 (by kernel_rfl) (by kernel_rfl) hx12 fun w22 hS126 => ?_
              refine ge_nil fun a hF => hK35 _ _ ?_ a hF
              refine we_seq fun K36 hK36 => ?_
              refine we_region [(0, 0), (1, 0), (2, 0)] rfl ?_
              refine ge_batch [0, 1, 2] (ans := []) (vs := [(149, .int .i64 0), (148, .int .i64 (m14.length : Int)), (147, .slice Z6 m14.length cz6)]) (l := []) (by kernel_rfl) trivial ?_
              refine ge_nil fun a hF => hK36 _ _ ?_ a hF
              refine we_block ?_
              have hS127 := hS126.bring 2 rfl
              have hS128 := hS127.bring 1 rfl
              have hS129 := hS128.bring 2 rfl
              rcases hq9 : iter (punctualref_Played.r7 z1 m14) K (0, m4, mp4) with _ | (⟨m17, mp7⟩ | rr3)
              · rw [hq9] at h; cases h
              · rw [hq9] at h
                simp only [] at h
                refine we_iter (A := punctualref_Played.A7 K w0 l0 A0 c0 x1 x2 x3 x4 hR0 hL0 b1 hc1 Z1 cz1 m3 mp3 hc3 hc4 xr1 z1 m4 m5 xr2 mp4 hc5 hc6 m10 Z4 cz4 m12 Z5 cz5 m14 hc25 e7 hx12 An2 cn2 hxn2 Z6 cz6 hh1 hx13) (B := punctualref_Played.B7 K w0 l0 A0 c0 x1 x2 x3 x4 hR0 hL0 b1 hc1 Z1 cz1 m3 mp3 hc3 hc4 xr1 z1 m4 m5 xr2 mp4 hc5 hc6 m10 Z4 cz4 m12 Z5 cz5 m14 hc25 e7 hx12 An2 cn2 hxn2 Z6 cz6 hh1 hx13) hq9 (fun a hF => ⟨hS129, hF.weaken ⟨by kernel_rfl, by kernel_rfl, by kernel_rfl, by kernel_rfl, by kernel_rfl, by kernel_rfl, by kernel_rfl, by kernel_rfl, by kernel_rfl, by kernel_rfl, by kernel_rfl, by kernel_rfl, by kernel_rfl, trivial⟩⟩) (fun s o hf a w hA Q hQ => punctualref_Played_r7 K w0 l0 A0 c0 x1 x2 x3 x4 hR0 hL0 b1 hc1 Z1 cz1 m3 mp3 hc3 hc4 xr1 z1 m4 m5 xr2 mp4 hc5 hc6 m10 Z4 cz4 m12 Z5 cz5 m14 hc25 e7 hx12 An2 cn2 hxn2 Z6 cz6 hh1 hx13 s o hf a w hA Q hQ) ?_
                rintro _ a w25 _ ⟨rfl, hS144, hF⟩
                replace hS144 : St w0 w25 [Own.of (.slice Z1 m17.length cz1) 3 m17, Own.nest (Rows.put xr2 ((z1).toNat) Z6 m14.length cz6) 23 3 (m5.set ((z1).toNat) m14), Own.map (κ := Int) (ν := Int) b1 mp7] := hS144
                refine hK16 [(0, .slice A0 l0.length c0), (1, .int .i64 x1), (2, .bool x2), (3, .int .i64 x3), (4, .int .i64 x4), (5, .func (.func 68) #[] #[]), (14, .map (some b1)), (15, (.slice Z1 m17.length cz1)), (18, (Rows.val (Rows.put xr2 ((z1).toNat) Z6 m14.length cz6))), (19, .int .i64 z1)] w25 ?_ a hF
                refine we_region [(0, 0), (1, 0), (2, 0)] rfl ?_
                refine ge_batch [0, 1, 2] (ans := []) (vs := [(19, .int .i64 (IntKind.i64.wrap (z1 + 1))), (51, .int .i64 (IntKind.i64.wrap (z1 + 1))), (50, .int .i64 z1)]) (l := []) (by kernel_rfl) trivial ?_
                have hS145 := hS144.bring 2 rfl
                have hS146 := hS145.bring 2 rfl
                have hS147 := hS146.bring 2 rfl
                obtain rfl := Option.some.inj h
                exact ge_nil fun a hF => hQ _ _ _ (Outs.again ⟨(Rows.put xr2 ((z1).toNat) Z6 m14.length cz6), hS147, hF.weaken ⟨by kernel_rfl, by kernel_rfl, by kernel_rfl, by kernel_rfl, by kernel_rfl, by kernel_rfl, by kernel_rfl, by kernel_rfl, by kernel_rfl, by kernel_rfl, trivial⟩⟩)
              · rw [hq9] at h
                simp only [] at h
                refine we_iter (A := punctualref_Played.A7 K w0 l0 A0 c0 x1 x2 x3 x4 hR0 hL0 b1 hc1 Z1 cz1 m3 mp3 hc3 hc4 xr1 z1 m4 m5 xr2 mp4 hc5 hc6 m10 Z4 cz4 m12 Z5 cz5 m14 hc25 e7 hx12 An2 cn2 hxn2 Z6 cz6 hh1 hx13) (B := punctualref_Played.B7 K w0 l0 A0 c0 x1 x2 x3 x4 hR0 hL0 b1 hc1 Z1 cz1 m3 mp3 hc3 hc4 xr1 z1 m4 m5 xr2 mp4 hc5 hc6 m10 Z4 cz4 m12 Z5 cz5 m14 hc25 e7 hx12 An2 cn2 hxn2 Z6 cz6 hh1 hx13) hq9 (fun a hF => ⟨hS129, hF.weaken ⟨by kernel_rfl, by kernel_rfl, by kernel_rfl, by kernel_rfl, by kernel_rfl, by kernel_rfl, by kernel_rfl, by kernel_rfl, by kernel_rfl, by kernel_rfl, by kernel_rfl, by kernel_rfl, by kernel_rfl, trivial⟩⟩) (fun s o hf a w hA Q hQ => punctualref_Played_r7 K w0 l0 A0 c0 x1 x2 x3 x4 hR0 hL0 b1 hc1 Z1 cz1 m3 mp3 hc3 hc4 xr1 z1 m4 m5 xr2 mp4 hc5 hc6 m10 Z4 cz4 m12 Z5 cz5 m14 hc25 e7 hx12 An2 cn2 hxn2 Z6 cz6 hh1 hx13 s o hf a w hA Q hQ) ?_
                rintro _ a w1 _ ⟨rfl, hb⟩
                obtain rfl := Option.some.inj h
                exact hQ _ _ _ (Outs.out nofun (Exits.on ⟨rfl, hb⟩))
            · rw [if_neg hc25] at h
              cases h
          · rw [hq8] at h
            simp only [] at h
            refine we_keep (e' := [(0, .slice A0 l0.length c0), (1, .int .i64 x1), (2, .bool x2), (3, .int .i64 x3), (4, .int .i64 x4), (5, .func (.func 68) #[] #[]), (14, .map (some b1)), (15, (.slice Z1 m4.length cz1)), (18, (Rows.val xr2)), (19, .int .i64 z1), (20, (.slice Z5 m12.length cz5))]) ⟨by kernel_rfl, by kernel_rfl, by kernel_rfl, by kernel_rfl, by kernel_rfl, by kernel_rfl, by kernel_rfl, by kernel_rfl, by kernel_rfl, by kernel_rfl, by kernel_rfl, trivial⟩ (punctualref_Played_p6 K w0 l0 A0 c0 x1 x2 x3 x4 hR0 hL0 b1 hc1 Z1 cz1 m3 mp3 hc3 hc4 xr1 z1 m4 m5 xr2 mp4 hc5 hc6 m10 Z4 cz4 m12 Z5 cz5 _ hq8 _ hS112 _ ?_)
            rintro _ a w1 ⟨_, rfl, hb⟩
            obtain rfl := Option.some.inj h
            exact hQ _ _ _ (Outs.out nofun (Exits.on ⟨rfl, hb⟩))
        · rw [hq7] at h
          simp only [] at h
          refine we_keep (e' := [(0, .slice A0 l0.length c0), (1, .int .i64 x1), (2, .bool x2), (3, .int .i64 x3), (4, .int .i64 x4), (5, .func (.func 68) #[] #[]), (14, .map (some b1)), (15, (.slice Z1 m4.length cz1)), (18, (Rows.val xr2)), (19, .int .i64 z1), (20, (.slice Z4 m10.length cz4))]) ⟨by kernel_rfl, by kernel_rfl, by kernel_rfl, by kernel_rfl, by kernel_rfl, by kernel_rfl, by kernel_rfl, by kernel_rfl, by kernel_rfl, by kernel_rfl, by kernel_rfl, trivial⟩ (punctualref_Played_p5 K w0 l0 A0 c0 x1 x2 x3 x4 hR0 hL0 b1 hc1 Z1 cz1 m3 mp3 hc3 hc4 xr1 z1 m4 m5 xr2 mp4 hc5 hc6 m10 Z4 cz4 _ hq7 _ hS88 _ ?_)
          rintro _ a w1 ⟨_, rfl, hb⟩
          obtain rfl := Option.some.inj h
          exact hQ _ _ _ (Outs.out nofun (Exits.on ⟨rfl, hb⟩))
      · rw [hq6] at h
        simp only [] at h
        refine we_iter (A := punctualref_Played.A2 K w0 l0 A0 c0 x1 x2 x3 x4 hR0 hL0 b1 hc1 Z1 cz1 m3 mp3 hc3 hc4 xr1 z1 m4 m5 xr2 mp4 hc5 hc6) (B := punctualref_Played.B2 K w0 l0 A0 c0 x1 x2 x3 x4 hR0 hL0 b1 hc1 Z1 cz1 m3 mp3 hc3 hc4 xr1 z1 m4 m5 xr2 mp4 hc5 hc6) hq6 (fun a hF => ⟨(.slice none 0 0), hS32, hF.weaken ⟨by kernel_rfl, by kernel_rfl, by kernel_rfl, by kernel_rfl, by kernel_rfl, by kernel_rfl, by kernel_rfl, by kernel_rfl, by kernel_rfl, by kernel_rfl, by kernel_rfl, by kernel_rfl, by kernel_rfl, by kernel_rfl, trivial⟩⟩) (fun s o hf a w hA Q hQ => punctualref_Played_r2 K w0 l0 A0 c0 x1 x2 x3 x4 hR0 hL0 b1 hc1 Z1 cz1 m3 mp3 hc3 hc4 xr1 z1 m4 m5 xr2 mp4 hc5 hc6 s o hf a w hA Q hQ) ?_
        rintro _ a w1 _ ⟨rfl, hb⟩
        obtain rfl := Option.some.inj h
        exact hQ _ _ _ (Outs.out nofun (Exits.on ⟨rfl, hb⟩))
    · rw [if_neg hc6] at h
      refine we_known (t := 55) (b := !(punctualref_Always.f z1)) (v := true) (by kernel_rfl) (congrArg (fun z => !z) (Bool.eq_false_iff.2 hc6)) ?_
      refine we_true (by kernel_rfl) ?_
      refine we_exit fun a hF => hK16 _ _ ?_ a hF
      refine we_region [(0, 0), (1, 0), (2, 0)] rfl ?_
      refine ge_batch [0, 1, 2] (ans := []) (vs := [(19, .int .i64 (IntKind.i64.wrap (z1 + 1))), (51, .int .i64 (IntKind.i64.wrap (z1 + 1))), (50, .int .i64 z1)]) (l := []) (by kernel_rfl) trivial ?_
      have hS148 := hS27.bring 2 rfl
      have hS149 := hS148.bring 2 rfl
      have hS150 := hS149.bring 2 rfl
      obtain rfl := Option.some.inj h
      exact ge_nil fun a hF => hQ _ _ _ (Outs.again ⟨xr2, hS150, hF.weaken ⟨by kernel_rfl, by kernel_rfl, by kernel_rfl, by kernel_rfl, by kernel_rfl, by kernel_rfl, by kernel_rfl, by kernel_rfl, by kernel_rfl, by kernel_rfl, trivial⟩⟩)
  · rw [if_neg hc5] at h
    refine we_known (t := 49) (b := decide (z1 < x4)) (v := false) (by kernel_rfl) (decide_eq_false hc5) ?_
    refine we_false (by kernel_rfl) ?_
    have hS151 := hS.bring 1 rfl
    have hS152 := hS151.bring 1 rfl
    have hS153 := hS152.takeN 2
    obtain rfl := Option.some.inj h
    exact we_exit fun a hF => hQ _ _ _ (Outs.out nofun (Exits.here ⟨xr2, hS153, hF.weaken ⟨by kernel_rfl, by kernel_rfl, trivial⟩⟩))
theorem punctualref_Played_ok (K : Nat) (l0 : List SJob) (A0 : Option Addr) (c0 : Nat) (x1 : Int) (x2 : Bool) (x3 : Int) (x4 : Int) (w0 : World) (hR0 : RdL w0 A0 l0) (hL0 : l0.length ≤ c0) (r : (List (List Int)) × (List Int)) (h : punctualref_Played.f K l0 x1 x2 x3 x4 = some r) :
    Calls Tryd.prog 67 #[.slice A0 l0.length c0, .int .i64 x1, .bool x2, .int .i64 x3, .int .i64 x4, .func (.func 68) #[] #[]] w0 (punctualref_Played.Post w0 r) := by
  have hS := St.start w0
  unfold punctualref_Played.f at h
  refine calls_enter (n := 169) (args := [.slice A0 l0.length c0, .int .i64 x1, .bool x2, .int .i64 x3, .int .i64 x4, .func (.func 68) #[] #[]]) (fn := Tryd.f67) rfl rfl rfl rfl ?_
  show WE _ _ _ _ [(0, .slice A0 l0.length c0), (1, .int .i64 x1), (2, .bool x2), (3, .int .i64 x3), (4, .int .i64 x4), (5, .func (.func 68) #[] #[])] _
  refine we_seq fun K1 hK1 => ?_
  refine we_region [(0, 0), (1, 0)] rfl ?_
  refine ge_batch [0, 1] (ans := []) (vs := [(13, .slice none 0 0), (12, .slice none 0 0)]) (l := []) (by kernel_rfl) trivial ?_
  refine ge_nil fun a hF => hK1 _ _ ?_ a hF
  refine we_seq fun K2 hK2 => ?_
  refine we_region [(0, 1), (1, 0)] rfl ?_
  refine ge_new (d := some 26) (o := .map #[] 0) (v := fun b => .map (some b)) hS (fun b => by kernel_rfl) fun b1 w1 hx1 hS1 => ?_
  have hS2 := hS1.newMap (κ := Int) (ν := Int)
  refine ge_batch [1] (ans := []) (vs := [(14, .map (some b1))]) (l := []) (by kernel_rfl) trivial ?_
  refine ge_nil fun a hF => hK2 _ _ ?_ a hF
  refine we_seq fun K3 hK3 => ?_
  refine we_region [(0, 0), (1, 0), (2, 1), (3, 0)] rfl ?_
  refine ge_batch [0, 1] (ans := []) (vs := [(28, .int .i64 (l0.length : Int)), (27, .slice A0 l0.length c0)]) (l := []) (by kernel_rfl) trivial ?_
  by_cases hc1 : l0.length ≤ 17592186044416
  · rw [if_pos hc1] at h
    refine ge_make (α := Int) (d := 29) (t := 23) (el := 3) (bytes := 8) (l := l0.length) (c := l0.length) (x := (.tmp 28)) (y := (.tmp 28)) (ty := 23) (k1 := .i64) (k2 := .i64) (li := (l0.length : Int)) (ci := (l0.length : Int)) (z := .int .i64 0) (z' := (0 : Int)) (by kernel_rfl) (by kernel_rfl) (by kernel_rfl) rfl rfl (by kernel_rfl) (by kernel_rfl) rfl hS2 (Nat.le_refl _) rfl (by omega) fun v1 w2 _ hS3 => ?_
    refine ge_batch [3] (ans := []) (vs := [(15, v1)]) (l := []) (by kernel_rfl) trivial ?_
    refine ge_nil fun a hF => hK3 _ _ ?_ a hF
    refine we_seq fun K4 hK4 => ?_
    refine we_seq fun K5 hK5 => ?_
    refine we_region [(0, 0), (1, 0), (2, 0)] rfl ?_
    refine ge_batch [0, 1, 2] (ans := []) (vs := [(32, .int .i64 0), (31, .int .i64 (l0.length : Int)), (30, .slice A0 l0.length c0)]) (l := []) (by kernel_rfl) trivial ?_
    refine ge_nil fun a hF => hK5 _ _ ?_ a hF
    refine we_block ?_
    obtain ⟨Z1, cz1, rfl⟩ := hS3.open 0 rfl
    have hS4 := hS3.bring 1 rfl
    have hS5 := hS4.bring 1 rfl
    rcases hq1 : iter (punctualref_Played.r0 l0) K (0, (List.replicate l0.length (0 : Int)), ([] : List (Int × Int))) with _ | (⟨m3, mp3⟩ | rr8)
    · rw [hq1] at h; cases h
    · rw [hq1] at h
      simp only [] at h
      refine we_iter (A := punctualref_Played.A0 K w0 l0 A0 c0 x1 x2 x3 x4 hR0 hL0 b1 hc1 Z1 cz1) (B := punctualref_Played.B0 K w0 l0 A0 c0 x1 x2 x3 x4 hR0 hL0 b1 hc1 Z1 cz1) hq1 (fun a hF => ⟨hS5, hF.weaken ⟨by kernel_rfl, by kernel_rfl, by kernel_rfl, by kernel_rfl, by kernel_rfl, by kernel_rfl, by kernel_rfl, by kernel_rfl, by kernel_rfl, by kernel_rfl, by kernel_rfl, trivial⟩⟩) (fun s o hf a w hA Q hQ => punctualref_Played_r0 K w0 l0 A0 c0 x1 x2 x3 x4 hR0 hL0 b1 hc1 Z1 cz1 s o hf a w hA Q hQ) ?_
      rintro _ a w7 _ ⟨rfl, hS20, hF⟩
      replace hS20 : St w0 w7 [Own.of (.slice Z1 m3.length cz1) 3 m3, Own.map (κ := Int) (ν := Int) b1 mp3] := hS20
      refine hK4 [(0, .slice A0 l0.length c0), (1, .int .i64 x1), (2, .bool x2), (3, .int .i64 x3), (4, .int .i64 x4), (5, .func (.func 68) #[] #[]), (14, .map (some b1)), (15, (.slice Z1 m3.length cz1))] w7 ?_ a hF
      refine we_seq fun K11 hK11 => ?_
      refine we_region [(0, 0), (1, 1), (2, 0)] rfl ?_
      refine ge_batch [0] (ans := []) (vs := [(45, .int .i64 x4)]) (l := []) (by kernel_rfl) trivial ?_
      by_cases hc3 : 0 ≤ x4
      · rw [if_pos hc3] at h
        by_cases hc4 : ((x4).toNat) ≤ 5864062014805
        · rw [if_pos hc4] at h
          refine ge_make (α := Hdr) (d := 46) (t := 96) (el := 23) (bytes := 24) (l := ((x4).toNat)) (c := ((x4).toNat)) (x := (.tmp 45)) (y := (.tmp 45)) (ty := 96) (k1 := .i64) (k2 := .i64) (li := x4) (ci := x4) (z := .slice none 0 0) (z' := (⟨none, 0, 0⟩ : Hdr)) (by kernel_rfl) (by kernel_rfl) (by kernel_rfl) (Int.toNat_of_nonneg hc3).symm (Int.toNat_of_nonneg hc3).symm (by kernel_rfl) (by kernel_rfl) rfl hS20 (Nat.le_refl _) rfl (by omega) fun v2 w8 _ hS21 => ?_
          obtain ⟨xr1, rfl, hS22⟩ := hS21.nestMake (α := Int) (e := 3)
          refine ge_batch [2] (ans := []) (vs := [(18, (Rows.val xr1))]) (l := []) (by kernel_rfl) trivial ?_
          refine ge_nil fun a hF => hK11 _ _ ?_ a hF
          refine we_seq fun K12 hK12 => ?_
          refine we_seq fun K13 hK13 => ?_
          refine we_region [(0, 0)] rfl ?_
          refine ge_batch [0] (ans := []) (vs := [(19, .int .i64 0)]) (l := []) (by kernel_rfl) trivial ?_
          refine ge_nil fun a hF => hK13 _ _ ?_ a hF
          refine we_block ?_
          have hS23 := hS22.bring 2 rfl
          have hS24 := hS23.bring 1 rfl
          have hS25 := hS24.bring 2 rfl
          rcases hq10 : iter (punctualref_Played.r1 K l0 x1 x2 x3 x4) K (0, m3, (List.replicate ((x4).toNat) ([] : List Int)), mp3) with _ | (⟨m18, m19⟩ | rr7)
          · rw [hq10] at h; cases h
          · rw [hq10] at h
            simp only [] at h
            refine we_iter (A := punctualref_Played.A1 K w0 l0 A0 c0 x1 x2 x3 x4 hR0 hL0 b1 hc1 Z1 cz1 m3 mp3 hc3 hc4 xr1) (B := punctualref_Played.B1 K w0 l0 A0 c0 x1 x2 x3 x4 hR0 hL0 b1 hc1 Z1 cz1 m3 mp3 hc3 hc4 xr1) hq10 (fun a hF => ⟨xr1, hS25, hF.weaken ⟨by kernel_rfl, by kernel_rfl, by kernel_rfl, by kernel_rfl, by kernel_rfl, by kernel_rfl, by kernel_rfl, by kernel_rfl, by kernel_rfl, by kernel_rfl, trivial⟩⟩) (fun s o hf a w hA Q hQ => punctualref_Played_r1 K w0 l0 A0 c0 x1 x2 x3 x4 hR0 hL0 b1 hc1 Z1 cz1 m3 mp3 hc3 hc4 xr1 s o hf a w hA Q hQ) ?_
            rintro _ a w26 _ ⟨rfl, xr4, hS154, hF⟩
            replace hS154 : St w0 w26 [Own.of (.slice Z1 m18.length cz1) 3 m18, Own.nest xr4 23 3 m19] := hS154
            refine hK12 [(15, (.slice Z1 m18.length cz1)), (18, (Rows.val xr4))] w26 ?_ a hF
            refine we_seq fun K43 hK43 => ?_
            refine we_region [(0, 0), (1, 0), (2, 0), (3, 0)] rfl ?_
            refine ge_batch [0, 1, 2, 3] (ans := []) (vs := [(13, (.slice Z1 m18.length cz1)), (12, (Rows.val xr4)), (168, (.slice Z1 m18.length cz1)), (167, (Rows.val xr4))]) (l := []) (by kernel_rfl) trivial ?_
            refine ge_nil fun a hF => hK43 _ _ ?_ a hF
            have hS155 := hS154.bring 1 rfl
            obtain rfl := Option.some.inj h
            exact we_ret (post_ret (rs := [.tmp 12, .tmp 13]) (ans := []) (vs := [(Rows.val xr4), (.slice Z1 m18.length cz1)]) (l := []) rfl (by kernel_rfl) trivial ⟨xr4, (.slice Z1 m18.length cz1), rfl, hS155⟩)
          · rw [hq10] at h
            simp only [] at h
            refine we_iter (A := punctualref_Played.A1 K w0 l0 A0 c0 x1 x2 x3 x4 hR0 hL0 b1 hc1 Z1 cz1 m3 mp3 hc3 hc4 xr1) (B := punctualref_Played.B1 K w0 l0 A0 c0 x1 x2 x3 x4 hR0 hL0 b1 hc1 Z1 cz1 m3 mp3 hc3 hc4 xr1) hq10 (fun a hF => ⟨xr1, hS25, hF.weaken ⟨by kernel_rfl, by kernel_rfl, by kernel_rfl, by kernel_rfl, by kernel_rfl, by kernel_rfl, by kernel_rfl, by kernel_rfl, by kernel_rfl, by kernel_rfl, trivial⟩⟩) (fun s o hf a w hA Q hQ => punctualref_Played_r1 K w0 l0 A0 c0 x1 x2 x3 x4 hR0 hL0 b1 hc1 Z1 cz1 m3 mp3 hc3 hc4 xr1 s o hf a w hA Q hQ) ?_
            rintro _ a w1 _ ⟨rfl, hb⟩
            obtain rfl := Option.some.inj h
            exact hb
        · rw [if_neg hc4] at h
          cases h
      · rw [if_neg hc3] at h
        cases h
    · rw [hq1] at h
      simp only [] at h
      refine we_iter (A := punctualref_Played.A0 K w0 l0 A0 c0 x1 x2 x3 x4 hR0 hL0 b1 hc1 Z1 cz1) (B := punctualref_Played.B0 K w0 l0 A0 c0 x1 x2 x3 x4 hR0 hL0 b1 hc1 Z1 cz1) hq1 (fun a hF => ⟨hS5, hF.weaken ⟨by kernel_rfl, by kernel_rfl, by kernel_rfl, by kernel_rfl, by kernel_rfl, by kernel_rfl, by kernel_rfl, by kernel_rfl, by kernel_rfl, by kernel_rfl, by kernel_rfl, trivial⟩⟩) (fun s o hf a w hA Q hQ => punctualref_Played_r0 K w0 l0 A0 c0 x1 x2 x3 x4 hR0 hL0 b1 hc1 Z1 cz1 s o hf a w hA Q hQ) ?_
      rintro _ a w1 _ ⟨rfl, hb⟩
      obtain rfl := Option.some.inj h
      exact hb
  · rw [if_neg hc1] at h
    cases h

/-! punctual/punctualref.One -/
abbrev punctualref_One.Post (w0 : World) (r : List Int) (e : Ending) (w : World) : Prop := ∃ (v0 : Value), e = .returned (v0) ∧ St w0 w [Own.of v0 3 r]
def punctualref_One.r0 (l0 : List (List Int)) : Int × (List Int) → Option ((Int × (List Int)) ⊕ ((List Int) ⊕ (List Int)))
  | (z1, m1) =>
    if z1 < (l0.length : Int) then
      if 0 ≤ z1 then
        match l0[(z1).toNat]? with
        | none => none
        | some e1 =>
          match m1[(z1).toNat]? with
          | none => none
          | some e2 =>
            if (e1.length : Int) > 0 then
              match e1[0]? with
              | none => none
              | some e3 =>
                match (m1.set ((z1).toNat) (-1))[(z1).toNat]? with
                | none => none
                | some e4 =>
                  some (.inl (IntKind.i64.wrap (z1 + 1), ((m1.set ((z1).toNat) (-1)).set ((z1).toNat) e3)))
            else
              some (.inl (IntKind.i64.wrap (z1 + 1), (m1.set ((z1).toNat) (-1))))
      else
        none
    else
      some (.inr (.inl m1))
def punctualref_One.f (K : Nat) (l0 : List (List Int)) : Option (List Int) :=
  if l0.length ≤ 17592186044416 then
    match iter (punctualref_One.r0 l0) K (0, (List.replicate l0.length (0 : Int))) with
    | none => none
    | some (.inl m3) =>
      some m3
    | some (.inr rr1) =>
      some rr1
  else
    none
abbrev punctualref_One.A0 (K : Nat) (w0 : World) (l0 : List (List Int)) (hd0 : List Hdr) (A0 : Option Addr) (c0 : Nat) (hR0 : RdL w0 A0 hd0) (hL0 : l0.length ≤ c0) (hN0 : NestL w0 hd0 l0) (hc1 : l0.length ≤ 17592186044416) (Z1 : Option Addr) (cz1 : Nat) : (Int × (List Int)) → Act → World → Prop := fun (s : Int × (List Int)) a w => St w0 w [Own.of (.slice Z1 s.2.length cz1) 3 s.2] ∧ Frm 30 a [(3, (.slice Z1 s.2.length cz1)), (9, .slice A0 l0.length c0), (10, .int .i64 (l0.length : Int)), (11, .int .i64 s.1)]
abbrev punctualref_One.B0 (K : Nat) (w0 : World) (l0 : List (List Int)) (hd0 : List Hdr) (A0 : Option Addr) (c0 : Nat) (hR0 : RdL w0 A0 hd0) (hL0 : l0.length ≤ c0) (hN0 : NestL w0 hd0 l0) (hc1 : l0.length ≤ 17592186044416) (Z1 : Option Addr) (cz1 : Nat) : ((List Int) ⊕ (List Int)) → Exit → Act → World → Prop := Exits 0 (fun (s : (List Int)) a w => St w0 w [Own.of (.slice Z1 s.length cz1) 3 s] ∧ Frm 30 a [(3, (.slice Z1 s.length cz1))]) (Rets Tryd.prog Tryd.f69 (punctualref_One.Post w0))
theorem punctualref_One_r0 (K : Nat) (w0 : World) (l0 : List (List Int)) (hd0 : List Hdr) (A0 : Option Addr) (c0 : Nat) (hR0 : RdL w0 A0 hd0) (hL0 : l0.length ≤ c0) (hN0 : NestL w0 hd0 l0) (hc1 : l0.length ≤ 17592186044416) (Z1 : Option Addr) (cz1 : Nat) (s : Int × (List Int)) (o : (Int × (List Int)) ⊕ ((List Int) ⊕ (List Int))) (h : punctualref_One.r0 l0 s = some o) (a : Act) (w : World) (hA : punctualref_One.A0 K w0 l0 hd0 A0 c0 hR0 hL0 hN0 hc1 Z1 cz1 s a w) (Q : Exit → Act → World → Prop) (hQ : ∀ x a w, Outs (punctualref_One.A0 K w0 l0 hd0 A0 c0 hR0 hL0 hN0 hc1 Z1 cz1) (punctualref_One.B0 K w0 l0 hd0 A0 c0 hR0 hL0 hN0 hc1 Z1 cz1) o x a w → Q x a w) : (subF Tryd.f69 [1, 1, 0, 1, 0, 0]).wp Tryd.prog Q a w := by
  obtain ⟨z1, m1⟩ := s
  obtain ⟨hS, hF⟩ := hA
  replace hS : St w0 w [Own.of (.slice Z1 m1.length cz1) 3 m1] := hS
  simp only [punctualref_One.r0] at h
  refine (?_ : WE Tryd.prog 30 (subF Tryd.f69 [1, 1, 0, 1, 0, 0]) Q [(3, (.slice Z1 m1.length cz1)), (9, .slice A0 l0.length c0), (10, .int .i64 (l0.length : Int)), (11, .int .i64 z1)] w) a hF
  clear hF a
  refine we_seq fun K5 hK5 => ?_
  refine we_region [(0, 0)] rfl ?_
  refine ge_batch [0] (ans := []) (vs := [(12, .bool (decide (z1 < (l0.length : Int))))]) (l := []) (by kernel_rfl) trivial ?_
  refine ge_nil fun a hF => hK5 _ _ ?_ a hF
  refine we_seq fun K6 hK6 => ?_
  by_cases hc2 : z1 < (l0.length : Int)
  · rw [if_pos hc2] at h
    refine we_known (t := 12) (b := decide (z1 < (l0.length : Int))) (v := true) (by kernel_rfl) (decide_eq_true hc2) ?_
    refine we_true (by kernel_rfl) ?_
    refine we_skip fun a hF => hK6 _ _ ?_ a hF
    refine we_seq fun K7 hK7 => ?_
    refine we_block ?_
    refine we_seq fun K8 hK8 => ?_
    refine we_region [(0, 0), (1, 0), (2, 0), (3, 0), (4, 0)] rfl ?_
    refine ge_batch [0] (ans := []) (vs := [(13, .int .i64 z1)]) (l := []) (by kernel_rfl) trivial ?_
    by_cases hc3 : 0 ≤ z1
    · rw [if_pos hc3] at h
      rcases hx1 : l0[(z1).toNat]? with _ | e1
      · rw [hx1] at h; cases h
      rw [hx1] at h
      simp only [] at h
      obtain ⟨An1, cn1, hxn1, hRn1, hLn1⟩ := hN0.get hx1
      refine ge_index (d := 14) (ty := 0) (t := 96) (el := 23) (sz := 1) (m := l0.length) (c := c0) (x := (.tmp 9)) (y := (.tmp 11)) (A := A0) (k' := .i64) (j := z1) (jn := ((z1).toNat)) (b0 := blkOf A0) (o0 := offOf A0) (by kernel_rfl) (by kernel_rfl) (by kernel_rfl) (by kernel_rfl) (by kernel_rfl) ((hS.rd hR0).eqSome (pos_of_get hxn1)) (Int.toNat_of_nonneg hc3).symm (lt_of_get hx1) ?_
      refine ge_batch [2, 3, 4] (ans := [.val (.slice An1 e1.length cn1)]) (vs := [(5, .slice An1 e1.length cn1), (4, .int .i64 z1), (15, .slice An1 e1.length cn1)]) (l := [.loaded ⟨blkOf A0, offOf A0 + ((z1).toNat) * 1, none⟩ (.slice An1 e1.length cn1)]) (by kernel_rfl) ⟨RdL.cell (j := 0) (hS.rd hR0) hxn1 rfl, trivial⟩ ?_
      refine ge_nil fun a hF => hK8 _ _ ?_ a hF
      refine we_seq fun K9 hK9 => ?_
      refine we_region [(0, 0), (1, 0), (2, 0), (3, 2)] rfl ?_
      refine ge_batch [0, 1] (ans := []) (vs := [(17, .int .i64 z1), (16, (.slice Z1 m1.length cz1))]) (l := []) (by kernel_rfl) trivial ?_
      rcases hx2 : m1[(z1).toNat]? with _ | e2
      · rw [hx2] at h; cases h
      rw [hx2] at h
      simp only [] at h
      refine ge_index (d := 18) (ty := 0) (t := 23) (el := 3) (sz := 1) (m := m1.length) (c := cz1) (x := (.tmp 16)) (y := (.tmp 17)) (A := Z1) (k' := .i64) (j := z1) (jn := ((z1).toNat)) (b0 := blkOf Z1) (o0 := offOf Z1) (by kernel_rfl) (by kernel_rfl) (by kernel_rfl) (by kernel_rfl) (by kernel_rfl) ((hS.rdAt 0 rfl).eqSome (pos_of_get hx2)) (Int.toNat_of_nonneg hc3).symm (lt_of_get hx2) ?_
      refine ge_seti (α := Int) (A := Z1) (nn := m1.length) (c := cz1) (t := 3) (l := m1) (x := e2) (x' := (-1)) (jn := ((z1).toNat)) (j := 0) (vs := [.int .i64 (-1)]) (l' := [.stored ⟨blkOf Z1, offOf Z1 + ((z1).toNat) * 1, none⟩ (.int .i64 (-1))]) hS (by kernel_rfl) (by kernel_rfl) hx2 rfl rfl rfl fun w2 hS2 => ?_
      have hS3 : St w0 w2 [Own.of (.slice Z1 m1.length cz1) 3 (m1.set ((z1).toNat) (-1))] := hS2
      have hE1 : m1.length = (m1.set ((z1).toNat) (-1)).length := hS3.lenAt 0 rfl
      have hS4 : St w0 w2 [Own.of (.slice Z1 (m1.set ((z1).toNat) (-1)).length cz1) 3 (m1.set ((z1).toNat) (-1))] := by rw [← hE1]; exact hS3
      refine ge_same (t := 3) (v := (.slice Z1 m1.length cz1)) (v' := (.slice Z1 (m1.set ((z1).toNat) (-1)).length cz1)) (by kernel_rfl) (by rw [hE1]) ?_
      refine ge_same (t := 16) (v := (.slice Z1 m1.length cz1)) (v' := (.slice Z1 (m1.set ((z1).toNat) (-1)).length cz1)) (by kernel_rfl) (by rw [hE1]) ?_
      refine ge_nil fun a hF => hK9 _ _ ?_ a hF
      refine we_seq fun K10 hK10 => ?_
      refine we_region [(0, 0), (1, 0), (2, 0)] rfl ?_
      refine ge_batch [0, 1, 2] (ans := []) (vs := [(21, .bool (decide ((e1.length : Int) > 0))), (20, .int .i64 (e1.length : Int)), (19, .slice An1 e1.length cn1)]) (l := []) (by kernel_rfl) trivial ?_
      refine ge_nil fun a hF => hK10 _ _ ?_ a hF
      by_cases hc4 : (e1.length : Int) > 0
      · rw [if_pos hc4] at h
        refine we_known (t := 21) (b := decide ((e1.length : Int) > 0)) (v := true) (by kernel_rfl) (decide_eq_true hc4) ?_
        refine we_true (by kernel_rfl) ?_
        refine we_region [(0, 0), (1, 0), (2, 0), (3, 0), (4, 0), (5, 0), (6, 2)] rfl ?_
        refine ge_batch [0, 1, 2] (ans := []) (vs := [(24, .slice An1 e1.length cn1), (23, .int .i64 z1), (22, (.slice Z1 (m1.set ((z1).toNat) (-1)).length cz1))]) (l := []) (by kernel_rfl) trivial ?_
        rcases hx3 : e1[0]? with _ | e3
        · rw [hx3] at h; cases h
        rw [hx3] at h
        simp only [] at h
        refine ge_index (d := 25) (ty := 0) (t := 23) (el := 3) (sz := 1) (m := e1.length) (c := cn1) (x := (.tmp 24)) (y := (.const (.int .i64 0))) (A := An1) (k' := .i64) (j := 0) (jn := 0) (b0 := blkOf An1) (o0 := offOf An1) (by kernel_rfl) (by kernel_rfl) (by kernel_rfl) (by kernel_rfl) (by kernel_rfl) ((hS4.rd hRn1).eqSome (pos_of_get hx3)) rfl (lt_of_get hx3) ?_
        refine ge_batch [4] (ans := [.val (.int .i64 e3)]) (vs := [(26, .int .i64 e3)]) (l := [.loaded ⟨blkOf An1, offOf An1 + 0 * 1, none⟩ (.int .i64 e3)]) (by kernel_rfl) ⟨RdL.cell (j := 0) (hS4.rd hRn1) hx3 rfl, trivial⟩ ?_
        rcases hx4 : (m1.set ((z1).toNat) (-1))[(z1).toNat]? with _ | e4
        · rw [hx4] at h; cases h
        rw [hx4] at h
        simp only [] at h
        refine ge_index (d := 27) (ty := 0) (t := 23) (el := 3) (sz := 1) (m := (m1.set ((z1).toNat) (-1)).length) (c := cz1) (x := (.tmp 22)) (y := (.tmp 23)) (A := Z1) (k' := .i64) (j := z1) (jn := ((z1).toNat)) (b0 := blkOf Z1) (o0 := offOf Z1) (by kernel_rfl) (by kernel_rfl) (by kernel_rfl) (by kernel_rfl) (by kernel_rfl) ((hS4.rdAt 0 rfl).eqSome (pos_of_get hx4)) (Int.toNat_of_nonneg hc3).symm (lt_of_get hx4) ?_
        refine ge_seti (α := Int) (A := Z1) (nn := ((m1.set ((z1).toNat) (-1)).length)) (c := cz1) (t := 3) (l := (m1.set ((z1).toNat) (-1))) (x := e4) (x' := e3) (jn := ((z1).toNat)) (j := 0) (vs := [.int .i64 e3]) (l' := [.stored ⟨blkOf Z1, offOf Z1 + ((z1).toNat) * 1, none⟩ (.int .i64 e3)]) hS4 (by kernel_rfl) (by kernel_rfl) hx4 rfl rfl rfl fun w3 hS5 => ?_
        have hS6 : St w0 w3 [Own.of (.slice Z1 (m1.set ((z1).toNat) (-1)).length cz1) 3 ((m1.set ((z1).toNat) (-1)).set ((z1).toNat) e3)] := hS5
        have hE2 : (m1.set ((z1).toNat) (-1)).length = ((m1.set ((z1).toNat) (-1)).set ((z1).toNat) e3).length := hS6.lenAt 0 rfl
        have hS7 : St w0 w3 [Own.of (.slice Z1 ((m1.set ((z1).toNat) (-1)).set ((z1).toNat) e3).length cz1) 3 ((m1.set ((z1).toNat) (-1)).set ((z1).toNat) e3)] := by rw [← hE2]; exact hS6
        refine ge_same (t := 3) (v := (.slice Z1 (m1.set ((z1).toNat) (-1)).length cz1)) (v' := (.slice Z1 ((m1.set ((z1).toNat) (-1)).set ((z1).toNat) e3).length cz1)) (by kernel_rfl) (by rw [hE2]) ?_
        refine ge_same (t := 16) (v := (.slice Z1 (m1.set ((z1).toNat) (-1)).length cz1)) (v' := (.slice Z1 ((m1.set ((z1).toNat) (-1)).set ((z1).toNat) e3).length cz1)) (by kernel_rfl) (by rw [hE2]) ?_
        refine ge_same (t := 22) (v := (.slice Z1 (m1.set ((z1).toNat) (-1)).length cz1)) (v' := (.slice Z1 ((m1.set ((z1).toNat) (-1)).set ((z1).toNat) e3).length cz1)) (by kernel_rfl) (by rw [hE2]) ?_
        refine ge_nil fun a hF => hK7 _ _ ?_ a hF
        refine we_region [(0, 0), (1, 0)] rfl ?_
        refine ge_batch [0, 1] (ans := []) (vs := [(11, .int .i64 (IntKind.i64.wrap (z1 + 1))), (28, .int .i64 (IntKind.i64.wrap (z1 + 1)))]) (l := []) (by kernel_rfl) trivial ?_
        obtain rfl := Option.some.inj h
        exact ge_nil fun a hF => hQ _ _ _ (Outs.again ⟨hS7, hF.weaken ⟨by kernel_rfl, by kernel_rfl, by kernel_rfl, by kernel_rfl, trivial⟩⟩)
      · rw [if_neg hc4] at h
        refine we_known (t := 21) (b := decide ((e1.length : Int) > 0)) (v := false) (by kernel_rfl) (decide_eq_false hc4) ?_
        refine we_false (by kernel_rfl) ?_
        refine we_skip fun a hF => hK7 _ _ ?_ a hF
        refine we_region [(0, 0), (1, 0)] rfl ?_
        refine ge_batch [0, 1] (ans := []) (vs := [(11, .int .i64 (IntKind.i64.wrap (z1 + 1))), (28, .int .i64 (IntKind.i64.wrap (z1 + 1)))]) (l := []) (by kernel_rfl) trivial ?_
        obtain rfl := Option.some.inj h
        exact ge_nil fun a hF => hQ _ _ _ (Outs.again ⟨hS4, hF.weaken ⟨by kernel_rfl, by kernel_rfl, by kernel_rfl, by kernel_rfl, trivial⟩⟩)
    · rw [if_neg hc3] at h
      cases h
  · rw [if_neg hc2] at h
    refine we_known (t := 12) (b := decide (z1 < (l0.length : Int))) (v := false) (by kernel_rfl) (decide_eq_false hc2) ?_
    refine we_false (by kernel_rfl) ?_
    obtain rfl := Option.some.inj h
    exact we_exit fun a hF => hQ _ _ _ (Outs.out nofun (Exits.here ⟨hS, hF.weaken ⟨by kernel_rfl, trivial⟩⟩))
theorem punctualref_One_ok (K : Nat) (l0 : List (List Int)) (hd0 : List Hdr) (A0 : Option Addr) (c0 : Nat) (w0 : World) (hR0 : RdL w0 A0 hd0) (hL0 : l0.length ≤ c0) (hN0 : NestL w0 hd0 l0) (r : List Int) (h : punctualref_One.f K l0 = some r) :
    Calls Tryd.prog 69 #[.slice A0 l0.length c0] w0 (punctualref_One.Post w0 r) := by
  have hS := St.start w0
  unfold punctualref_One.f at h
  refine calls_enter (n := 30) (args := [.slice A0 l0.length c0]) (fn := Tryd.f69) rfl rfl rfl rfl ?_
  show WE _ _ _ _ [(0, .slice A0 l0.length c0)] _
  refine we_seq fun K1 hK1 => ?_
  refine we_region [(0, 0)] rfl ?_
  refine ge_batch [0] (ans := []) (vs := [(2, .slice none 0 0)]) (l := []) (by kernel_rfl) trivial ?_
  refine ge_nil fun a hF => hK1 _ _ ?_ a hF
  refine we_seq fun K2 hK2 => ?_
  refine we_region [(0, 0), (1, 0), (2, 1), (3, 0)] rfl ?_
  refine ge_batch [0, 1] (ans := []) (vs := [(7, .int .i64 (l0.length : Int)), (6, .slice A0 l0.length c0)]) (l := []) (by kernel_rfl) trivial ?_
  by_cases hc1 : l0.length ≤ 17592186044416
  · rw [if_pos hc1] at h
    refine ge_make (α := Int) (d := 8) (t := 23) (el := 3) (bytes := 8) (l := l0.length) (c := l0.length) (x := (.tmp 7)) (y := (.tmp 7)) (ty := 23) (k1 := .i64) (k2 := .i64) (li := (l0.length : Int)) (ci := (l0.length : Int)) (z := .int .i64 0) (z' := (0 : Int)) (by kernel_rfl) (by kernel_rfl) (by kernel_rfl) rfl rfl (by kernel_rfl) (by kernel_rfl) rfl hS (Nat.le_refl _) rfl (by omega) fun v1 w1 _ hS1 => ?_
    refine ge_batch [3] (ans := []) (vs := [(3, v1)]) (l := []) (by kernel_rfl) trivial ?_
    refine ge_nil fun a hF => hK2 _ _ ?_ a hF
    refine we_seq fun K3 hK3 => ?_
    refine we_seq fun K4 hK4 => ?_
    refine we_region [(0, 0), (1, 0), (2, 0)] rfl ?_
    refine ge_batch [0, 1, 2] (ans := []) (vs := [(11, .int .i64 0), (10, .int .i64 (l0.length : Int)), (9, .slice A0 l0.length c0)]) (l := []) (by kernel_rfl) trivial ?_
    refine ge_nil fun a hF => hK4 _ _ ?_ a hF
    refine we_block ?_
    obtain ⟨Z1, cz1, rfl⟩ := hS1.open 0 rfl
    rcases hq1 : iter (punctualref_One.r0 l0) K (0, (List.replicate l0.length (0 : Int))) with _ | (m3 | rr1)
    · rw [hq1] at h; cases h
    · rw [hq1] at h
      simp only [] at h
      refine we_iter (A := punctualref_One.A0 K w0 l0 hd0 A0 c0 hR0 hL0 hN0 hc1 Z1 cz1) (B := punctualref_One.B0 K w0 l0 hd0 A0 c0 hR0 hL0 hN0 hc1 Z1 cz1) hq1 (fun a hF => ⟨hS1, hF.weaken ⟨by kernel_rfl, by kernel_rfl, by kernel_rfl, by kernel_rfl, trivial⟩⟩) (fun s o hf a w hA Q hQ => punctualref_One_r0 K w0 l0 hd0 A0 c0 hR0 hL0 hN0 hc1 Z1 cz1 s o hf a w hA Q hQ) ?_
      rintro _ a w4 _ ⟨rfl, hS8, hF⟩
      replace hS8 : St w0 w4 [Own.of (.slice Z1 m3.length cz1) 3 m3] := hS8
      refine hK3 [(3, (.slice Z1 m3.length cz1))] w4 ?_ a hF
      refine we_seq fun K11 hK11 => ?_
      refine we_region [(0, 0), (1, 0)] rfl ?_
      refine ge_batch [0, 1] (ans := []) (vs := [(2, (.slice Z1 m3.length cz1)), (29, (.slice Z1 m3.length cz1))]) (l := []) (by kernel_rfl) trivial ?_
      refine ge_nil fun a hF => hK11 _ _ ?_ a hF
      obtain rfl := Option.some.inj h
      exact we_ret (post_ret (rs := [.tmp 2]) (ans := []) (vs := [(.slice Z1 m3.length cz1)]) (l := []) rfl (by kernel_rfl) trivial ⟨(.slice Z1 m3.length cz1), rfl, hS8⟩)
    · rw [hq1] at h
      simp only [] at h
      refine we_iter (A := punctualref_One.A0 K w0 l0 hd0 A0 c0 hR0 hL0 hN0 hc1 Z1 cz1) (B := punctualref_One.B0 K w0 l0 hd0 A0 c0 hR0 hL0 hN0 hc1 Z1 cz1) hq1 (fun a hF => ⟨hS1, hF.weaken ⟨by kernel_rfl, by kernel_rfl, by kernel_rfl, by kernel_rfl, trivial⟩⟩) (fun s o hf a w hA Q hQ => punctualref_One_r0 K w0 l0 hd0 A0 c0 hR0 hL0 hN0 hc1 Z1 cz1 s o hf a w hA Q hQ) ?_
      rintro _ a w1 _ ⟨rfl, hb⟩
      obtain rfl := Option.some.inj h
      exact hb
  · rw [if_neg hc1] at h
    cases h

/-! punctual/punctualref.PlayJobs -/
abbrev punctualref_PlayJobs.Post (w0 : World) (r : SPlayed × SFault) (e : Ending) (w : World) : Prop := ∃ (v0 : Value) (v1 : Value), e = .returned (.tuple #[.agg #[v0, v1], .agg #[.int .i64 r.2.Code, .int .i64 r.2.At]]) ∧ St w0 w [Own.of v0 3 r.1.Runs, Own.of v1 3 r.1.Ends]
def punctualref_PlayJobs.p0 (r1 : SFault) : Option ((Int × Int × (List Int) × (List Int)) ⊕ (SPlayed × SFault)) :=
    some (.inl (r1.Code, r1.At, ([] : List Int), ([] : List Int)))
def punctualref_PlayJobs.f (K : Nat) (l0 : List SJob) (x1 : Int) (x2 : Bool) (x3 : Int) : Option (SPlayed × SFault) :=
  match punctualref_CheckJobs.f K l0 with
  | none => none
  | some r1 =>
    if r1.Code = 0 then
      if x1 = 1 then
        if x3 < 0 then
          some ((⟨([] : List Int), ([] : List Int)⟩ : SPlayed), (punctualref_F.f 3 0))
        else
          if x3 > 20000 then
            some ((⟨([] : List Int), ([] : List Int)⟩ : SPlayed), (punctualref_F.f 3 0))
          else
            match punctualref_Played.f K l0 x1 x2 1 x3 with
            | none => none
            | some r2 =>
              match punctualref_One.f K r2.1 with
              | none => none
              | some r3 =>
                some ((⟨r3, r2.2⟩ : SPlayed), (⟨0, 0⟩ : SFault))
      else
        if x1 = 2 then
          if x3 < 0 then
            some ((⟨([] : List Int), ([] : List Int)⟩ : SPlayed), (punctualref_F.f 3 0))
          else
            if x3 > 20000 then
              some ((⟨([] : List Int), ([] : List Int)⟩ : SPlayed), (punctualref_F.f 3 0))
            else
              match punctualref_Played.f K l0 x1 x2 1 x3 with
              | none => none
              | some r4 =>
                match punctualref_One.f K r4.1 with
                | none => none
                | some r5 =>
                  some ((⟨r5, r4.2⟩ : SPlayed), (⟨0, 0⟩ : SFault))
        else
          some ((⟨([] : List Int), ([] : List Int)⟩ : SPlayed), (punctualref_F.f 6 0))
    else
      match punctualref_PlayJobs.p0 r1 with
      | none => none
      | some (.inl (z3, z4, m3, m4)) =>
        some ((⟨m3, m4⟩ : SPlayed), (⟨z3, z4⟩ : SFault))
      | some (.inr rr1) =>
        some rr1
abbrev punctualref_PlayJobs.A0 (K : Nat) (w0 : World) (l0 : List SJob) (A0 : Option Addr) (c0 : Nat) (x1 : Int) (x2 : Bool) (x3 : Int) (hR0 : RdL w0 A0 l0) (hL0 : l0.length ≤ c0) (b1 : Nat) (b2 : Nat) (r1 : SFault) (b3 : Nat) (hc1 : ¬ (r1.Code = 0)) : (Int × Int × (List Int) × (List Int)) → Act → World → Prop := fun (s : Int × Int × (List Int) × (List Int)) a w => ∃ (v5 : Value) (v6 : Value), St w0 w [Own.blk b2 (.cells #[.int .i64 s.1, .int .i64 s.2.1] 26 (0, 0)), Own.blk b1 (.cells #[v5, v6] 32 (0, 0)), Own.of v5 3 s.2.2.1, Own.of v6 3 s.2.2.2] ∧ Frm 49 a [(8, .pointer (some ⟨b1, 0, none⟩)), (9, .pointer (some ⟨b2, 0, none⟩))]
abbrev punctualref_PlayJobs.B0 (K : Nat) (w0 : World) (l0 : List SJob) (A0 : Option Addr) (c0 : Nat) (x1 : Int) (x2 : Bool) (x3 : Int) (hR0 : RdL w0 A0 l0) (hL0 : l0.length ≤ c0) (b1 : Nat) (b2 : Nat) (r1 : SFault) (b3 : Nat) (hc1 : ¬ (r1.Code = 0)) : (SPlayed × SFault) → Exit → Act → World → Prop := Rets Tryd.prog Tryd.f33 (punctualref_PlayJobs.Post w0)
theorem punctualref_PlayJobs_p0 (K : Nat) (w0 : World) (l0 : List SJob) (A0 : Option Addr) (c0 : Nat) (x1 : Int) (x2 : Bool) (x3 : Int) (hR0 : RdL w0 A0 l0) (hL0 : l0.length ≤ c0) (b1 : Nat) (b2 : Nat) (r1 : SFault) (b3 : Nat) (hc1 : ¬ (r1.Code = 0)) (o : (Int × Int × (List Int) × (List Int)) ⊕ (SPlayed × SFault)) (h : punctualref_PlayJobs.p0 r1 = some o) (w : World) (hS : St w0 w [Own.blk b3 (.cells #[.int .i64 r1.Code, .int .i64 r1.At] 26 (0, 0)), Own.blk b2 (.cells #[.int .i64 0, .int .i64 0] 26 (0, 0)), Own.blk b1 (.cells #[.slice none 0 0, .slice none 0 0] 32 (0, 0))]) (Q : Exit → Act → World → Prop) (hQ : ∀ x a w, Outs (punctualref_PlayJobs.A0 K w0 l0 A0 c0 x1 x2 x3 hR0 hL0 b1 b2 r1 b3 hc1) (punctualref_PlayJobs.B0 K w0 l0 A0 c0 x1 x2 x3 hR0 hL0 b1 b2 r1 b3 hc1) o x a w → Q x a w) : WE Tryd.prog 49 (subF Tryd.f33 [1, 0, 1, 1, 0, 0]) Q [(0, .slice A0 l0.length c0), (1, .int .i64 x1), (2, .bool x2), (3, .int .i64 x3), (8, .pointer (some ⟨b1, 0, none⟩)), (9, .pointer (some ⟨b2, 0, none⟩)), (10, .pointer (some ⟨b3, 0, none⟩)), (13, .slice A0 l0.length c0), (14, .agg #[.int .i64 r1.Code, .int .i64 r1.At]), (15, .pointer (some ⟨b3, 0, none⟩)), (16, .int .i64 r1.Code), (17, .bool true)] w := by
  simp only [punctualref_PlayJobs.p0] at h
  refine we_orders2 (by kernel_rfl) [(1, [⟨b3, 0, none⟩, ⟨b3, 1, none⟩])] (.vals [0] (.vals [1] (.alt 2 2 (.alt 3 2 .fin .nomore) .nomore))) (by kernel_rfl) ?_
  have hS99 := hS.drew
  refine go2_batch [0] (ans := []) (vs := [(18, .agg #[.slice none 0 0, .slice none 0 0])]) (l := []) (by kernel_rfl) trivial mem_nil ?_
  refine go2_batch [1] (ans := [.val (.int .i64 r1.Code), .val (.int .i64 r1.At)]) (vs := [(19, .agg #[.int .i64 r1.Code, .int .i64 r1.At])]) (l := [.loaded ⟨b3, 0, none⟩ (.int .i64 r1.Code), .loaded ⟨b3, 1, none⟩ (.int .i64 r1.At)]) (by kernel_rfl) ⟨hS99.cell 0 rfl rfl, hS99.cell 0 rfl rfl, trivial⟩ (mem_one (by kernel_rfl)) ?_
  refine go_alt2 (fun KK hKK => ?_) ?_
  · have hS100 := hS99.bring 2 rfl
    refine ge_set (b := b1) (j := 0) (cs := #[.slice none 0 0, .slice none 0 0]) (t := 32) (vs := [.slice none 0 0, .slice none 0 0]) hS100 (by kernel_rfl) rfl rfl fun w29 hS101 => ?_
    have hS102 : St w0 w29 [Own.blk b1 (.cells #[.slice none 0 0, .slice none 0 0] 32 (0, 0)), Own.blk b3 (.cells #[.int .i64 r1.Code, .int .i64 r1.At] 26 (0, 0)), Own.blk b2 (.cells #[.int .i64 0, .int .i64 0] 26 (0, 0))] := hS101
    refine ge_nil fun a hF => hKK _ _ (RS.of2 (l := [.loaded ⟨b3, 0, none⟩ (.int .i64 r1.Code), .loaded ⟨b3, 1, none⟩ (.int .i64 r1.At)]) (by kernel_rfl) ⟨hS99.cell 0 rfl rfl, hS99.cell 0 rfl rfl, trivial⟩ ⟨hS102.cell 1 rfl rfl, hS102.cell 1 rfl rfl, trivial⟩) ?_ a hF
    refine go_alt2 (fun KK hKK => ?_) ?_
    · have hS103 := hS102.bring 2 rfl
      refine ge_set (b := b2) (j := 0) (cs := #[.int .i64 0, .int .i64 0]) (t := 26) (vs := [.int .i64 r1.Code, .int .i64 r1.At]) hS103 (by kernel_rfl) rfl rfl fun w30 hS104 => ?_
      have hS105 : St w0 w30 [Own.blk b2 (.cells #[.int .i64 r1.Code, .int .i64 r1.At] 26 (0, 0)), Own.blk b1 (.cells #[.slice none 0 0, .slice none 0 0] 32 (0, 0)), Own.blk b3 (.cells #[.int .i64 r1.Code, .int .i64 r1.At] 26 (0, 0))] := hS104
      refine ge_nil fun a hF => hKK _ _ (RS.of2 (l := []) (by kernel_rfl) trivial trivial) ?_ a hF
      have hS106 := hS105.nil (α := Int) 3
      have hS107 := hS106.nil (α := Int) 3
      have hS108 := hS107.bring 1 rfl
      have hS109 := hS108.bring 1 rfl
      have hS110 := hS109.bring 3 rfl
      have hS111 := hS110.bring 3 rfl
      have hS112 := hS111.takeN 4
      obtain rfl := Option.some.inj h
      exact go_fin2 fun a hF => hQ _ _ _ (Outs.again ⟨(.slice none 0 0), (.slice none 0 0), hS112, hF.weaken ⟨by kernel_rfl, by kernel_rfl, trivial⟩⟩)
    exact go_nomore2
  exact go_nomore2
theorem punctualref_PlayJobs_ok (K : Nat) (l0 : List SJob) (A0 : Option Addr) (c0 : Nat) (x1 : Int) (x2 : Bool) (x3 : Int) (w0 : World) (hR0 : RdL w0 A0 l0) (hL0 : l0.length ≤ c0) (r : SPlayed × SFault) (h : punctualref_PlayJobs.f K l0 x1 x2 x3 = some r) :
    Calls Tryd.prog 33 #[.slice A0 l0.length c0, .int .i64 x1, .bool x2, .int .i64 x3] w0 (punctualref_PlayJobs.Post w0 r) := by
  have hS := St.start w0
  unfold punctualref_PlayJobs.f at h
  refine calls_enter (n := 49) (args := [.slice A0 l0.length c0, .int .i64 x1, .bool x2, .int .i64 x3]) (fn := Tryd.f33) rfl rfl rfl rfl ?_
  show WE _ _ _ _ [(0, .slice A0 l0.length c0), (1, .int .i64 x1), (2, .bool x2), (3, .int .i64 x3)] _
  refine we_seq fun K1 hK1 => ?_
  refine we_region [(0, 1), (1, 1)] rfl ?_
  refine ge_new (d := some 8) (o := .cells #[.slice none 0 0, .slice none 0 0] 32) (v := fun b => .pointer (some ⟨b, 0, none⟩)) hS (fun b => by kernel_rfl) fun b1 w1 hx1 hS1 => ?_
  refine ge_new (d := some 9) (o := .cells #[.int .i64 0, .int .i64 0] 26) (v := fun b => .pointer (some ⟨b, 0, none⟩)) hS1 (fun b => by kernel_rfl) fun b2 w2 hx2 hS2 => ?_
  refine ge_nil fun a hF => hK1 _ _ ?_ a hF
  refine we_seq fun K2 hK2 => ?_
  refine we_seq fun K3 hK3 => ?_
  refine we_region [(0, 0), (1, 1), (2, 1), (3, 2)] rfl ?_
  rcases hq1 : punctualref_CheckJobs.f K l0 with _ | r1
  · rw [hq1] at h; cases h
  rw [hq1] at h
  simp only [] at h
  refine ge_batch [0] (ans := []) (vs := [(13, .slice A0 l0.length c0)]) (l := []) (by kernel_rfl) trivial ?_
  refine ge_call (d := some 14) (f := 35) (args := #[.slice A0 l0.length c0]) (by kernel_rfl) (punctualref_CheckJobs_ok K l0 A0 c0 _ (hS2.rd hR0) hL0 _ hq1) ?_
  rintro _ w3 ⟨rfl, hS3⟩
  refine ⟨_, rfl, hS3.below, ?_⟩
  have hS4 := hS2.call hS3
  refine ge_new (d := some 10) (o := .cells #[.int .i64 0, .int .i64 0] 26) (v := fun b => .pointer (some ⟨b, 0, none⟩)) hS4 (fun b => by kernel_rfl) fun b3 w4 hx3 hS5 => ?_
  refine ge_set (b := b3) (j := 0) (cs := #[.int .i64 0, .int .i64 0]) (t := 26) (vs := [.int .i64 r1.Code, .int .i64 r1.At]) hS5 (by kernel_rfl) rfl rfl fun w5 hS6 => ?_
  have hS7 : St w0 w5 [Own.blk b3 (.cells #[.int .i64 r1.Code, .int .i64 r1.At] 26 (0, 0)), Own.blk b2 (.cells #[.int .i64 0, .int .i64 0] 26 (0, 0)), Own.blk b1 (.cells #[.slice none 0 0, .slice none 0 0] 32 (0, 0))] := hS6
  refine ge_nil fun a hF => hK3 _ _ ?_ a hF
  refine we_seq fun K4 hK4 => ?_
  refine we_region [(0, 0), (1, 0), (2, 0)] rfl ?_
  refine ge_batch [0, 1, 2] (ans := [.val (.int .i64 r1.Code)]) (vs := [(17, .bool (r1.Code != 0)), (16, .int .i64 r1.Code), (15, .pointer (some ⟨b3, 0, none⟩))]) (l := [.loaded ⟨b3, 0, none⟩ (.int .i64 r1.Code)]) (by kernel_rfl) ⟨hS7.cell 0 rfl rfl, trivial⟩ ?_
  refine ge_nil fun a hF => hK4 _ _ ?_ a hF
  by_cases hc1 : r1.Code = 0
  · rw [if_pos hc1] at h
    refine we_known (t := 17) (b := (r1.Code != 0)) (v := false) (by kernel_rfl) (bne_eq_false_iff_eq.2 hc1) ?_
    refine we_false (by kernel_rfl) ?_
    refine we_skip fun a hF => hK2 _ _ ?_ a hF
    refine we_seq fun K5 hK5 => ?_
    refine we_seq fun K6 hK6 => ?_
    refine we_region [(0, 0), (1, 0), (2, 0), (3, 0), (4, 0), (5, 0)] rfl ?_
    refine ge_batch [0, 1, 2] (ans := []) (vs := [(22, .bool (x1 != 1)), (21, .bool (x1 != 1)), (20, .int .i64 x1)]) (l := []) (by kernel_rfl) trivial ?_
    by_cases hc2 : x1 = 1
    · rw [if_pos hc2] at h
      refine ge_known (t := 22) (b := (x1 != 1)) (c := false) (by kernel_rfl) (bne_eq_false_iff_eq.2 hc2) ?_
      refine ge_batch [3, 4, 5] (ans := []) (vs := [(25, .bool false), (24, undef), (23, undef)]) (l := []) (by kernel_rfl) trivial ?_
      refine ge_nil fun a hF => hK6 _ _ ?_ a hF
      refine we_false (by kernel_rfl) ?_
      refine we_skip fun a hF => hK5 _ _ ?_ a hF
      refine we_seq fun K7 hK7 => ?_
      refine we_seq fun K8 hK8 => ?_
      refine we_region [(0, 0), (1, 0), (2, 0), (3, 0), (4, 0), (5, 0)] rfl ?_
      refine ge_batch [0, 1, 2] (ans := []) (vs := [(30, .bool (decide (x3 < 0))), (29, .bool (decide (x3 < 0))), (28, .int .i64 x3)]) (l := []) (by kernel_rfl) trivial ?_
      by_cases hc3 : x3 < 0
      · rw [if_pos hc3] at h
        refine ge_known (t := 30) (b := decide (x3 < 0)) (c := true) (by kernel_rfl) (decide_eq_true hc3) ?_
        refine ge_batch [3, 4, 5] (ans := []) (vs := [(33, .bool true), (32, undef), (31, undef)]) (l := []) (by kernel_rfl) trivial ?_
        refine ge_nil fun a hF => hK8 _ _ ?_ a hF
        refine we_true (by kernel_rfl) ?_
        refine we_seq fun K9 hK9 => ?_
        refine we_region [(0, 0), (1, 1), (2, 2), (3, 2)] rfl ?_
        refine ge_batch [0] (ans := []) (vs := [(34, .agg #[.slice none 0 0, .slice none 0 0])]) (l := []) (by kernel_rfl) trivial ?_
        refine ge_call (d := some 35) (f := 21) (args := #[.int .i64 3, .int .i64 0]) (by kernel_rfl) (punctualref_F_ok 3 0 _ _ rfl) ?_
        rintro _ w6 ⟨rfl, hS8⟩
        refine ⟨_, rfl, hS8.below, ?_⟩
        have hS9 := hS7.call hS8
        have hS10 := hS9.bring 2 rfl
        refine ge_set (b := b1) (j := 0) (cs := #[.slice none 0 0, .slice none 0 0]) (t := 32) (vs := [.slice none 0 0, .slice none 0 0]) hS10 (by kernel_rfl) rfl rfl fun w7 hS11 => ?_
        have hS12 : St w0 w7 [Own.blk b1 (.cells #[.slice none 0 0, .slice none 0 0] 32 (0, 0)), Own.blk b3 (.cells #[.int .i64 r1.Code, .int .i64 r1.At] 26 (0, 0)), Own.blk b2 (.cells #[.int .i64 0, .int .i64 0] 26 (0, 0))] := hS11
        have hS13 := hS12.bring 2 rfl
        refine ge_set (b := b2) (j := 0) (cs := #[.int .i64 0, .int .i64 0]) (t := 26) (vs := [.int .i64 ((punctualref_F.f 3 0).Code), .int .i64 ((punctualref_F.f 3 0).At)]) hS13 (by kernel_rfl) rfl rfl fun w8 hS14 => ?_
        have hS15 : St w0 w8 [Own.blk b2 (.cells #[.int .i64 ((punctualref_F.f 3 0).Code), .int .i64 ((punctualref_F.f 3 0).At)] 26 (0, 0)), Own.blk b1 (.cells #[.slice none 0 0, .slice none 0 0] 32 (0, 0)), Own.blk b3 (.cells #[.int .i64 r1.Code, .int .i64 r1.At] 26 (0, 0))] := hS14
        refine ge_nil fun a hF => hK9 _ _ ?_ a hF
        have hS16 := hS15.nil (α := Int) 3
        have hS17 := hS16.nil (α := Int) 3
        have hS18 := hS17.bring 1 rfl
        have hS19 := hS18.bring 1 rfl
        have hS20 := hS19.takeN 2
        obtain rfl := Option.some.inj h
        exact we_ret (post_ret (rs := [.cell 8 32, .cell 9 26]) (ans := [.val ((.slice none 0 0)), .val ((.slice none 0 0)), .val (.int .i64 ((punctualref_F.f 3 0).Code)), .val (.int .i64 ((punctualref_F.f 3 0).At))]) (vs := [.agg #[(.slice none 0 0), (.slice none 0 0)], .agg #[.int .i64 ((punctualref_F.f 3 0).Code), .int .i64 ((punctualref_F.f 3 0).At)]]) (l := [.loaded ⟨b1, 0, none⟩ ((.slice none 0 0)), .loaded ⟨b1, 1, none⟩ ((.slice none 0 0)), .loaded ⟨b2, 0, none⟩ (.int .i64 ((punctualref_F.f 3 0).Code)), .loaded ⟨b2, 1, none⟩ (.int .i64 ((punctualref_F.f 3 0).At))]) rfl (by kernel_rfl) ⟨hS17.cell 3 rfl rfl, hS17.cell 3 rfl rfl, hS17.cell 2 rfl rfl, hS17.cell 2 rfl rfl, trivial⟩ ⟨(.slice none 0 0), (.slice none 0 0), rfl, hS20⟩)
      · rw [if_neg hc3] at h
        refine ge_known (t := 30) (b := decide (x3 < 0)) (c := false) (by kernel_rfl) (decide_eq_false hc3) ?_
        refine ge_batch [3, 4, 5] (ans := []) (vs := [(33, .bool (decide (x3 > 20000))), (32, .bool (decide (x3 > 20000))), (31, .int .i64 x3)]) (l := []) (by kernel_rfl) trivial ?_
        refine ge_nil fun a hF => hK8 _ _ ?_ a hF
        by_cases hc4 : x3 > 20000
        · rw [if_pos hc4] at h
          refine we_known (t := 33) (b := decide (x3 > 20000)) (v := true) (by kernel_rfl) (decide_eq_true hc4) ?_
          refine we_true (by kernel_rfl) ?_
          refine we_seq fun K10 hK10 => ?_
          refine we_region [(0, 0), (1, 1), (2, 2), (3, 2)] rfl ?_
          refine ge_batch [0] (ans := []) (vs := [(34, .agg #[.slice none 0 0, .slice none 0 0])]) (l := []) (by kernel_rfl) trivial ?_
          refine ge_call (d := some 35) (f := 21) (args := #[.int .i64 3, .int .i64 0]) (by kernel_rfl) (punctualref_F_ok 3 0 _ _ rfl) ?_
          rintro _ w9 ⟨rfl, hS21⟩
          refine ⟨_, rfl, hS21.below, ?_⟩
          have hS22 := hS7.call hS21
          have hS23 := hS22.bring 2 rfl
          refine ge_set (b := b1) (j := 0) (cs := #[.slice none 0 0, .slice none 0 0]) (t := 32) (vs := [.slice none 0 0, .slice none 0 0]) hS23 (by kernel_rfl) rfl rfl fun w10 hS24 => ?_
          have hS25 : St w0 w10 [Own.blk b1 (.cells #[.slice none 0 0, .slice none 0 0] 32 (0, 0)), Own.blk b3 (.cells #[.int .i64 r1.Code, .int .i64 r1.At] 26 (0, 0)), Own.blk b2 (.cells #[.int .i64 0, .int .i64 0] 26 (0, 0))] := hS24
          have hS26 := hS25.bring 2 rfl
          refine ge_set (b := b2) (j := 0) (cs := #[.int .i64 0, .int .i64 0]) (t := 26) (vs := [.int .i64 ((punctualref_F.f 3 0).Code), .int .i64 ((punctualref_F.f 3 0).At)]) hS26 (by kernel_rfl) rfl rfl fun w11 hS27 => ?_
          have hS28 : St w0 w11 [Own.blk b2 (.cells #[.int .i64 ((punctualref_F.f 3 0).Code), .int .i64 ((punctualref_F.f 3 0).At)] 26 (0, 0)), Own.blk b1 (.cells #[.slice none 0 0, .slice none 0 0] 32 (0, 0)), Own.blk b3 (.cells #[.int .i64 r1.Code, .int .i64 r1.At] 26 (0, 0))] := hS27
          refine ge_nil fun a hF => hK10 _ _ ?_ a hF
          have hS29 := hS28.nil (α := Int) 3
          have hS30 := hS29.nil (α := Int) 3
          have hS31 := hS30.bring 1 rfl
          have hS32 := hS31.bring 1 rfl
          have hS33 := hS32.takeN 2
          obtain rfl := Option.some.inj h
          exact we_ret (post_ret (rs := [.cell 8 32, .cell 9 26]) (ans := [.val ((.slice none 0 0)), .val ((.slice none 0 0)), .val (.int .i64 ((punctualref_F.f 3 0).Code)), .val (.int .i64 ((punctualref_F.f 3 0).At))]) (vs := [.agg #[(.slice none 0 0), (.slice none 0 0)], .agg #[.int .i64 ((punctualref_F.f 3 0).Code), .int .i64 ((punctualref_F.f 3 0).At)]]) (l := [.loaded ⟨b1, 0, none⟩ ((.slice none 0 0)), .loaded ⟨b1, 1, none⟩ ((.slice none 0 0)), .loaded ⟨b2, 0, none⟩ (.int .i64 ((punctualref_F.f 3 0).Code)), .loaded ⟨b2, 1, none⟩ (.int .i64 ((punctualref_F.f 3 0).At))]) rfl (by kernel_rfl) ⟨hS30.cell 3 rfl rfl, hS30.cell 3 rfl rfl, hS30.cell 2 rfl rfl, hS30.cell 2 rfl rfl, trivial⟩ ⟨(.slice none 0 0), (.slice none 0 0), rfl, hS33⟩)
        · rw [if_neg hc4] at h
          refine we_known (t := 33) (b := decide (x3 > 20000)) (v := false) (by kernel_rfl) (decide_eq_false hc4) ?_
          refine we_false (by kernel_rfl) ?_
          refine we_skip fun a hF => hK7 _ _ ?_ a hF
          refine we_seq fun K11 hK11 => ?_
          refine we_region [(0, 0), (1, 0), (2, 0), (3, 0), (4, 1), (5, 0), (6, 0), (7, 0), (8, 0), (9, 0)] rfl ?_
          rcases hq4 : punctualref_Played.f K l0 x1 x2 1 x3 with _ | r2
          · rw [hq4] at h; cases h
          rw [hq4] at h
          simp only [] at h
          refine ge_batch [0, 1, 2, 3] (ans := []) (vs := [(40, .int .i64 x3), (39, .bool x2), (38, .int .i64 x1), (37, .slice A0 l0.length c0)]) (l := []) (by kernel_rfl) trivial ?_
          refine ge_call (d := some 41) (f := 67) (args := #[.slice A0 l0.length c0, .int .i64 x1, .bool x2, .int .i64 1, .int .i64 x3, .func (.func 68) #[] #[]]) (by kernel_rfl) (punctualref_Played_ok K l0 A0 c0 x1 x2 1 x3 _ (hS7.rd hR0) hL0 _ hq4) ?_
          rintro _ w12 ⟨y1, v1, rfl, hS34⟩
          refine ⟨_, rfl, hS34.below, ?_⟩
          have hS35 := hS7.call hS34
          refine ge_batch [5, 6, 7, 8, 9] (ans := []) (vs := [(12, v1), (11, (Rows.val y1)), (43, v1), (42, (Rows.val y1)), (36, .tuple #[(Rows.val y1), v1])]) (l := []) (by kernel_rfl) trivial ?_
          refine ge_nil fun a hF => hK11 _ _ ?_ a hF
          refine we_seq fun K12 hK12 => ?_
          refine we_region [(0, 0), (1, 1), (2, 0), (3, 0), (4, 0), (5, 2), (6, 2)] rfl ?_
          refine ge_batch [0] (ans := []) (vs := [(44, (Rows.val y1))]) (l := []) (by kernel_rfl) trivial ?_
          refine ge_same (t := 44) (v := (Rows.val y1)) (v' := .slice y1.A r2.1.length y1.c) (by kernel_rfl) (congrArg (fun z => Value.slice y1.A z y1.c) (hS35.nestAt 0 rfl).n) ?_
          rcases hq5 : punctualref_One.f K r2.1 with _ | r3
          · rw [hq5] at h; cases h
          rw [hq5] at h
          simp only [] at h
          refine ge_call (d := some 45) (f := 69) (args := #[.slice y1.A r2.1.length y1.c]) (by kernel_rfl) (punctualref_One_ok K r2.1 y1.hs y1.A y1.c _ (hS35.nestAt 0 rfl).rd (hS35.nestAt 0 rfl).cap (hS35.nestAt 0 rfl).nl _ hq5) ?_
          rintro _ w13 ⟨v2, rfl, hS36⟩
          refine ⟨_, rfl, hS36.below, ?_⟩
          have hS37 := hS35.call hS36
          refine ge_batch [2] (ans := []) (vs := [(46, v1)]) (l := []) (by kernel_rfl) trivial ?_
          obtain ⟨Z1, cz1, rfl⟩ := hS37.open 0 rfl
          obtain ⟨Z2, cz2, rfl⟩ := hS37.open 2 rfl
          refine ge_batch [3, 4] (ans := []) (vs := [(48, .agg #[.int .i64 0, .int .i64 0]), (47, .agg #[(.slice Z1 r3.length cz1), (.slice Z2 r2.2.length cz2)])]) (l := []) (by kernel_rfl) trivial ?_
          have hS38 := hS37.bring 5 rfl
          refine ge_set (b := b1) (j := 0) (cs := #[.slice none 0 0, .slice none 0 0]) (t := 32) (vs := [(.slice Z1 r3.length cz1), (.slice Z2 r2.2.length cz2)]) hS38 (by kernel_rfl) rfl rfl fun w14 hS39 => ?_
          have hS40 : St w0 w14 [Own.blk b1 (.cells #[(.slice Z1 r3.length cz1), (.slice Z2 r2.2.length cz2)] 32 (0, 0)), Own.of (.slice Z1 r3.length cz1) 3 r3, Own.nest y1 23 3 r2.1, Own.of (.slice Z2 r2.2.length cz2) 3 r2.2, Own.blk b3 (.cells #[.int .i64 r1.Code, .int .i64 r1.At] 26 (0, 0)), Own.blk b2 (.cells #[.int .i64 0, .int .i64 0] 26 (0, 0))] := hS39
          have hS41 := hS40.bring 5 rfl
          refine ge_set (b := b2) (j := 0) (cs := #[.int .i64 0, .int .i64 0]) (t := 26) (vs := [.int .i64 0, .int .i64 0]) hS41 (by kernel_rfl) rfl rfl fun w15 hS42 => ?_
          have hS43 : St w0 w15 [Own.blk b2 (.cells #[.int .i64 0, .int .i64 0] 26 (0, 0)), Own.blk b1 (.cells #[(.slice Z1 r3.length cz1), (.slice Z2 r2.2.length cz2)] 32 (0, 0)), Own.of (.slice Z1 r3.length cz1) 3 r3, Own.nest y1 23 3 r2.1, Own.of (.slice Z2 r2.2.length cz2) 3 r2.2, Own.blk b3 (.cells #[.int .i64 r1.Code, .int .i64 r1.At] 26 (0, 0))] := hS42
          refine ge_nil fun a hF => hK12 _ _ ?_ a hF
          have hS44 := hS43.bring 4 rfl
          have hS45 := hS44.bring 3 rfl
          have hS46 := hS45.takeN 2
          obtain rfl := Option.some.inj h
          exact we_ret (post_ret (rs := [.cell 8 32, .cell 9 26]) (ans := [.val ((.slice Z1 r3.length cz1)), .val ((.slice Z2 r2.2.length cz2)), .val (.int .i64 0), .val (.int .i64 0)]) (vs := [.agg #[(.slice Z1 r3.length cz1), (.slice Z2 r2.2.length cz2)], .agg #[.int .i64 0, .int .i64 0]]) (l := [.loaded ⟨b1, 0, none⟩ ((.slice Z1 r3.length cz1)), .loaded ⟨b1, 1, none⟩ ((.slice Z2 r2.2.length cz2)), .loaded ⟨b2, 0, none⟩ (.int .i64 0), .loaded ⟨b2, 1, none⟩ (.int .i64 0)]) rfl (by kernel_rfl) ⟨hS43.cell 1 rfl rfl, hS43.cell 1 rfl rfl, hS43.cell 0 rfl rfl, hS43.cell 0 rfl rfl, trivial⟩ ⟨(.slice Z1 r3.length cz1), (.slice Z2 r2.2.length cz2), rfl, hS46⟩)
    · rw [if_neg hc2] at h
      refine ge_known (t := 22) (b := (x1 != 1)) (c := true) (by kernel_rfl) (bne_iff_ne.2 hc2) ?_
      refine ge_batch [3, 4, 5] (ans := []) (vs := [(25, .bool (x1 != 2)), (24, .bool (x1 != 2)), (23, .int .i64 x1)]) (l := []) (by kernel_rfl) trivial ?_
      refine ge_nil fun a hF => hK6 _ _ ?_ a hF
      by_cases hc5 : x1 = 2
      · rw [if_pos hc5] at h
        refine we_known (t := 25) (b := (x1 != 2)) (v := false) (by kernel_rfl) (bne_eq_false_iff_eq.2 hc5) ?_
        refine we_false (by kernel_rfl) ?_
        refine we_skip fun a hF => hK5 _ _ ?_ a hF
        refine we_seq fun K13 hK13 => ?_
        refine we_seq fun K14 hK14 => ?_
        refine we_region [(0, 0), (1, 0), (2, 0), (3, 0), (4, 0), (5, 0)] rfl ?_
        refine ge_batch [0, 1, 2] (ans := []) (vs := [(30, .bool (decide (x3 < 0))), (29, .bool (decide (x3 < 0))), (28, .int .i64 x3)]) (l := []) (by kernel_rfl) trivial ?_
        by_cases hc6 : x3 < 0
        · rw [if_pos hc6] at h
          refine ge_known (t := 30) (b := decide (x3 < 0)) (c := true) (by kernel_rfl) (decide_eq_true hc6) ?_
          refine ge_batch [3, 4, 5] (ans := []) (vs := [(33, .bool true), (32, undef), (31, undef)]) (l := []) (by kernel_rfl) trivial ?_
          refine ge_nil fun a hF => hK14 _ _ ?_ a hF
          refine we_true (by kernel_rfl) ?_
          refine we_seq fun K15 hK15 => ?_
          refine we_region [(0, 0), (1, 1), (2, 2), (3, 2)] rfl ?_
          refine ge_batch [0] (ans := []) (vs := [(34, .agg #[.slice none 0 0, .slice none 0 0])]) (l := []) (by kernel_rfl) trivial ?_
          refine ge_call (d := some 35) (f := 21) (args := #[.int .i64 3, .int .i64 0]) (by kernel_rfl) (punctualref_F_ok 3 0 _ _ rfl) ?_
          rintro _ w16 ⟨rfl, hS47⟩
          refine ⟨_, rfl, hS47.below, ?_⟩
          have hS48 := hS7.call hS47
          have hS49 := hS48.bring 2 rfl
          refine ge_set (b := b1) (j := 0) (cs := #[.slice none 0 0, .slice none 0 0]) (t := 32) (vs := [.slice none 0 0, .slice none 0 0]) hS49 (by kernel_rfl) rfl rfl fun w17 hS50 => ?_
          have hS51 : St w0 w17 [Own.blk b1 (.cells #[.slice none 0 0, .slice none 0 0] 32 (0, 0)), Own.blk b3 (.cells #[.int .i64 r1.Code, .int .i64 r1.At] 26 (0, 0)), Own.blk b2 (.cells #[.int .i64 0, .int .i64 0] 26 (0, 0))] := hS50
          have hS52 := hS51.bring 2 rfl
          refine ge_set (b := b2) (j := 0) (cs := #[.int .i64 0, .int .i64 0]) (t := 26) (vs := [.int .i64 ((punctualref_F.f 3 0).Code), .int .i64 ((punctualref_F.f 3 0).At)]) hS52 (by kernel_rfl) rfl rfl fun w18 hS53 => ?_
          have hS54 : St w0 w18 [Own.blk b2 (.cells #[.int .i64 ((punctualref_F.f 3 0).Code), .int .i64 ((punctualref_F.f 3 0).At)] 26 (0, 0)), Own.blk b1 (.cells #[.slice none 0 0, .slice none 0 0] 32 (0, 0)), Own.blk b3 (.cells #[.int .i64 r1.Code, .int .i64 r1.At] 26 (0, 0))] := hS53
          refine ge_nil fun a hF => hK15 _ _ ?_ a hF
          have hS55 := hS54.nil (α := Int) 3
          have hS56 := hS55.nil (α := Int) 3
          have hS57 := hS56.bring 1 rfl
          have hS58 := hS57.bring 1 rfl
          have hS59 := hS58.takeN 2
          obtain rfl := Option.some.inj h
          exact we_ret (post_ret (rs := [.cell 8 32, .cell 9 26]) (ans := [.val ((.slice none 0 0)), .val ((.slice none 0 0)), .val (.int .i64 ((punctualref_F.f 3 0).Code)), .val (.int .i64 ((punctualref_F.f 3 0).At))]) (vs := [.agg #[(.slice none 0 0), (.slice none 0 0)], .agg #[.int .i64 ((punctualref_F.f 3 0).Code), .int .i64 ((punctualref_F.f 3 0).At)]]) (l := [.loaded ⟨b1, 0, none⟩ ((.slice none 0 0)), .loaded ⟨b1, 1, none⟩ ((.slice none 0 0)), .loaded ⟨b2, 0, none⟩ (.int .i64 ((punctualref_F.f 3 0).Code)), .loaded ⟨b2, 1, none⟩ (.int .i64 ((punctualref_F.f 3 0).At))]) rfl (by kernel_rfl) ⟨hS56.cell 3 rfl rfl, hS56.cell 3 rfl rfl, hS56.cell 2 rfl rfl, hS56.cell 2 rfl rfl, trivial⟩ ⟨(.slice none 0 0), (.slice none 0 0), rfl, hS59⟩)
        · rw [if_neg hc6] at h
          refine ge_known (t := 30) (b := decide (x3 < 0)) (c := false) (by kernel_rfl) (decide_eq_false hc6) ?_
          refine ge_batch [3, 4, 5] (ans := []) (vs := [(33, .bool (decide (x3 > 20000))), (32, .bool (decide (x3 > 20000))), (31, .int .i64 x3)]) (l := []) (by kernel_rfl) trivial ?_
          refine ge_nil fun a hF => hK14 _ _ ?_ a hF
          by_cases hc7 : x3 > 20000
          · rw [if_pos hc7] at h
            refine we_known (t := 33) (b := decide (x3 > 20000)) (v := true) (by kernel_rfl) (decide_eq_true hc7) ?_
            refine we_true (by kernel_rfl) ?_
            refine we_seq fun K16 hK16 => ?_
            refine we_region [(0, 0), (1, 1), (2, 2), (3, 2)] rfl ?_
            refine ge_batch [0] (ans := []) (vs := [(34, .agg #[.slice none 0 0, .slice none 0 0])]) (l := []) (by kernel_rfl) trivial ?_
            refine ge_call (d := some 35) (f := 21) (args := #[.int .i64 3, .int .i64 0]) (by kernel_rfl) (punctualref_F_ok 3 0 _ _ rfl) ?_
            rintro _ w19 ⟨rfl, hS60⟩
            refine ⟨_, rfl, hS60.below, ?_⟩
            have hS61 := hS7.call hS60
            have hS62 := hS61.bring 2 rfl
            refine ge_set (b := b1) (j := 0) (cs := #[.slice none 0 0, .slice none 0 0]) (t := 32) (vs := [.slice none 0 0, .slice none 0 0]) hS62 (by kernel_rfl) rfl rfl fun w20 hS63 => ?_
            have hS64 : St w0 w20 [Own.blk b1 (.cells #[.slice none 0 0, .slice none 0 0] 32 (0, 0)), Own.blk b3 (.cells #[.int .i64 r1.Code, .int .i64 r1.At] 26 (0, 0)), Own.blk b2 (.cells #[.int .i64 0, .int .i64 0] 26 (0, 0))] := hS63
            have hS65 := hS64.bring 2 rfl
            refine ge_set (b := b2) (j := 0) (cs := #[.int .i64 0, .int .i64 0]) (t := 26) (vs := [.int .i64 ((punctualref_F.f 3 0).Code), .int .i64 ((punctualref_F.f 3 0).At)]) hS65 (by kernel_rfl) rfl rfl fun w21 hS66 => ?_
            have hS67 : St w0 w21 [Own.blk b2 (.cells #[.int .i64 ((punctualref_F.f 3 0).Code), .int .i64 ((punctualref_F.f 3 0).At)] 26 (0, 0)), Own.blk b1 (.cells #[.slice none 0 0, .slice none 0 0] 32 (0, 0)), Own.blk b3 (.cells #[.int .i64 r1.Code, .int .i64 r1.At] 26 (0, 0))] := hS66
            refine ge_nil fun a hF => hK16 _ _ ?_ a hF
            have hS68 := hS67.nil (α := Int) 3
            have hS69 := hS68.nil (α := Int) 3
            have hS70 := hS69.bring 1 rfl
            have hS71 := hS70.bring 1 rfl
            have hS72 := hS71.takeN 2
            obtain rfl := Option.some.inj h
            exact we_ret (post_ret (rs := [.cell 8 32, .cell 9 26]) (ans := [.val ((.slice none 0 0)), .val ((.slice none 0 0)), .val (.int .i64 ((punctualref_F.f 3 0).Code)), .val (.int .i64 ((punctualref_F.f 3 0).At))]) (vs := [.agg #[(.slice none 0 0), (.slice none 0 0)], .agg #[.int .i64 ((punctualref_F.f 3 0).Code), .int .i64 ((punctualref_F.f 3 0).At)]]) (l := [.loaded ⟨b1, 0, none⟩ ((.slice none 0 0)), .loaded ⟨b1, 1, none⟩ ((.slice none 0 0)), .loaded ⟨b2, 0, none⟩ (.int .i64 ((punctualref_F.f 3 0).Code)), .loaded ⟨b2, 1, none⟩ (.int .i64 ((punctualref_F.f 3 0).At))]) rfl (by kernel_rfl) ⟨hS69.cell 3 rfl rfl, hS69.cell 3 rfl rfl, hS69.cell 2 rfl rfl, hS69.cell 2 rfl rfl, trivial⟩ ⟨(.slice none 0 0), (.slice none 0 0), rfl, hS72⟩)
          · rw [if_neg hc7] at h
            refine we_known (t := 33) (b := decide (x3 > 20000)) (v := false) (by kernel_rfl) (decide_eq_false hc7) ?_
            refine we_false (by kernel_rfl) ?_
            refine we_skip fun a hF => hK13 _ _ ?_ a hF
            refine we_seq fun K17 hK17 => ?_
            refine we_region [(0, 0), (1, 0), (2, 0), (3, 0), (4, 1), (5, 0), (6, 0), (7, 0), (8, 0), (9, 0)] rfl ?_
            rcases hq8 : punctualref_Played.f K l0 x1 x2 1 x3 with _ | r4
            · rw [hq8] at h; cases h
            rw [hq8] at h
            simp only [] at h
            refine ge_batch [0, 1, 2, 3] (ans := []) (vs := [(40, .int .i64 x3), (39, .bool x2), (38, .int .i64 x1), (37, .slice A0 l0.length c0)]) (l := []) (by kernel_rfl) trivial ?_
            refine ge_call (d := some 41) (f := 67) (args := #[.slice A0 l0.length c0, .int .i64 x1, .bool x2, .int .i64 1, .int .i64 x3, .func (.func 68) #[] #[]]) (by kernel_rfl) (punctualref_Played_ok K l0 A0 c0 x1 x2 1 x3 _ (hS7.rd hR0) hL0 _ hq8) ?_
            rintro _ w22 ⟨y2, v3, rfl, hS73⟩
            refine ⟨_, rfl, hS73.below, ?_⟩
            have hS74 := hS7.call hS73
            refine ge_batch [5, 6, 7, 8, 9] (ans := []) (vs := [(12, v3), (11, (Rows.val y2)), (43, v3), (42, (Rows.val y2)), (36, .tuple #[(Rows.val y2), v3])]) (l := []) (by kernel_rfl) trivial ?_
            refine ge_nil fun a hF => hK17 _ _ ?_ a hF
            refine we_seq fun K18 hK18 => ?_
            refine we_region [(0, 0), (1, 1), (2, 0), (3, 0), (4, 0), (5, 2), (6, 2)] rfl ?_
            refine ge_batch [0] (ans := []) (vs := [(44, (Rows.val y2))]) (l := []) (by kernel_rfl) trivial ?_
            refine ge_same (t := 44) (v := (Rows.val y2)) (v' := .slice y2.A r4.1.length y2.c) (by kernel_rfl) (congrArg (fun z => Value.slice y2.A z y2.c) (hS74.nestAt 0 rfl).n) ?_
            rcases hq9 : punctualref_One.f K r4.1 with _ | r5
            · rw [hq9] at h; cases h
            rw [hq9] at h
            simp only [] at h
            refine ge_call (d := some 45) (f := 69) (args := #[.slice y2.A r4.1.length y2.c]) (by kernel_rfl) (punctualref_One_ok K r4.1 y2.hs y2.A y2.c _ (hS74.nestAt 0 rfl).rd (hS74.nestAt 0 rfl).cap (hS74.nestAt 0 rfl).nl _ hq9) ?_
            rintro _ w23 ⟨v4, rfl, hS75⟩
            refine ⟨_, rfl, hS75.below, ?_⟩
            have hS76 := hS74.call hS75
            refine ge_batch [2] (ans := []) (vs := [(46, v3)]) (l := []) (by kernel_rfl) trivial ?_
            obtain ⟨Z3, cz3, rfl⟩ := hS76.open 0 rfl
            obtain ⟨Z4, cz4, rfl⟩ := hS76.open 2 rfl
            refine ge_batch [3, 4] (ans := []) (vs := [(48, .agg #[.int .i64 0, .int .i64 0]), (47, .agg #[(.slice Z3 r5.length cz3), (.slice Z4 r4.2.length cz4)])]) (l := []) (by kernel_rfl) trivial ?_
            have hS77 := hS76.bring 5 rfl
            refine ge_set (b := b1) (j := 0) (cs := #[.slice none 0 0, .slice none 0 0]) (t := 32) (vs := [(.slice Z3 r5.length cz3), (.slice Z4 r4.2.length cz4)]) hS77 (by kernel_rfl) rfl rfl fun w24 hS78 => ?_
            have hS79 : St w0 w24 [Own.blk b1 (.cells #[(.slice Z3 r5.length cz3), (.slice Z4 r4.2.length cz4)] 32 (0, 0)), Own.of (.slice Z3 r5.length cz3) 3 r5, Own.nest y2 23 3 r4.1, Own.of (.slice Z4 r4.2.length cz4) 3 r4.2, Own.blk b3 (.cells #[.int .i64 r1.Code, .int .i64 r1.At] 26 (0, 0)), Own.blk b2 (.cells #[.int .i64 0, .int .i64 0] 26 (0, 0))] := hS78
            have hS80 := hS79.bring 5 rfl
            refine ge_set (b := b2) (j := 0) (cs := #[.int .i64 0, .int .i64 0]) (t := 26) (vs := [.int .i64 0, .int .i64 0]) hS80 (by kernel_rfl) rfl rfl fun w25 hS81 => ?_
            have hS82 : St w0 w25 [Own.blk b2 (.cells #[.int .i64 0, .int .i64 0] 26 (0, 0)), Own.blk b1 (.cells #[(.slice Z3 r5.length cz3), (.slice Z4 r4.2.length cz4)] 32 (0, 0)), Own.of (.slice Z3 r5.length cz3) 3 r5, Own.nest y2 23 3 r4.1, Own.of (.slice Z4 r4.2.length cz4) 3 r4.2, Own.blk b3 (.cells #[.int .i64 r1.Code, .int .i64 r1.At] 26 (0, 0))] := hS81
            refine ge_nil fun a hF => hK18 _ _ ?_ a hF
            have hS83 := hS82.bring 4 rfl
            have hS84 := hS83.bring 3 rfl
            have hS85 := hS84.takeN 2
            obtain rfl := Option.some.inj h
            exact we_ret (post_ret (rs := [.cell 8 32, .cell 9 26]) (ans := [.val ((.slice Z3 r5.length cz3)), .val ((.slice Z4 r4.2.length cz4)), .val (.int .i64 0), .val (.int .i64 0)]) (vs := [.agg #[(.slice Z3 r5.length cz3), (.slice Z4 r4.2.length cz4)], .agg #[.int .i64 0, .int .i64 0]]) (l := [.loaded ⟨b1, 0, none⟩ ((.slice Z3 r5.length cz3)), .loaded ⟨b1, 1, none⟩ ((.slice Z4 r4.2.length cz4)), .loaded ⟨b2, 0, none⟩ (.int .i64 0), .loaded ⟨b2, 1, none⟩ (.int .i64 0)]) rfl (by kernel_rfl) ⟨hS82.cell 1 rfl rfl, hS82.cell 1 rfl rfl, hS82.cell 0 rfl rfl, hS82.cell 0 rfl rfl, trivial⟩ ⟨(.slice Z3 r5.length cz3), (.slice Z4 r4.2.length cz4), rfl, hS85⟩)
      · rw [if_neg hc5] at h
        refine we_known (t := 25) (b := (x1 != 2)) (v := true) (by kernel_rfl) (bne_iff_ne.2 hc5) ?_
        refine we_true (by kernel_rfl) ?_
        refine we_seq fun K19 hK19 => ?_
        refine we_region [(0, 0), (1, 1), (2, 2), (3, 2)] rfl ?_
        refine ge_batch [0] (ans := []) (vs := [(26, .agg #[.slice none 0 0, .slice none 0 0])]) (l := []) (by kernel_rfl) trivial ?_
        refine ge_call (d := some 27) (f := 21) (args := #[.int .i64 6, .int .i64 0]) (by kernel_rfl) (punctualref_F_ok 6 0 _ _ rfl) ?_
        rintro _ w26 ⟨rfl, hS86⟩
        refine ⟨_, rfl, hS86.below, ?_⟩
        have hS87 := hS7.call hS86
        have hS88 := hS87.bring 2 rfl
        refine ge_set (b := b1) (j := 0) (cs := #[.slice none 0 0, .slice none 0 0]) (t := 32) (vs := [.slice none 0 0, .slice none 0 0]) hS88 (by kernel_rfl) rfl rfl fun w27 hS89 => ?_
        have hS90 : St w0 w27 [Own.blk b1 (.cells #[.slice none 0 0, .slice none 0 0] 32 (0, 0)), Own.blk b3 (.cells #[.int .i64 r1.Code, .int .i64 r1.At] 26 (0, 0)), Own.blk b2 (.cells #[.int .i64 0, .int .i64 0] 26 (0, 0))] := hS89
        have hS91 := hS90.bring 2 rfl
        refine ge_set (b := b2) (j := 0) (cs := #[.int .i64 0, .int .i64 0]) (t := 26) (vs := [.int .i64 ((punctualref_F.f 6 0).Code), .int .i64 ((punctualref_F.f 6 0).At)]) hS91 (by kernel_rfl) rfl rfl fun w28 hS92 => ?_
        have hS93 : St w0 w28 [Own.blk b2 (.cells #[.int .i64 ((punctualref_F.f 6 0).Code), .int .i64 ((punctualref_F.f 6 0).At)] 26 (0, 0)), Own.blk b1 (.cells #[.slice none 0 0, .slice none 0 0] 32 (0, 0)), Own.blk b3 (.cells #[.int .i64 r1.Code, .int .i64 r1.At] 26 (0, 0))] := hS92
        refine ge_nil fun a hF => hK19 _ _ ?_ a hF
        have hS94 := hS93.nil (α := Int) 3
        have hS95 := hS94.nil (α := Int) 3
        have hS96 := hS95.bring 1 rfl
        have hS97 := hS96.bring 1 rfl
        have hS98 := hS97.takeN 2
        obtain rfl := Option.some.inj h
        exact we_ret (post_ret (rs := [.cell 8 32, .cell 9 26]) (ans := [.val ((.slice none 0 0)), .val ((.slice none 0 0)), .val (.int .i64 ((punctualref_F.f 6 0).Code)), .val (.int .i64 ((punctualref_F.f 6 0).At))]) (vs := [.agg #[(.slice none 0 0), (.slice none 0 0)], .agg #[.int .i64 ((punctualref_F.f 6 0).Code), .int .i64 ((punctualref_F.f 6 0).At)]]) (l := [.loaded ⟨b1, 0, none⟩ ((.slice none 0 0)), .loaded ⟨b1, 1, none⟩ ((.slice none 0 0)), .loaded ⟨b2, 0, none⟩ (.int .i64 ((punctualref_F.f 6 0).Code)), .loaded ⟨b2, 1, none⟩ (.int .i64 ((punctualref_F.f 6 0).At))]) rfl (by kernel_rfl) ⟨hS95.cell 3 rfl rfl, hS95.cell 3 rfl rfl, hS95.cell 2 rfl rfl, hS95.cell 2 rfl rfl, trivial⟩ ⟨(.slice none 0 0), (.slice none 0 0), rfl, hS98⟩)
  · rw [if_neg hc1] at h
    refine we_known (t := 17) (b := (r1.Code != 0)) (v := true) (by kernel_rfl) (bne_iff_ne.2 hc1) ?_
    refine we_true (by kernel_rfl) ?_
    refine we_seq fun K20 hK20 => ?_
    rcases hq11 : punctualref_PlayJobs.p0 r1 with _ | (⟨z3, z4, m3, m4⟩ | rr1)
    · rw [hq11] at h; cases h
    · rw [hq11] at h
      simp only [] at h
      refine we_keep (e' := [(0, .slice A0 l0.length c0), (1, .int .i64 x1), (2, .bool x2), (3, .int .i64 x3), (8, .pointer (some ⟨b1, 0, none⟩)), (9, .pointer (some ⟨b2, 0, none⟩)), (10, .pointer (some ⟨b3, 0, none⟩)), (13, .slice A0 l0.length c0), (14, .agg #[.int .i64 r1.Code, .int .i64 r1.At]), (15, .pointer (some ⟨b3, 0, none⟩)), (16, .int .i64 r1.Code), (17, .bool true)]) ⟨by kernel_rfl, by kernel_rfl, by kernel_rfl, by kernel_rfl, by kernel_rfl, by kernel_rfl, by kernel_rfl, by kernel_rfl, by kernel_rfl, by kernel_rfl, by kernel_rfl, by kernel_rfl, trivial⟩ (punctualref_PlayJobs_p0 K w0 l0 A0 c0 x1 x2 x3 hR0 hL0 b1 b2 r1 b3 hc1 _ hq11 _ hS7 _ ?_)
      rintro _ a w31 ⟨rfl, v7, v8, hS113, hF⟩
      replace hS113 : St w0 w31 [Own.blk b2 (.cells #[.int .i64 z3, .int .i64 z4] 26 (0, 0)), Own.blk b1 (.cells #[v7, v8] 32 (0, 0)), Own.of v7 3 m3, Own.of v8 3 m4] := hS113
      refine hK20 [(8, .pointer (some ⟨b1, 0, none⟩)), (9, .pointer (some ⟨b2, 0, none⟩))] w31 ?_ a hF
      have hS114 := hS113.bring 3 rfl
      have hS115 := hS114.bring 3 rfl
      have hS116 := hS115.takeN 2
      obtain rfl := Option.some.inj h
      exact we_ret (post_ret (rs := [.cell 8 32, .cell 9 26]) (ans := [.val (v7), .val (v8), .val (.int .i64 z3), .val (.int .i64 z4)]) (vs := [.agg #[v7, v8], .agg #[.int .i64 z3, .int .i64 z4]]) (l := [.loaded ⟨b1, 0, none⟩ (v7), .loaded ⟨b1, 1, none⟩ (v8), .loaded ⟨b2, 0, none⟩ (.int .i64 z3), .loaded ⟨b2, 1, none⟩ (.int .i64 z4)]) rfl (by kernel_rfl) ⟨hS113.cell 1 rfl rfl, hS113.cell 1 rfl rfl, hS113.cell 0 rfl rfl, hS113.cell 0 rfl rfl, trivial⟩ ⟨v7, v8, rfl, hS116⟩)
    · rw [hq11] at h
      simp only [] at h
      refine we_keep (e' := [(0, .slice A0 l0.length c0), (1, .int .i64 x1), (2, .bool x2), (3, .int .i64 x3), (8, .pointer (some ⟨b1, 0, none⟩)), (9, .pointer (some ⟨b2, 0, none⟩)), (10, .pointer (some ⟨b3, 0, none⟩)), (13, .slice A0 l0.length c0), (14, .agg #[.int .i64 r1.Code, .int .i64 r1.At]), (15, .pointer (some ⟨b3, 0, none⟩)), (16, .int .i64 r1.Code), (17, .bool true)]) ⟨by kernel_rfl, by kernel_rfl, by kernel_rfl, by kernel_rfl, by kernel_rfl, by kernel_rfl, by kernel_rfl, by kernel_rfl, by kernel_rfl, by kernel_rfl, by kernel_rfl, by kernel_rfl, trivial⟩ (punctualref_PlayJobs_p0 K w0 l0 A0 c0 x1 x2 x3 hR0 hL0 b1 b2 r1 b3 hc1 _ hq11 _ hS7 _ ?_)
      rintro _ a w1 ⟨_, rfl, hb⟩
      obtain rfl := Option.some.inj h
      exact hb

/-! punctual/punctualsame.Lend[punctual/api.Job] -/
abbrev punctualsame_Lend_api_Job.Post (w0 : World) (n : Nat) (r : List SJob) (e : Ending) (w : World) : Prop := ∃ (A : Option Addr) (c : Nat), e = .returned (.slice A n c) ∧ r.length ≤ c ∧ St w0 w [Own.of (.slice A r.length c) 30 r]
def punctualsame_Lend_api_Job.f (l0 : List SJob) (x1 : SJob) : Option (List SJob) :=
  if 0 ≤ (IntKind.i64.wrap ((l0.length : Int) + 3)) then
    if ((IntKind.i64.wrap ((l0.length : Int) + 3)).toNat) ≤ 3518437208883 then
      if (List.replicate 0 (⟨0, 0, 0, 0, 0⟩ : SJob)).length + l0.length ≤ 3518437208883 then
        if ((List.replicate 0 (⟨0, 0, 0, 0, 0⟩ : SJob)) ++ l0).length + 3 ≤ 3518437208883 then
          some (((List.replicate 0 (⟨0, 0, 0, 0, 0⟩ : SJob)) ++ l0) ++ ([x1, x1, x1] : List SJob))
        else
          none
      else
        none
    else
      none
  else
    none
theorem punctualsame_Lend_api_Job_ok (l0 : List SJob) (A0 : Option Addr) (c0 : Nat) (x1 : SJob) (w0 : World) (hR0 : RdL w0 A0 l0) (hL0 : l0.length ≤ c0) (r : List SJob) (h : punctualsame_Lend_api_Job.f l0 x1 = some r) :
    Calls Tryd.prog 14 #[.slice A0 l0.length c0, .agg #[.int .i64 x1.Task, .int .i64 x1.At, .int .i64 x1.C, .int .i64 x1.Due, .int .i64 x1.P]] w0 (punctualsame_Lend_api_Job.Post w0 l0.length r) := by
  have hS := St.start w0
  unfold punctualsame_Lend_api_Job.f at h
  refine calls_enter (n := 21) (args := [.slice A0 l0.length c0, .agg #[.int .i64 x1.Task, .int .i64 x1.At, .int .i64 x1.C, .int .i64 x1.Due, .int .i64 x1.P]]) (fn := Tryd.f14) rfl rfl rfl rfl ?_
  show WE _ _ _ _ [(0, .slice A0 l0.length c0), (1, .agg #[.int .i64 x1.Task, .int .i64 x1.At, .int .i64 x1.C, .int .i64 x1.Due, .int .i64 x1.P])] _
  refine we_seq fun K1 hK1 => ?_
  refine we_region [(0, 1), (1, 0)] rfl ?_
  refine ge_new (d := some 3) (o := .cells #[.int .i64 x1.Task, .int .i64 x1.At, .int .i64 x1.C, .int .i64 x1.Due, .int .i64 x1.P] 30) (v := fun b => .pointer (some ⟨b, 0, none⟩)) hS (fun b => by kernel_rfl) fun b1 w1 hx1 hS1 => ?_
  refine ge_batch [1] (ans := []) (vs := [(4, .slice none 0 0)]) (l := []) (by kernel_rfl) trivial ?_
  refine ge_nil fun a hF => hK1 _ _ ?_ a hF
  refine we_seq fun K2 hK2 => ?_
  refine we_orders2 (by kernel_rfl) [(6, [⟨b1, 0, none⟩, ⟨b1, 1, none⟩, ⟨b1, 2, none⟩, ⟨b1, 3, none⟩, ⟨b1, 4, none⟩]), (7, [⟨b1, 0, none⟩, ⟨b1, 1, none⟩, ⟨b1, 2, none⟩, ⟨b1, 3, none⟩, ⟨b1, 4, none⟩]), (8, [⟨b1, 0, none⟩, ⟨b1, 1, none⟩, ⟨b1, 2, none⟩, ⟨b1, 3, none⟩, ⟨b1, 4, none⟩])] (.vals [0] (.vals [1] (.vals [2] (.vals [4] (.vals [6] (.vals [7] (.vals [8] (.alt 3 1 (.alt 5 2 (.alt 9 1 (.alt 10 2 (.vals [11] .fin) .nomore) .nomore) (.alt 9 1 (.alt 5 2 (.alt 10 2 (.vals [11] .fin) .nomore) .nomore) .nomore)) (.alt 9 1 (.alt 3 1 (.alt 5 2 (.alt 10 2 (.vals [11] .fin) .nomore) .nomore) .nomore) .nomore))))))))) (by kernel_rfl) ?_
  have hS2 := hS1.drew
  refine go2_batch [0, 1, 2, 4] (ans := []) (vs := [(10, .slice A0 l0.length c0), (8, .int .i64 (IntKind.i64.wrap ((l0.length : Int) + 3))), (7, .int .i64 (l0.length : Int)), (6, .slice A0 l0.length c0)]) (l := []) (by kernel_rfl) trivial mem_nil ?_
  refine go2_batch [6] (ans := [.val (.int .i64 x1.Task), .val (.int .i64 x1.At), .val (.int .i64 x1.C), .val (.int .i64 x1.Due), .val (.int .i64 x1.P)]) (vs := [(12, .agg #[.int .i64 x1.Task, .int .i64 x1.At, .int .i64 x1.C, .int .i64 x1.Due, .int .i64 x1.P])]) (l := [.loaded ⟨b1, 0, none⟩ (.int .i64 x1.Task), .loaded ⟨b1, 1, none⟩ (.int .i64 x1.At), .loaded ⟨b1, 2, none⟩ (.int .i64 x1.C), .loaded ⟨b1, 3, none⟩ (.int .i64 x1.Due), .loaded ⟨b1, 4, none⟩ (.int .i64 x1.P)]) (by kernel_rfl) ⟨hS2.cell 0 rfl rfl, hS2.cell 0 rfl rfl, hS2.cell 0 rfl rfl, hS2.cell 0 rfl rfl, hS2.cell 0 rfl rfl, trivial⟩ (mem_one (by kernel_rfl)) ?_
  refine go2_batch [7] (ans := [.val (.int .i64 x1.Task), .val (.int .i64 x1.At), .val (.int .i64 x1.C), .val (.int .i64 x1.Due), .val (.int .i64 x1.P)]) (vs := [(13, .agg #[.int .i64 x1.Task, .int .i64 x1.At, .int .i64 x1.C, .int .i64 x1.Due, .int .i64 x1.P])]) (l := [.loaded ⟨b1, 0, none⟩ (.int .i64 x1.Task), .loaded ⟨b1, 1, none⟩ (.int .i64 x1.At), .loaded ⟨b1, 2, none⟩ (.int .i64 x1.C), .loaded ⟨b1, 3, none⟩ (.int .i64 x1.Due), .loaded ⟨b1, 4, none⟩ (.int .i64 x1.P)]) (by kernel_rfl) ⟨hS2.cell 0 rfl rfl, hS2.cell 0 rfl rfl, hS2.cell 0 rfl rfl, hS2.cell 0 rfl rfl, hS2.cell 0 rfl rfl, trivial⟩ (mem_one (by kernel_rfl)) ?_
  refine go2_batch [8] (ans := [.val (.int .i64 x1.Task), .val (.int .i64 x1.At), .val (.int .i64 x1.C), .val (.int .i64 x1.Due), .val (.int .i64 x1.P)]) (vs := [(14, .agg #[.int .i64 x1.Task, .int .i64 x1.At, .int .i64 x1.C, .int .i64 x1.Due, .int .i64 x1.P])]) (l := [.loaded ⟨b1, 0, none⟩ (.int .i64 x1.Task), .loaded ⟨b1, 1, none⟩ (.int .i64 x1.At), .loaded ⟨b1, 2, none⟩ (.int .i64 x1.C), .loaded ⟨b1, 3, none⟩ (.int .i64 x1.Due), .loaded ⟨b1, 4, none⟩ (.int .i64 x1.P)]) (by kernel_rfl) ⟨hS2.cell 0 rfl rfl, hS2.cell 0 rfl rfl, hS2.cell 0 rfl rfl, hS2.cell 0 rfl rfl, hS2.cell 0 rfl rfl, trivial⟩ (mem_one (by kernel_rfl)) ?_
  by_cases hc1 : 0 ≤ (IntKind.i64.wrap ((l0.length : Int) + 3))
  · rw [if_pos hc1] at h
    by_cases hc2 : ((IntKind.i64.wrap ((l0.length : Int) + 3)).toNat) ≤ 3518437208883
    · rw [if_pos hc2] at h
      refine go_alt2 (fun KK hKK => ?_) ?_
      · refine ge_one2 ?_
        refine ge_make (α := SJob) (d := 9) (t := 22) (el := 30) (bytes := 40) (l := 0) (c := ((IntKind.i64.wrap ((l0.length : Int) + 3)).toNat)) (x := (.const (.int .i64 0))) (y := (.tmp 8)) (ty := 22) (k1 := .i64) (k2 := .i64) (li := 0) (ci := (IntKind.i64.wrap ((l0.length : Int) + 3))) (z := .agg #[.int .i64 0, .int .i64 0, .int .i64 0, .int .i64 0, .int .i64 0]) (z' := (⟨0, 0, 0, 0, 0⟩ : SJob)) (by kernel_rfl) (by kernel_rfl) (by kernel_rfl) rfl (Int.toNat_of_nonneg hc1).symm (by kernel_rfl) (by kernel_rfl) rfl hS2 (Nat.zero_le _) rfl (by omega) fun v1 w2 _ hS3 => ?_
        refine ge_nil fun a hF => hKK _ _ (RS.of2 (l := [.loaded ⟨b1, 0, none⟩ (.int .i64 x1.Task), .loaded ⟨b1, 1, none⟩ (.int .i64 x1.At), .loaded ⟨b1, 2, none⟩ (.int .i64 x1.C), .loaded ⟨b1, 3, none⟩ (.int .i64 x1.Due), .loaded ⟨b1, 4, none⟩ (.int .i64 x1.P), .loaded ⟨b1, 0, none⟩ (.int .i64 x1.Task), .loaded ⟨b1, 1, none⟩ (.int .i64 x1.At), .loaded ⟨b1, 2, none⟩ (.int .i64 x1.C), .loaded ⟨b1, 3, none⟩ (.int .i64 x1.Due), .loaded ⟨b1, 4, none⟩ (.int .i64 x1.P), .loaded ⟨b1, 0, none⟩ (.int .i64 x1.Task), .loaded ⟨b1, 1, none⟩ (.int .i64 x1.At), .loaded ⟨b1, 2, none⟩ (.int .i64 x1.C), .loaded ⟨b1, 3, none⟩ (.int .i64 x1.Due), .loaded ⟨b1, 4, none⟩ (.int .i64 x1.P)]) (by kernel_rfl) ⟨hS2.cell 0 rfl rfl, hS2.cell 0 rfl rfl, hS2.cell 0 rfl rfl, hS2.cell 0 rfl rfl, hS2.cell 0 rfl rfl, hS2.cell 0 rfl rfl, hS2.cell 0 rfl rfl, hS2.cell 0 rfl rfl, hS2.cell 0 rfl rfl, hS2.cell 0 rfl rfl, hS2.cell 0 rfl rfl, hS2.cell 0 rfl rfl, hS2.cell 0 rfl rfl, hS2.cell 0 rfl rfl, hS2.cell 0 rfl rfl, trivial⟩ ⟨hS3.cell 1 rfl rfl, hS3.cell 1 rfl rfl, hS3.cell 1 rfl rfl, hS3.cell 1 rfl rfl, hS3.cell 1 rfl rfl, hS3.cell 1 rfl rfl, hS3.cell 1 rfl rfl, hS3.cell 1 rfl rfl, hS3.cell 1 rfl rfl, hS3.cell 1 rfl rfl, hS3.cell 1 rfl rfl, hS3.cell 1 rfl rfl, hS3.cell 1 rfl rfl, hS3.cell 1 rfl rfl, hS3.cell 1 rfl rfl, trivial⟩) ?_ a hF
        refine go_alt2 (fun KK hKK => ?_) ?_
        · by_cases hc3 : (List.replicate 0 (⟨0, 0, 0, 0, 0⟩ : SJob)).length + l0.length ≤ 3518437208883
          · rw [if_pos hc3] at h
            refine ge_appendL (α := SJob) (m := 0) (d := 11) (t := 22) (el := 30) (bytes := 40) (c1 := c0) (A1 := A0) (x := (.tmp 9)) (y := (.tmp 10)) (ty := 22) (v := v1) (z := .agg #[.int .i64 0, .int .i64 0, .int .i64 0, .int .i64 0, .int .i64 0]) (l := (List.replicate 0 (⟨0, 0, 0, 0, 0⟩ : SJob))) (us := l0) (by kernel_rfl) (by kernel_rfl) (by kernel_rfl) (by kernel_rfl) (by kernel_rfl) rfl hS3 (hS3.rd hR0) rfl (Nat.mul_le_of_le_div _ _ _ hc3) fun v2 w3 hS4 => ?_
            have hS5 : St w0 w3 [Own.of v2 30 ((List.replicate 0 (⟨0, 0, 0, 0, 0⟩ : SJob)) ++ l0), Own.blk b1 (.cells #[.int .i64 x1.Task, .int .i64 x1.At, .int .i64 x1.C, .int .i64 x1.Due, .int .i64 x1.P] 30 (0, 0))] := hS4
            refine ge_nil fun a hF => hKK _ _ (RS.of2 (l := [.loaded ⟨b1, 0, none⟩ (.int .i64 x1.Task), .loaded ⟨b1, 1, none⟩ (.int .i64 x1.At), .loaded ⟨b1, 2, none⟩ (.int .i64 x1.C), .loaded ⟨b1, 3, none⟩ (.int .i64 x1.Due), .loaded ⟨b1, 4, none⟩ (.int .i64 x1.P), .loaded ⟨b1, 0, none⟩ (.int .i64 x1.Task), .loaded ⟨b1, 1, none⟩ (.int .i64 x1.At), .loaded ⟨b1, 2, none⟩ (.int .i64 x1.C), .loaded ⟨b1, 3, none⟩ (.int .i64 x1.Due), .loaded ⟨b1, 4, none⟩ (.int .i64 x1.P), .loaded ⟨b1, 0, none⟩ (.int .i64 x1.Task), .loaded ⟨b1, 1, none⟩ (.int .i64 x1.At), .loaded ⟨b1, 2, none⟩ (.int .i64 x1.C), .loaded ⟨b1, 3, none⟩ (.int .i64 x1.Due), .loaded ⟨b1, 4, none⟩ (.int .i64 x1.P)]) (by kernel_rfl) ⟨hS3.cell 1 rfl rfl, hS3.cell 1 rfl rfl, hS3.cell 1 rfl rfl, hS3.cell 1 rfl rfl, hS3.cell 1 rfl rfl, hS3.cell 1 rfl rfl, hS3.cell 1 rfl rfl, hS3.cell 1 rfl rfl, hS3.cell 1 rfl rfl, hS3.cell 1 rfl rfl, hS3.cell 1 rfl rfl, hS3.cell 1 rfl rfl, hS3.cell 1 rfl rfl, hS3.cell 1 rfl rfl, hS3.cell 1 rfl rfl, trivial⟩ ⟨hS5.cell 1 rfl rfl, hS5.cell 1 rfl rfl, hS5.cell 1 rfl rfl, hS5.cell 1 rfl rfl, hS5.cell 1 rfl rfl, hS5.cell 1 rfl rfl, hS5.cell 1 rfl rfl, hS5.cell 1 rfl rfl, hS5.cell 1 rfl rfl, hS5.cell 1 rfl rfl, hS5.cell 1 rfl rfl, hS5.cell 1 rfl rfl, hS5.cell 1 rfl rfl, hS5.cell 1 rfl rfl, hS5.cell 1 rfl rfl, trivial⟩) ?_ a hF
            refine go_alt2 (fun KK hKK => ?_) ?_
            · refine ge_one2 ?_
              refine ge_new (d := some 15) (o := .cells #[.int .i64 x1.Task, .int .i64 x1.At, .int .i64 x1.C, .int .i64 x1.Due, .int .i64 x1.P, .int .i64 x1.Task, .int .i64 x1.At, .int .i64 x1.C, .int .i64 x1.Due, .int .i64 x1.P, .int .i64 x1.Task, .int .i64 x1.At, .int .i64 x1.C, .int .i64 x1.Due, .int .i64 x1.P] 30) (v := fun b => .slice (some ⟨b, 0, none⟩) 3 3) hS5 (fun b => by kernel_rfl) fun b2 w4 hx2 hS6 => ?_
              refine ge_nil fun a hF => hKK _ _ (RS.of2 (l := []) (by kernel_rfl) trivial trivial) ?_ a hF
              refine go_alt2 (fun KK hKK => ?_) ?_
              · have hS7 := hS6.bring 1 rfl
                by_cases hc4 : ((List.replicate 0 (⟨0, 0, 0, 0, 0⟩ : SJob)) ++ l0).length + 3 ≤ 3518437208883
                · rw [if_pos hc4] at h
                  refine ge_appendL (α := SJob) (m := 0) (d := 16) (t := 22) (el := 30) (bytes := 40) (c1 := 3) (A1 := (some ⟨b2, 0, none⟩)) (x := (.tmp 11)) (y := (.tmp 15)) (ty := 22) (v := v2) (z := .agg #[.int .i64 0, .int .i64 0, .int .i64 0, .int .i64 0, .int .i64 0]) (l := ((List.replicate 0 (⟨0, 0, 0, 0, 0⟩ : SJob)) ++ l0)) (us := ([x1, x1, x1] : List SJob)) (by kernel_rfl) (by kernel_rfl) (by kernel_rfl) (by kernel_rfl) (by kernel_rfl) rfl hS7 (hS7.rdBlk 1 ([x1, x1, x1] : List SJob) rfl rfl rfl) rfl (Nat.mul_le_of_le_div _ _ _ hc4) fun v3 w5 hS8 => ?_
                  have hS9 : St w0 w5 [Own.of v3 30 (((List.replicate 0 (⟨0, 0, 0, 0, 0⟩ : SJob)) ++ l0) ++ ([x1, x1, x1] : List SJob)), Own.blk b2 (.cells #[.int .i64 x1.Task, .int .i64 x1.At, .int .i64 x1.C, .int .i64 x1.Due, .int .i64 x1.P, .int .i64 x1.Task, .int .i64 x1.At, .int .i64 x1.C, .int .i64 x1.Due, .int .i64 x1.P, .int .i64 x1.Task, .int .i64 x1.At, .int .i64 x1.C, .int .i64 x1.Due, .int .i64 x1.P] 30 (0, 0)), Own.blk b1 (.cells #[.int .i64 x1.Task, .int .i64 x1.At, .int .i64 x1.C, .int .i64 x1.Due, .int .i64 x1.P] 30 (0, 0))] := hS8
                  refine ge_nil fun a hF => hKK _ _ (RS.of2 (l := [.loaded ⟨b1, 0, none⟩ (.int .i64 x1.Task), .loaded ⟨b1, 1, none⟩ (.int .i64 x1.At), .loaded ⟨b1, 2, none⟩ (.int .i64 x1.C), .loaded ⟨b1, 3, none⟩ (.int .i64 x1.Due), .loaded ⟨b1, 4, none⟩ (.int .i64 x1.P), .loaded ⟨b1, 0, none⟩ (.int .i64 x1.Task), .loaded ⟨b1, 1, none⟩ (.int .i64 x1.At), .loaded ⟨b1, 2, none⟩ (.int .i64 x1.C), .loaded ⟨b1, 3, none⟩ (.int .i64 x1.Due), .loaded ⟨b1, 4, none⟩ (.int .i64 x1.P), .loaded ⟨b1, 0, none⟩ (.int .i64 x1.Task), .loaded ⟨b1, 1, none⟩ (.int .i64 x1.At), .loaded ⟨b1, 2, none⟩ (.int .i64 x1.C), .loaded ⟨b1, 3, none⟩ (.int .i64 x1.Due), .loaded ⟨b1, 4, none⟩ (.int .i64 x1.P)]) (by kernel_rfl) ⟨hS6.cell 2 rfl rfl, hS6.cell 2 rfl rfl, hS6.cell 2 rfl rfl, hS6.cell 2 rfl rfl, hS6.cell 2 rfl rfl, hS6.cell 2 rfl rfl, hS6.cell 2 rfl rfl, hS6.cell 2 rfl rfl, hS6.cell 2 rfl rfl, hS6.cell 2 rfl rfl, hS6.cell 2 rfl rfl, hS6.cell 2 rfl rfl, hS6.cell 2 rfl rfl, hS6.cell 2 rfl rfl, hS6.cell 2 rfl rfl, trivial⟩ ⟨hS9.cell 2 rfl rfl, hS9.cell 2 rfl rfl, hS9.cell 2 rfl rfl, hS9.cell 2 rfl rfl, hS9.cell 2 rfl rfl, hS9.cell 2 rfl rfl, hS9.cell 2 rfl rfl, hS9.cell 2 rfl rfl, hS9.cell 2 rfl rfl, hS9.cell 2 rfl rfl, hS9.cell 2 rfl rfl, hS9.cell 2 rfl rfl, hS9.cell 2 rfl rfl, hS9.cell 2 rfl rfl, hS9.cell 2 rfl rfl, trivial⟩) ?_ a hF
                  refine go2_batch [11] (ans := []) (vs := [(5, v3)]) (l := []) (by kernel_rfl) trivial mem_nil ?_
                  refine go_fin2 fun a hF => hK2 _ _ ?_ a hF
                  refine we_seq fun K3 hK3 => ?_
                  refine we_region [(0, 0), (1, 0), (2, 0), (3, 0), (4, 0)] rfl ?_
                  refine ge_batch [0, 1, 2] (ans := []) (vs := [(19, .int .i64 (l0.length : Int)), (18, .slice A0 l0.length c0), (17, v3)]) (l := []) (by kernel_rfl) trivial ?_
                  obtain ⟨Z1, cz1, rfl, hcp1⟩ := hS9.open2 0 rfl
                  refine ge_sliceHi (d := 20) (ty := 22) (t := 22) (el := 30) (sz := 5) (m := ((((List.replicate 0 (⟨0, 0, 0, 0, 0⟩ : SJob)) ++ l0) ++ ([x1, x1, x1] : List SJob)).length)) (c := cz1) (hn := l0.length) (x := (.tmp 17)) (y := (.tmp 19)) (A := Z1) (k' := .i64) (hi := (l0.length : Int)) (by kernel_rfl) (by kernel_rfl) (by kernel_rfl) rfl (by kernel_rfl) (by kernel_rfl) (by have h0 := hcp1; simp only [List.length_append, List.length_cons, List.length_nil] at h0; omega) ?_
                  refine ge_batch [4] (ans := []) (vs := [(4, .slice Z1 l0.length cz1)]) (l := []) (by kernel_rfl) trivial ?_
                  refine ge_nil fun a hF => hK3 _ _ ?_ a hF
                  have hS10 := hS9.takeN 1
                  obtain rfl := Option.some.inj h
                  exact we_ret (post_ret (rs := [.tmp 4]) (ans := []) (vs := [.slice Z1 l0.length cz1]) (l := []) rfl (by kernel_rfl) trivial ⟨Z1, cz1, rfl, hcp1, hS10⟩)
                · rw [if_neg hc4] at h
                  cases h
              exact go_nomore2
            exact go_nomore2
          · rw [if_neg hc3] at h
            cases h
        refine go_alt2 (fun KK hKK => ?_) ?_
        · refine ge_one2 ?_
          refine ge_new (d := some 15) (o := .cells #[.int .i64 x1.Task, .int .i64 x1.At, .int .i64 x1.C, .int .i64 x1.Due, .int .i64 x1.P, .int .i64 x1.Task, .int .i64 x1.At, .int .i64 x1.C, .int .i64 x1.Due, .int .i64 x1.P, .int .i64 x1.Task, .int .i64 x1.At, .int .i64 x1.C, .int .i64 x1.Due, .int .i64 x1.P] 30) (v := fun b => .slice (some ⟨b, 0, none⟩) 3 3) hS3 (fun b => by kernel_rfl) fun b2 w3 hx2 hS4 => ?_
          refine ge_nil fun a hF => hKK _ _ (RS.of2 (l := []) (by kernel_rfl) trivial trivial) ?_ a hF
          refine go_alt2 (fun KK hKK => ?_) ?_
          · have hS5 := hS4.bring 1 rfl
            by_cases hc3 : (List.replicate 0 (⟨0, 0, 0, 0, 0⟩ : SJob)).length + l0.length ≤ 3518437208883
            · rw [if_pos hc3] at h
              refine ge_appendL (α := SJob) (m := 0) (d := 11) (t := 22) (el := 30) (bytes := 40) (c1 := c0) (A1 := A0) (x := (.tmp 9)) (y := (.tmp 10)) (ty := 22) (v := v1) (z := .agg #[.int .i64 0, .int .i64 0, .int .i64 0, .int .i64 0, .int .i64 0]) (l := (List.replicate 0 (⟨0, 0, 0, 0, 0⟩ : SJob))) (us := l0) (by kernel_rfl) (by kernel_rfl) (by kernel_rfl) (by kernel_rfl) (by kernel_rfl) rfl hS5 (hS5.rd hR0) rfl (Nat.mul_le_of_le_div _ _ _ hc3) fun v2 w4 hS6 => ?_
              have hS7 : St w0 w4 [Own.of v2 30 ((List.replicate 0 (⟨0, 0, 0, 0, 0⟩ : SJob)) ++ l0), Own.blk b2 (.cells #[.int .i64 x1.Task, .int .i64 x1.At, .int .i64 x1.C, .int .i64 x1.Due, .int .i64 x1.P, .int .i64 x1.Task, .int .i64 x1.At, .int .i64 x1.C, .int .i64 x1.Due, .int .i64 x1.P, .int .i64 x1.Task, .int .i64 x1.At, .int .i64 x1.C, .int .i64 x1.Due, .int .i64 x1.P] 30 (0, 0)), Own.blk b1 (.cells #[.int .i64 x1.Task, .int .i64 x1.At, .int .i64 x1.C, .int .i64 x1.Due, .int .i64 x1.P] 30 (0, 0))] := hS6
              refine ge_nil fun a hF => hKK _ _ (RS.of2 (l := [.loaded ⟨b1, 0, none⟩ (.int .i64 x1.Task), .loaded ⟨b1, 1, none⟩ (.int .i64 x1.At), .loaded ⟨b1, 2, none⟩ (.int .i64 x1.C), .loaded ⟨b1, 3, none⟩ (.int .i64 x1.Due), .loaded ⟨b1, 4, none⟩ (.int .i64 x1.P), .loaded ⟨b1, 0, none⟩ (.int .i64 x1.Task), .loaded ⟨b1, 1, none⟩ (.int .i64 x1.At), .loaded ⟨b1, 2, none⟩ (.int .i64 x1.C), .loaded ⟨b1, 3, none⟩ (.int .i64 x1.Due), .loaded ⟨b1, 4, none⟩ (.int .i64 x1.P), .loaded ⟨b1, 0, none⟩ (.int .i64 x1.Task), .loaded ⟨b1, 1, none⟩ (.int .i64 x1.At), .loaded ⟨b1, 2, none⟩ (.int .i64 x1.C), .loaded ⟨b1, 3, none⟩ (.int .i64 x1.Due), .loaded ⟨b1, 4, none⟩ (.int .i64 x1.P)]) (by kernel_rfl) ⟨hS4.cell 2 rfl rfl, hS4.cell 2 rfl rfl, hS4.cell 2 rfl rfl, hS4.cell 2 rfl rfl, hS4.cell 2 rfl rfl, hS4.cell 2 rfl rfl, hS4.cell 2 rfl rfl, hS4.cell 2 rfl rfl, hS4.cell 2 rfl rfl, hS4.cell 2 rfl rfl, hS4.cell 2 rfl rfl, hS4.cell 2 rfl rfl, hS4.cell 2 rfl rfl, hS4.cell 2 rfl rfl, hS4.cell 2 rfl rfl, trivial⟩ ⟨hS7.cell 2 rfl rfl, hS7.cell 2 rfl rfl, hS7.cell 2 rfl rfl, hS7.cell 2 rfl rfl, hS7.cell 2 rfl rfl, hS7.cell 2 rfl rfl, hS7.cell 2 rfl rfl, hS7.cell 2 rfl rfl, hS7.cell 2 rfl rfl, hS7.cell 2 rfl rfl, hS7.cell 2 rfl rfl, hS7.cell 2 rfl rfl, hS7.cell 2 rfl rfl, hS7.cell 2 rfl rfl, hS7.cell 2 rfl rfl, trivial⟩) ?_ a hF
              refine go_alt2 (fun KK hKK => ?_) ?_
              · by_cases hc4 : ((List.replicate 0 (⟨0, 0, 0, 0, 0⟩ : SJob)) ++ l0).length + 3 ≤ 3518437208883
                · rw [if_pos hc4] at h
                  refine ge_appendL (α := SJob) (m := 0) (d := 16) (t := 22) (el := 30) (bytes := 40) (c1 := 3) (A1 := (some ⟨b2, 0, none⟩)) (x := (.tmp 11)) (y := (.tmp 15)) (ty := 22) (v := v2) (z := .agg #[.int .i64 0, .int .i64 0, .int .i64 0, .int .i64 0, .int .i64 0]) (l := ((List.replicate 0 (⟨0, 0, 0, 0, 0⟩ : SJob)) ++ l0)) (us := ([x1, x1, x1] : List SJob)) (by kernel_rfl) (by kernel_rfl) (by kernel_rfl) (by kernel_rfl) (by kernel_rfl) rfl hS7 (hS7.rdBlk 1 ([x1, x1, x1] : List SJob) rfl rfl rfl) rfl (Nat.mul_le_of_le_div _ _ _ hc4) fun v3 w5 hS8 => ?_
                  have hS9 : St w0 w5 [Own.of v3 30 (((List.replicate 0 (⟨0, 0, 0, 0, 0⟩ : SJob)) ++ l0) ++ ([x1, x1, x1] : List SJob)), Own.blk b2 (.cells #[.int .i64 x1.Task, .int .i64 x1.At, .int .i64 x1.C, .int .i64 x1.Due, .int .i64 x1.P, .int .i64 x1.Task, .int .i64 x1.At, .int .i64 x1.C, .int .i64 x1.Due, .int .i64 x1.P, .int .i64 x1.Task, .int .i64 x1.At, .int .i64 x1.C, .int .i64 x1.Due, .int .i64 x1.P] 30 (0, 0)), Own.blk b1 (.cells #[.int .i64 x1.Task, .int .i64 x1.At, .int .i64 x1.C, .int .i64 x1.Due, .int .i64 x1.P] 30 (0, 0))] := hS8
                  refine ge_nil fun a hF => hKK _ _ (RS.of2 (l := [.loaded ⟨b1, 0, none⟩ (.int .i64 x1.Task), .loaded ⟨b1, 1, none⟩ (.int .i64 x1.At), .loaded ⟨b1, 2, none⟩ (.int .i64 x1.C), .loaded ⟨b1, 3, none⟩ (.int .i64 x1.Due), .loaded ⟨b1, 4, none⟩ (.int .i64 x1.P), .loaded ⟨b1, 0, none⟩ (.int .i64 x1.Task), .loaded ⟨b1, 1, none⟩ (.int .i64 x1.At), .loaded ⟨b1, 2, none⟩ (.int .i64 x1.C), .loaded ⟨b1, 3, none⟩ (.int .i64 x1.Due), .loaded ⟨b1, 4, none⟩ (.int .i64 x1.P), .loaded ⟨b1, 0, none⟩ (.int .i64 x1.Task), .loaded ⟨b1, 1, none⟩ (.int .i64 x1.At), .loaded ⟨b1, 2, none⟩ (.int .i64 x1.C), .loaded ⟨b1, 3, none⟩ (.int .i64 x1.Due), .loaded ⟨b1, 4, none⟩ (.int .i64 x1.P)]) (by kernel_rfl) ⟨hS7.cell 2 rfl rfl, hS7.cell 2 rfl rfl, hS7.cell 2 rfl rfl, hS7.cell 2 rfl rfl, hS7.cell 2 rfl rfl, hS7.cell 2 rfl rfl, hS7.cell 2 rfl rfl, hS7.cell 2 rfl rfl, hS7.cell 2 rfl rfl, hS7.cell 2 rfl rfl, hS7.cell 2 rfl rfl, hS7.cell 2 rfl rfl, hS7.cell 2 rfl rfl, hS7.cell 2 rfl rfl, hS7.cell 2 rfl rfl, trivial⟩ ⟨hS9.cell 2 rfl rfl, hS9.cell 2 rfl rfl, hS9.cell 2 rfl rfl, hS9.cell 2 rfl rfl, hS9.cell 2 rfl rfl, hS9.cell 2 rfl rfl, hS9.cell 2 rfl rfl, hS9.cell 2 rfl rfl, hS9.cell 2 rfl rfl, hS9.cell 2 rfl rfl, hS9.cell 2 rfl rfl, hS9.cell 2 rfl rfl, hS9.cell 2 rfl rfl, hS9.cell 2 rfl rfl, hS9.cell 2 rfl rfl, trivial⟩) ?_ a hF
                  refine go2_batch [11] (ans := []) (vs := [(5, v3)]) (l := []) (by kernel_rfl) trivial mem_nil ?_
                  refine go_fin2 fun a hF => hK2 _ _ ?_ a hF
                  refine we_seq fun K3 hK3 => ?_
                  refine we_region [(0, 0), (1, 0), (2, 0), (3, 0), (4, 0)] rfl ?_
                  refine ge_batch [0, 1, 2] (ans := []) (vs := [(19, .int .i64 (l0.length : Int)), (18, .slice A0 l0.length c0), (17, v3)]) (l := []) (by kernel_rfl) trivial ?_
                  obtain ⟨Z1, cz1, rfl, hcp1⟩ := hS9.open2 0 rfl
                  refine ge_sliceHi (d := 20) (ty := 22) (t := 22) (el := 30) (sz := 5) (m := ((((List.replicate 0 (⟨0, 0, 0, 0, 0⟩ : SJob)) ++ l0) ++ ([x1, x1, x1] : List SJob)).length)) (c := cz1) (hn := l0.length) (x := (.tmp 17)) (y := (.tmp 19)) (A := Z1) (k' := .i64) (hi := (l0.length : Int)) (by kernel_rfl) (by kernel_rfl) (by kernel_rfl) rfl (by kernel_rfl) (by kernel_rfl) (by have h0 := hcp1; simp only [List.length_append, List.length_cons, List.length_nil] at h0; omega) ?_
                  refine ge_batch [4] (ans := []) (vs := [(4, .slice Z1 l0.length cz1)]) (l := []) (by kernel_rfl) trivial ?_
                  refine ge_nil fun a hF => hK3 _ _ ?_ a hF
                  have hS10 := hS9.takeN 1
                  obtain rfl := Option.some.inj h
                  exact we_ret (post_ret (rs := [.tmp 4]) (ans := []) (vs := [.slice Z1 l0.length cz1]) (l := []) rfl (by kernel_rfl) trivial ⟨Z1, cz1, rfl, hcp1, hS10⟩)
                · rw [if_neg hc4] at h
                  cases h
              exact go_nomore2
            · rw [if_neg hc3] at h
              cases h
          exact go_nomore2
        exact go_nomore2
      refine go_alt2 (fun KK hKK => ?_) ?_
      · refine ge_one2 ?_
        refine ge_new (d := some 15) (o := .cells #[.int .i64 x1.Task, .int .i64 x1.At, .int .i64 x1.C, .int .i64 x1.Due, .int .i64 x1.P, .int .i64 x1.Task, .int .i64 x1.At, .int .i64 x1.C, .int .i64 x1.Due, .int .i64 x1.P, .int .i64 x1.Task, .int .i64 x1.At, .int .i64 x1.C, .int .i64 x1.Due, .int .i64 x1.P] 30) (v := fun b => .slice (some ⟨b, 0, none⟩) 3 3) hS2 (fun b => by kernel_rfl) fun b2 w2 hx2 hS3 => ?_
        refine ge_nil fun a hF => hKK _ _ (RS.of2 (l := []) (by kernel_rfl) trivial trivial) ?_ a hF
        refine go_alt2 (fun KK hKK => ?_) ?_
        · refine ge_one2 ?_
          refine ge_make (α := SJob) (d := 9) (t := 22) (el := 30) (bytes := 40) (l := 0) (c := ((IntKind.i64.wrap ((l0.length : Int) + 3)).toNat)) (x := (.const (.int .i64 0))) (y := (.tmp 8)) (ty := 22) (k1 := .i64) (k2 := .i64) (li := 0) (ci := (IntKind.i64.wrap ((l0.length : Int) + 3))) (z := .agg #[.int .i64 0, .int .i64 0, .int .i64 0, .int .i64 0, .int .i64 0]) (z' := (⟨0, 0, 0, 0, 0⟩ : SJob)) (by kernel_rfl) (by kernel_rfl) (by kernel_rfl) rfl (Int.toNat_of_nonneg hc1).symm (by kernel_rfl) (by kernel_rfl) rfl hS3 (Nat.zero_le _) rfl (by omega) fun v1 w3 _ hS4 => ?_
          refine ge_nil fun a hF => hKK _ _ (RS.of2 (l := [.loaded ⟨b1, 0, none⟩ (.int .i64 x1.Task), .loaded ⟨b1, 1, none⟩ (.int .i64 x1.At), .loaded ⟨b1, 2, none⟩ (.int .i64 x1.C), .loaded ⟨b1, 3, none⟩ (.int .i64 x1.Due), .loaded ⟨b1, 4, none⟩ (.int .i64 x1.P), .loaded ⟨b1, 0, none⟩ (.int .i64 x1.Task), .loaded ⟨b1, 1, none⟩ (.int .i64 x1.At), .loaded ⟨b1, 2, none⟩ (.int .i64 x1.C), .loaded ⟨b1, 3, none⟩ (.int .i64 x1.Due), .loaded ⟨b1, 4, none⟩ (.int .i64 x1.P), .loaded ⟨b1, 0, none⟩ (.int .i64 x1.Task), .loaded ⟨b1, 1, none⟩ (.int .i64 x1.At), .loaded ⟨b1, 2, none⟩ (.int .i64 x1.C), .loaded ⟨b1, 3, none⟩ (.int .i64 x1.Due), .loaded ⟨b1, 4, none⟩ (.int .i64 x1.P)]) (by kernel_rfl) ⟨hS3.cell 1 rfl rfl, hS3.cell 1 rfl rfl, hS3.cell 1 rfl rfl, hS3.cell 1 rfl rfl, hS3.cell 1 rfl rfl, hS3.cell 1 rfl rfl, hS3.cell 1 rfl rfl, hS3.cell 1 rfl rfl, hS3.cell 1 rfl rfl, hS3.cell 1 rfl rfl, hS3.cell 1 rfl rfl, hS3.cell 1 rfl rfl, hS3.cell 1 rfl rfl, hS3.cell 1 rfl rfl, hS3.cell 1 rfl rfl, trivial⟩ ⟨hS4.cell 2 rfl rfl, hS4.cell 2 rfl rfl, hS4.cell 2 rfl rfl, hS4.cell 2 rfl rfl, hS4.cell 2 rfl rfl, hS4.cell 2 rfl rfl, hS4.cell 2 rfl rfl, hS4.cell 2 rfl rfl, hS4.cell 2 rfl rfl, hS4.cell 2 rfl rfl, hS4.cell 2 rfl rfl, hS4.cell 2 rfl rfl, hS4.cell 2 rfl rfl, hS4.cell 2 rfl rfl, hS4.cell 2 rfl rfl, trivial⟩) ?_ a hF
          refine go_alt2 (fun KK hKK => ?_) ?_
          · by_cases hc3 : (List.replicate 0 (⟨0, 0, 0, 0, 0⟩ : SJob)).length + l0.length ≤ 3518437208883
            · rw [if_pos hc3] at h
              refine ge_appendL (α := SJob) (m := 0) (d := 11) (t := 22) (el := 30) (bytes := 40) (c1 := c0) (A1 := A0) (x := (.tmp 9)) (y := (.tmp 10)) (ty := 22) (v := v1) (z := .agg #[.int .i64 0, .int .i64 0, .int .i64 0, .int .i64 0, .int .i64 0]) (l := (List.replicate 0 (⟨0, 0, 0, 0, 0⟩ : SJob))) (us := l0) (by kernel_rfl) (by kernel_rfl) (by kernel_rfl) (by kernel_rfl) (by kernel_rfl) rfl hS4 (hS4.rd hR0) rfl (Nat.mul_le_of_le_div _ _ _ hc3) fun v2 w4 hS5 => ?_
              have hS6 : St w0 w4 [Own.of v2 30 ((List.replicate 0 (⟨0, 0, 0, 0, 0⟩ : SJob)) ++ l0), Own.blk b2 (.cells #[.int .i64 x1.Task, .int .i64 x1.At, .int .i64 x1.C, .int .i64 x1.Due, .int .i64 x1.P, .int .i64 x1.Task, .int .i64 x1.At, .int .i64 x1.C, .int .i64 x1.Due, .int .i64 x1.P, .int .i64 x1.Task, .int .i64 x1.At, .int .i64 x1.C, .int .i64 x1.Due, .int .i64 x1.P] 30 (0, 0)), Own.blk b1 (.cells #[.int .i64 x1.Task, .int .i64 x1.At, .int .i64 x1.C, .int .i64 x1.Due, .int .i64 x1.P] 30 (0, 0))] := hS5
              refine ge_nil fun a hF => hKK _ _ (RS.of2 (l := [.loaded ⟨b1, 0, none⟩ (.int .i64 x1.Task), .loaded ⟨b1, 1, none⟩ (.int .i64 x1.At), .loaded ⟨b1, 2, none⟩ (.int .i64 x1.C), .loaded ⟨b1, 3, none⟩ (.int .i64 x1.Due), .loaded ⟨b1, 4, none⟩ (.int .i64 x1.P), .loaded ⟨b1, 0, none⟩ (.int .i64 x1.Task), .loaded ⟨b1, 1, none⟩ (.int .i64 x1.At), .loaded ⟨b1, 2, none⟩ (.int .i64 x1.C), .loaded ⟨b1, 3, none⟩ (.int .i64 x1.Due), .loaded ⟨b1, 4, none⟩ (.int .i64 x1.P), .loaded ⟨b1, 0, none⟩ (.int .i64 x1.Task), .loaded ⟨b1, 1, none⟩ (.int .i64 x1.At), .loaded ⟨b1, 2, none⟩ (.int .i64 x1.C), .loaded ⟨b1, 3, none⟩ (.int .i64 x1.Due), .loaded ⟨b1, 4, none⟩ (.int .i64 x1.P)]) (by kernel_rfl) ⟨hS4.cell 2 rfl rfl, hS4.cell 2 rfl rfl, hS4.cell 2 rfl rfl, hS4.cell 2 rfl rfl, hS4.cell 2 rfl rfl, hS4.cell 2 rfl rfl, hS4.cell 2 rfl rfl, hS4.cell 2 rfl rfl, hS4.cell 2 rfl rfl, hS4.cell 2 rfl rfl, hS4.cell 2 rfl rfl, hS4.cell 2 rfl rfl, hS4.cell 2 rfl rfl, hS4.cell 2 rfl rfl, hS4.cell 2 rfl rfl, trivial⟩ ⟨hS6.cell 2 rfl rfl, hS6.cell 2 rfl rfl, hS6.cell 2 rfl rfl, hS6.cell 2 rfl rfl, hS6.cell 2 rfl rfl, hS6.cell 2 rfl rfl, hS6.cell 2 rfl rfl, hS6.cell 2 rfl rfl, hS6.cell 2 rfl rfl, hS6.cell 2 rfl rfl, hS6.cell 2 rfl rfl, hS6.cell 2 rfl rfl, hS6.cell 2 rfl rfl, hS6.cell 2 rfl rfl, hS6.cell 2 rfl rfl, trivial⟩) ?_ a hF
              refine go_alt2 (fun KK hKK => ?_) ?_
              · by_cases hc4 : ((List.replicate 0 (⟨0, 0, 0, 0, 0⟩ : SJob)) ++ l0).length + 3 ≤ 3518437208883
                · rw [if_pos hc4] at h
                  refine ge_appendL (α := SJob) (m := 0) (d := 16) (t := 22) (el := 30) (bytes := 40) (c1 := 3) (A1 := (some ⟨b2, 0, none⟩)) (x := (.tmp 11)) (y := (.tmp 15)) (ty := 22) (v := v2) (z := .agg #[.int .i64 0, .int .i64 0, .int .i64 0, .int .i64 0, .int .i64 0]) (l := ((List.replicate 0 (⟨0, 0, 0, 0, 0⟩ : SJob)) ++ l0)) (us := ([x1, x1, x1] : List SJob)) (by kernel_rfl) (by kernel_rfl) (by kernel_rfl) (by kernel_rfl) (by kernel_rfl) rfl hS6 (hS6.rdBlk 1 ([x1, x1, x1] : List SJob) rfl rfl rfl) rfl (Nat.mul_le_of_le_div _ _ _ hc4) fun v3 w5 hS7 => ?_
                  have hS8 : St w0 w5 [Own.of v3 30 (((List.replicate 0 (⟨0, 0, 0, 0, 0⟩ : SJob)) ++ l0) ++ ([x1, x1, x1] : List SJob)), Own.blk b2 (.cells #[.int .i64 x1.Task, .int .i64 x1.At, .int .i64 x1.C, .int .i64 x1.Due, .int .i64 x1.P, .int .i64 x1.Task, .int .i64 x1.At, .int .i64 x1.C, .int .i64 x1.Due, .int .i64 x1.P, .int .i64 x1.Task, .int .i64 x1.At, .int .i64 x1.C, .int .i64 x1.Due, .int .i64 x1.P] 30 (0, 0)), Own.blk b1 (.cells #[.int .i64 x1.Task, .int .i64 x1.At, .int .i64 x1.C, .int .i64 x1.Due, .int .i64 x1.P] 30 (0, 0))] := hS7
                  refine ge_nil fun a hF => hKK _ _ (RS.of2 (l := [.loaded ⟨b1, 0, none⟩ (.int .i64 x1.Task), .loaded ⟨b1, 1, none⟩ (.int .i64 x1.At), .loaded ⟨b1, 2, none⟩ (.int .i64 x1.C), .loaded ⟨b1, 3, none⟩ (.int .i64 x1.Due), .loaded ⟨b1, 4, none⟩ (.int .i64 x1.P), .loaded ⟨b1, 0, none⟩ (.int .i64 x1.Task), .loaded ⟨b1, 1, none⟩ (.int .i64 x1.At), .loaded ⟨b1, 2, none⟩ (.int .i64 x1.C), .loaded ⟨b1, 3, none⟩ (.int .i64 x1.Due), .loaded ⟨b1, 4, none⟩ (.int .i64 x1.P), .loaded ⟨b1, 0, none⟩ (.int .i64 x1.Task), .loaded ⟨b1, 1, none⟩ (.int .i64 x1.At), .loaded ⟨b1, 2, none⟩ (.int .i64 x1.C), .loaded ⟨b1, 3, none⟩ (.int .i64 x1.Due), .loaded ⟨b1, 4, none⟩ (.int .i64 x1.P)]) (by kernel_rfl) ⟨hS6.cell 2 rfl rfl, hS6.cell 2 rfl rfl, hS6.cell 2 rfl rfl, hS6.cell 2 rfl rfl, hS6.cell 2 rfl rfl, hS6.cell 2 rfl rfl, hS6.cell 2 rfl rfl, hS6.cell 2 rfl rfl, hS6.cell 2 rfl rfl, hS6.cell 2 rfl rfl, hS6.cell 2 rfl rfl, hS6.cell 2 rfl rfl, hS6.cell 2 rfl rfl, hS6.cell 2 rfl rfl, hS6.cell 2 rfl rfl, trivial⟩ ⟨hS8.cell 2 rfl rfl, hS8.cell 2 rfl rfl, hS8.cell 2 rfl rfl, hS8.cell 2 rfl rfl, hS8.cell 2 rfl rfl, hS8.cell 2 rfl rfl, hS8.cell 2 rfl rfl, hS8.cell 2 rfl rfl, hS8.cell 2 rfl rfl, hS8.cell 2 rfl rfl, hS8.cell 2 rfl rfl, hS8.cell 2 rfl rfl, hS8.cell 2 rfl rfl, hS8.cell 2 rfl rfl, hS8.cell 2 rfl rfl, trivial⟩) ?_ a hF
                  refine go2_batch [11] (ans := []) (vs := [(5, v3)]) (l := []) (by kernel_rfl) trivial mem_nil ?_
                  refine go_fin2 fun a hF => hK2 _ _ ?_ a hF
                  refine we_seq fun K3 hK3 => ?_
                  refine we_region [(0, 0), (1, 0), (2, 0), (3, 0), (4, 0)] rfl ?_
                  refine ge_batch [0, 1, 2] (ans := []) (vs := [(19, .int .i64 (l0.length : Int)), (18, .slice A0 l0.length c0), (17, v3)]) (l := []) (by kernel_rfl) trivial ?_
                  obtain ⟨Z1, cz1, rfl, hcp1⟩ := hS8.open2 0 rfl
                  refine ge_sliceHi (d := 20) (ty := 22) (t := 22) (el := 30) (sz := 5) (m := ((((List.replicate 0 (⟨0, 0, 0, 0, 0⟩ : SJob)) ++ l0) ++ ([x1, x1, x1] : List SJob)).length)) (c := cz1) (hn := l0.length) (x := (.tmp 17)) (y := (.tmp 19)) (A := Z1) (k' := .i64) (hi := (l0.length : Int)) (by kernel_rfl) (by kernel_rfl) (by kernel_rfl) rfl (by kernel_rfl) (by kernel_rfl) (by have h0 := hcp1; simp only [List.length_append, List.length_cons, List.length_nil] at h0; omega) ?_
                  refine ge_batch [4] (ans := []) (vs := [(4, .slice Z1 l0.length cz1)]) (l := []) (by kernel_rfl) trivial ?_
                  refine ge_nil fun a hF => hK3 _ _ ?_ a hF
                  have hS9 := hS8.takeN 1
                  obtain rfl := Option.some.inj h
                  exact we_ret (post_ret (rs := [.tmp 4]) (ans := []) (vs := [.slice Z1 l0.length cz1]) (l := []) rfl (by kernel_rfl) trivial ⟨Z1, cz1, rfl, hcp1, hS9⟩)
                · rw [if_neg hc4] at h
                  cases h
              exact go_nomore2
            · rw [if_neg hc3] at h
              cases h
          exact go_nomore2
        exact go_nomore2
      exact go_nomore2
    · rw [if_neg hc2] at h
      cases h
  · rw [if_neg hc1] at h
    cases h
theorem punctualsame_Lend_api_Job_full (l0 : List SJob) (x1 : SJob) {r : List SJob} (h : punctualsame_Lend_api_Job.f l0 x1 = some r) : r = l0 ++ [x1, x1, x1] := by
  unfold punctualsame_Lend_api_Job.f at h
  repeat' split at h
  all_goals first | (exact (Option.some.inj h).symm) | cases h

/-! punctual/punctualsame.Played -/
abbrev punctualsame_Played.Post (w0 : World) (r : Bool) (e : Ending) (w : World) : Prop := e = .returned (.bool r) ∧ St w0 w []
def punctualsame_Played.f (K : Nat) (l0_0 : List Int) (l0_1 : List Int) (l1_0 : List Int) (l1_1 : List Int) : Option Bool :=
  match punctualsame_Same_int.f K l0_0 l1_0 with
  | none => none
  | some r1 =>
    if r1 = true then
      match punctualsame_Same_int.f K l0_1 l1_1 with
      | none => none
      | some r2 =>
        some r2
    else
      some false
theorem punctualsame_Played_ok (K : Nat) (l0_0 : List Int) (A0_0 : Option Addr) (c0_0 : Nat) (l0_1 : List Int) (A0_1 : Option Addr) (c0_1 : Nat) (l1_0 : List Int) (A1_0 : Option Addr) (c1_0 : Nat) (l1_1 : List Int) (A1_1 : Option Addr) (c1_1 : Nat) (w0 : World) (hR0_0 : RdL w0 A0_0 l0_0) (hL0_0 : l0_0.length ≤ c0_0) (hR0_1 : RdL w0 A0_1 l0_1) (hL0_1 : l0_1.length ≤ c0_1) (hR1_0 : RdL w0 A1_0 l1_0) (hL1_0 : l1_0.length ≤ c1_0) (hR1_1 : RdL w0 A1_1 l1_1) (hL1_1 : l1_1.length ≤ c1_1) (r : Bool) (h : punctualsame_Played.f K l0_0 l0_1 l1_0 l1_1 = some r) :
    Calls Tryd.prog 37 #[.agg #[.slice A0_0 l0_0.length c0_0, .slice A0_1 l0_1.length c0_1], .agg #[.slice A1_0 l1_0.length c1_0, .slice A1_1 l1_1.length c1_1]] w0 (punctualsame_Played.Post w0 r) := by
  have hS := St.start w0
  unfold punctualsame_Played.f at h
  refine calls_enter (n := 17) (args := [.agg #[.slice A0_0 l0_0.length c0_0, .slice A0_1 l0_1.length c0_1], .agg #[.slice A1_0 l1_0.length c1_0, .slice A1_1 l1_1.length c1_1]]) (fn := Tryd.f37) rfl rfl rfl rfl ?_
  show WE _ _ _ _ [(0, .agg #[.slice A0_0 l0_0.length c0_0, .slice A0_1 l0_1.length c0_1]), (1, .agg #[.slice A1_0 l1_0.length c1_0, .slice A1_1 l1_1.length c1_1])] _
  refine we_seq fun K1 hK1 => ?_
  refine we_region [(0, 1), (1, 1), (2, 0)] rfl ?_
  refine ge_new (d := some 2) (o := .cells #[.slice A0_0 l0_0.length c0_0, .slice A0_1 l0_1.length c0_1] 32) (v := fun b => .pointer (some ⟨b, 0, none⟩)) hS (fun b => by kernel_rfl) fun b1 w1 hx1 hS1 => ?_
  refine ge_new (d := some 3) (o := .cells #[.slice A1_0 l1_0.length c1_0, .slice A1_1 l1_1.length c1_1] 32) (v := fun b => .pointer (some ⟨b, 0, none⟩)) hS1 (fun b => by kernel_rfl) fun b2 w2 hx2 hS2 => ?_
  refine ge_batch [2] (ans := []) (vs := [(4, .bool false)]) (l := []) (by kernel_rfl) trivial ?_
  refine ge_nil fun a hF => hK1 _ _ ?_ a hF
  refine we_seq fun K2 hK2 => ?_
  refine we_region [(0, 0), (1, 0), (2, 0), (3, 0), (4, 1), (5, 0), (6, 0), (7, 0), (8, 0), (9, 0), (10, 1), (11, 0), (12, 0)] rfl ?_
  rcases hq1 : punctualsame_Same_int.f K l0_0 l1_0 with _ | r1
  · rw [hq1] at h; cases h
  rw [hq1] at h
  simp only [] at h
  refine ge_batch [0, 1, 2, 3] (ans := [.val (.slice A0_0 l0_0.length c0_0), .val (.slice A1_0 l1_0.length c1_0)]) (vs := [(8, .slice A1_0 l1_0.length c1_0), (7, .pointer (some ⟨b2, 0, none⟩)), (6, .slice A0_0 l0_0.length c0_0), (5, .pointer (some ⟨b1, 0, none⟩))]) (l := [.loaded ⟨b1, 0, none⟩ (.slice A0_0 l0_0.length c0_0), .loaded ⟨b2, 0, none⟩ (.slice A1_0 l1_0.length c1_0)]) (by kernel_rfl) ⟨hS2.cell 1 rfl rfl, hS2.cell 0 rfl rfl, trivial⟩ ?_
  refine ge_call (d := some 9) (f := 12) (args := #[.slice A0_0 l0_0.length c0_0, .slice A1_0 l1_0.length c1_0]) (by kernel_rfl) (punctualsame_Same_int_ok K l0_0 A0_0 c0_0 l1_0 A1_0 c1_0 _ (hS2.rd hR0_0) hL0_0 (hS2.rd hR1_0) hL1_0 _ hq1) ?_
  rintro _ w3 ⟨rfl, hS3⟩
  refine ⟨_, rfl, hS3.below, ?_⟩
  have hS4 := hS2.call hS3
  refine ge_batch [5] (ans := []) (vs := [(10, .bool r1)]) (l := []) (by kernel_rfl) trivial ?_
  by_cases hc1 : r1 = true
  · rw [if_pos hc1] at h
    refine ge_known (t := 10) (b := r1) (c := true) (by kernel_rfl) hc1 ?_
    rcases hq2 : punctualsame_Same_int.f K l0_1 l1_1 with _ | r2
    · rw [hq2] at h; cases h
    rw [hq2] at h
    simp only [] at h
    refine ge_batch [6, 7, 8, 9] (ans := [.val (.slice A0_1 l0_1.length c0_1), .val (.slice A1_1 l1_1.length c1_1)]) (vs := [(14, .slice A1_1 l1_1.length c1_1), (13, .pointer (some ⟨b2, 1, none⟩)), (12, .slice A0_1 l0_1.length c0_1), (11, .pointer (some ⟨b1, 1, none⟩))]) (l := [.loaded ⟨b1, 1, none⟩ (.slice A0_1 l0_1.length c0_1), .loaded ⟨b2, 1, none⟩ (.slice A1_1 l1_1.length c1_1)]) (by kernel_rfl) ⟨hS4.cell 1 rfl rfl, hS4.cell 0 rfl rfl, trivial⟩ ?_
    refine ge_call (d := some 15) (f := 12) (args := #[.slice A0_1 l0_1.length c0_1, .slice A1_1 l1_1.length c1_1]) (by kernel_rfl) (punctualsame_Same_int_ok K l0_1 A0_1 c0_1 l1_1 A1_1 c1_1 _ (hS4.rd hR0_1) hL0_1 (hS4.rd hR1_1) hL1_1 _ hq2) ?_
    rintro _ w4 ⟨rfl, hS5⟩
    refine ⟨_, rfl, hS5.below, ?_⟩
    have hS6 := hS4.call hS5
    refine ge_batch [11, 12] (ans := []) (vs := [(4, .bool r2), (16, .bool r2)]) (l := []) (by kernel_rfl) trivial ?_
    refine ge_nil fun a hF => hK2 _ _ ?_ a hF
    have hS7 := hS6.takeN 0
    obtain rfl := Option.some.inj h
    exact we_ret (post_ret (rs := [.tmp 4]) (ans := []) (vs := [.bool r2]) (l := []) rfl (by kernel_rfl) trivial ⟨rfl, hS7⟩)
  · rw [if_neg hc1] at h
    refine ge_known (t := 10) (b := r1) (c := false) (by kernel_rfl) (Bool.eq_false_iff.2 hc1) ?_
    refine ge_batch [6, 7, 8, 9] (ans := []) (vs := [(14, undef), (13, undef), (12, undef), (11, undef)]) (l := []) (by kernel_rfl) trivial ?_
    refine ge_off rfl rfl rfl (by kernel_rfl) ?_
    refine ge_batch [11, 12] (ans := []) (vs := [(4, .bool false), (16, .bool false)]) (l := []) (by kernel_rfl) trivial ?_
    refine ge_nil fun a hF => hK2 _ _ ?_ a hF
    have hS8 := hS4.takeN 0
    obtain rfl := Option.some.inj h
    exact we_ret (post_ret (rs := [.tmp 4]) (ans := []) (vs := [.bool false]) (l := []) rfl (by kernel_rfl) trivial ⟨rfl, hS8⟩)
end Go.Proofs.YtlipdmblinjjaaaDoor.GV
