/- Walks of single functions, written by a program of this work. -/
import Derived.Test.YtlipdmblinjjaaaDoorGWTasksComes1
namespace Go.Proofs.YtlipdmblinjjaaaDoor.GV
open Go Go.RowKit
set_option linter.unusedVariables false
set_option linter.unusedSimpArgs false
set_option maxRecDepth 100000

/-! slices.symMergeCmpFunc[punctual/api.Come] -/
abbrev slices_symMergeCmpFunc_api_Come.Post (w0 : World) (l0 : List SCome) (A0 : Option Addr) (c0 : Nat) (x1 : Int) (x2 : Int) (x3 : Int) (LT : List Own) (r : List SCome) (e : Ending) (w : World) : Prop := e = .returned (.tuple #[]) ∧ l0.length = r.length ∧ St w0 w [Own.of (.slice A0 r.length c0) 53 r, Own.all LT]
def slices_symMergeCmpFunc_api_Come.r0 (l0 : List SCome) (x1 : Int) : Int × Int → Option ((Int × Int) ⊕ (Int ⊕ (List SCome)))
  | (z1, z2) =>
    if z1 < z2 then
      if 0 ≤ (IntKind.i64.wrap (Int.fdiv (IntKind.u64.wrap (IntKind.i64.wrap (z1 + z2))) (2 ^ 1))) then
        match l0[(IntKind.i64.wrap (Int.fdiv (IntKind.u64.wrap (IntKind.i64.wrap (z1 + z2))) (2 ^ 1))).toNat]? with
        | none => none
        | some e1 =>
          if 0 ≤ x1 then
            match l0[(x1).toNat]? with
            | none => none
            | some e2 =>
              if (tasks_Comes_1.f e1 e2) < 0 then
                some (.inl (IntKind.i64.wrap ((IntKind.i64.wrap (Int.fdiv (IntKind.u64.wrap (IntKind.i64.wrap (z1 + z2))) (2 ^ 1))) + 1), z2))
              else
                some (.inl (z1, IntKind.i64.wrap (Int.fdiv (IntKind.u64.wrap (IntKind.i64.wrap (z1 + z2))) (2 ^ 1))))
          else
            none
      else
        none
    else
      some (.inr (.inl z1))
def slices_symMergeCmpFunc_api_Come.r1 (z4 : Int) : Int × (List SCome) → Option ((Int × (List SCome)) ⊕ ((List SCome) ⊕ (List SCome)))
  | (z5, m1) =>
    if z5 < (IntKind.i64.wrap (z4 - 1)) then
      if 0 ≤ (IntKind.i64.wrap (z5 + 1)) then
        match m1[(IntKind.i64.wrap (z5 + 1)).toNat]? with
        | none => none
        | some e3 =>
          if 0 ≤ z5 then
            match m1[(z5).toNat]? with
            | none => none
            | some e4 =>
              match (m1.set ((z5).toNat) e3)[(IntKind.i64.wrap (z5 + 1)).toNat]? with
              | none => none
              | some e5 =>
                some (.inl (IntKind.i64.wrap (z5 + 1), ((m1.set ((z5).toNat) e3).set ((IntKind.i64.wrap (z5 + 1)).toNat) e4)))
          else
            none
      else
        none
    else
      some (.inr (.inl m1))
def slices_symMergeCmpFunc_api_Come.r2 (l0 : List SCome) (x2 : Int) : Int × Int → Option ((Int × Int) ⊕ (Int ⊕ (List SCome)))
  | (z6, z7) =>
    if z6 < z7 then
      if 0 ≤ x2 then
        match l0[(x2).toNat]? with
        | none => none
        | some e6 =>
          if 0 ≤ (IntKind.i64.wrap (Int.fdiv (IntKind.u64.wrap (IntKind.i64.wrap (z6 + z7))) (2 ^ 1))) then
            match l0[(IntKind.i64.wrap (Int.fdiv (IntKind.u64.wrap (IntKind.i64.wrap (z6 + z7))) (2 ^ 1))).toNat]? with
            | none => none
            | some e7 =>
              if (tasks_Comes_1.f e6 e7) < 0 then
                some (.inl (z6, IntKind.i64.wrap (Int.fdiv (IntKind.u64.wrap (IntKind.i64.wrap (z6 + z7))) (2 ^ 1))))
              else
                some (.inl (IntKind.i64.wrap ((IntKind.i64.wrap (Int.fdiv (IntKind.u64.wrap (IntKind.i64.wrap (z6 + z7))) (2 ^ 1))) + 1), z7))
          else
            none
      else
        none
    else
      some (.inr (.inl z6))
def slices_symMergeCmpFunc_api_Come.r3 (z9 : Int) : Int × (List SCome) → Option ((Int × (List SCome)) ⊕ ((List SCome) ⊕ (List SCome)))
  | (z10, m4) =>
    if z10 > z9 then
      if 0 ≤ (IntKind.i64.wrap (z10 - 1)) then
        match m4[(IntKind.i64.wrap (z10 - 1)).toNat]? with
        | none => none
        | some e8 =>
          if 0 ≤ z10 then
            match m4[(z10).toNat]? with
            | none => none
            | some e9 =>
              match (m4.set ((z10).toNat) e8)[(IntKind.i64.wrap (z10 - 1)).toNat]? with
              | none => none
              | some e10 =>
                some (.inl (IntKind.i64.wrap (z10 - 1), ((m4.set ((z10).toNat) e8).set ((IntKind.i64.wrap (z10 - 1)).toNat) e9)))
          else
            none
      else
        none
    else
      some (.inr (.inl m4))
def slices_symMergeCmpFunc_api_Come.p4 (x1 : Int) (x2 : Int) (x3 : Int) : Option ((Int × Int) ⊕ (List SCome)) :=
    if x2 > (IntKind.i64.wrap (Int.fdiv (IntKind.u64.wrap (IntKind.i64.wrap (x1 + x3))) (2 ^ 1))) then
      some (.inl (IntKind.i64.wrap ((IntKind.i64.wrap ((IntKind.i64.wrap (Int.fdiv (IntKind.u64.wrap (IntKind.i64.wrap (x1 + x3))) (2 ^ 1))) + x2)) - x3), IntKind.i64.wrap (Int.fdiv (IntKind.u64.wrap (IntKind.i64.wrap (x1 + x3))) (2 ^ 1))))
    else
      some (.inl (x1, x2))
def slices_symMergeCmpFunc_api_Come.r5 (l0 : List SCome) (x1 : Int) (x2 : Int) (x3 : Int) : Int × Int → Option ((Int × Int) ⊕ (Int ⊕ (List SCome)))
  | (z15, z16) =>
    if z15 < z16 then
      if 0 ≤ (IntKind.i64.wrap ((IntKind.i64.wrap ((IntKind.i64.wrap ((IntKind.i64.wrap (Int.fdiv (IntKind.u64.wrap (IntKind.i64.wrap (x1 + x3))) (2 ^ 1))) + x2)) - 1)) - (IntKind.i64.wrap (Int.fdiv (IntKind.u64.wrap (IntKind.i64.wrap (z15 + z16))) (2 ^ 1))))) then
        match l0[(IntKind.i64.wrap ((IntKind.i64.wrap ((IntKind.i64.wrap ((IntKind.i64.wrap (Int.fdiv (IntKind.u64.wrap (IntKind.i64.wrap (x1 + x3))) (2 ^ 1))) + x2)) - 1)) - (IntKind.i64.wrap (Int.fdiv (IntKind.u64.wrap (IntKind.i64.wrap (z15 + z16))) (2 ^ 1))))).toNat]? with
        | none => none
        | some e11 =>
          if 0 ≤ (IntKind.i64.wrap (Int.fdiv (IntKind.u64.wrap (IntKind.i64.wrap (z15 + z16))) (2 ^ 1))) then
            match l0[(IntKind.i64.wrap (Int.fdiv (IntKind.u64.wrap (IntKind.i64.wrap (z15 + z16))) (2 ^ 1))).toNat]? with
            | none => none
            | some e12 =>
              if (tasks_Comes_1.f e11 e12) < 0 then
                some (.inl (z15, IntKind.i64.wrap (Int.fdiv (IntKind.u64.wrap (IntKind.i64.wrap (z15 + z16))) (2 ^ 1))))
              else
                some (.inl (IntKind.i64.wrap ((IntKind.i64.wrap (Int.fdiv (IntKind.u64.wrap (IntKind.i64.wrap (z15 + z16))) (2 ^ 1))) + 1), z16))
          else
            none
      else
        none
    else
      some (.inr (.inl z15))
def slices_symMergeCmpFunc_api_Come.p6 (K : Nat) (l0 : List SCome) (x1 : Int) (x2 : Int) (x3 : Int) (z18 : Int) : Option ((List SCome) ⊕ (List SCome)) :=
    if z18 < x2 then
      if x2 < (IntKind.i64.wrap ((IntKind.i64.wrap ((IntKind.i64.wrap (Int.fdiv (IntKind.u64.wrap (IntKind.i64.wrap (x1 + x3))) (2 ^ 1))) + x2)) - z18)) then
        match slices_rotateCmpFunc_api_Come.f K l0 z18 x2 (IntKind.i64.wrap ((IntKind.i64.wrap ((IntKind.i64.wrap (Int.fdiv (IntKind.u64.wrap (IntKind.i64.wrap (x1 + x3))) (2 ^ 1))) + x2)) - z18)) with
        | none => none
        | some r1 =>
          some (.inl r1)
      else
        some (.inl l0)
    else
      some (.inl l0)
def slices_symMergeCmpFunc_api_Come.b (K : Nat) (recf : (List SCome) → Int → Int → Int → Option (List SCome)) (l0 : List SCome) (x1 : Int) (x2 : Int) (x3 : Int) : Option (List SCome) :=
  if (IntKind.i64.wrap (x2 - x1)) = 1 then
    match iter (slices_symMergeCmpFunc_api_Come.r0 l0 x1) K (x2, x3) with
    | none => none
    | some (.inl z4) =>
      match iter (slices_symMergeCmpFunc_api_Come.r1 z4) K (x1, l0) with
      | none => none
      | some (.inl m3) =>
        some m3
      | some (.inr rr1) =>
        some rr1
    | some (.inr rr2) =>
      some rr2
  else
    if (IntKind.i64.wrap (x3 - x2)) = 1 then
      match iter (slices_symMergeCmpFunc_api_Come.r2 l0 x2) K (x1, x2) with
      | none => none
      | some (.inl z9) =>
        match iter (slices_symMergeCmpFunc_api_Come.r3 z9) K (x2, l0) with
        | none => none
        | some (.inl m6) =>
          some m6
        | some (.inr rr3) =>
          some rr3
      | some (.inr rr4) =>
        some rr4
    else
      match slices_symMergeCmpFunc_api_Come.p4 x1 x2 x3 with
      | none => none
      | some (.inl (z13, z14)) =>
        match iter (slices_symMergeCmpFunc_api_Come.r5 l0 x1 x2 x3) K (z13, z14) with
        | none => none
        | some (.inl z18) =>
          match slices_symMergeCmpFunc_api_Come.p6 K l0 x1 x2 x3 z18 with
          | none => none
          | some (.inl m8) =>
            if x1 < z18 then
              if z18 < (IntKind.i64.wrap (Int.fdiv (IntKind.u64.wrap (IntKind.i64.wrap (x1 + x3))) (2 ^ 1))) then
                match recf m8 x1 z18 (IntKind.i64.wrap (Int.fdiv (IntKind.u64.wrap (IntKind.i64.wrap (x1 + x3))) (2 ^ 1))) with
                | none => none
                | some r2 =>
                  if (IntKind.i64.wrap (Int.fdiv (IntKind.u64.wrap (IntKind.i64.wrap (x1 + x3))) (2 ^ 1))) < (IntKind.i64.wrap ((IntKind.i64.wrap ((IntKind.i64.wrap (Int.fdiv (IntKind.u64.wrap (IntKind.i64.wrap (x1 + x3))) (2 ^ 1))) + x2)) - z18)) then
                    if (IntKind.i64.wrap ((IntKind.i64.wrap ((IntKind.i64.wrap (Int.fdiv (IntKind.u64.wrap (IntKind.i64.wrap (x1 + x3))) (2 ^ 1))) + x2)) - z18)) < x3 then
                      match recf r2 (IntKind.i64.wrap (Int.fdiv (IntKind.u64.wrap (IntKind.i64.wrap (x1 + x3))) (2 ^ 1))) (IntKind.i64.wrap ((IntKind.i64.wrap ((IntKind.i64.wrap (Int.fdiv (IntKind.u64.wrap (IntKind.i64.wrap (x1 + x3))) (2 ^ 1))) + x2)) - z18)) x3 with
                      | none => none
                      | some r3 =>
                        some r3
                    else
                      some r2
                  else
                    some r2
              else
                if (IntKind.i64.wrap (Int.fdiv (IntKind.u64.wrap (IntKind.i64.wrap (x1 + x3))) (2 ^ 1))) < (IntKind.i64.wrap ((IntKind.i64.wrap ((IntKind.i64.wrap (Int.fdiv (IntKind.u64.wrap (IntKind.i64.wrap (x1 + x3))) (2 ^ 1))) + x2)) - z18)) then
                  if (IntKind.i64.wrap ((IntKind.i64.wrap ((IntKind.i64.wrap (Int.fdiv (IntKind.u64.wrap (IntKind.i64.wrap (x1 + x3))) (2 ^ 1))) + x2)) - z18)) < x3 then
                    match recf m8 (IntKind.i64.wrap (Int.fdiv (IntKind.u64.wrap (IntKind.i64.wrap (x1 + x3))) (2 ^ 1))) (IntKind.i64.wrap ((IntKind.i64.wrap ((IntKind.i64.wrap (Int.fdiv (IntKind.u64.wrap (IntKind.i64.wrap (x1 + x3))) (2 ^ 1))) + x2)) - z18)) x3 with
                    | none => none
                    | some r4 =>
                      some r4
                  else
                    some m8
                else
                  some m8
            else
              if (IntKind.i64.wrap (Int.fdiv (IntKind.u64.wrap (IntKind.i64.wrap (x1 + x3))) (2 ^ 1))) < (IntKind.i64.wrap ((IntKind.i64.wrap ((IntKind.i64.wrap (Int.fdiv (IntKind.u64.wrap (IntKind.i64.wrap (x1 + x3))) (2 ^ 1))) + x2)) - z18)) then
                if (IntKind.i64.wrap ((IntKind.i64.wrap ((IntKind.i64.wrap (Int.fdiv (IntKind.u64.wrap (IntKind.i64.wrap (x1 + x3))) (2 ^ 1))) + x2)) - z18)) < x3 then
                  match recf m8 (IntKind.i64.wrap (Int.fdiv (IntKind.u64.wrap (IntKind.i64.wrap (x1 + x3))) (2 ^ 1))) (IntKind.i64.wrap ((IntKind.i64.wrap ((IntKind.i64.wrap (Int.fdiv (IntKind.u64.wrap (IntKind.i64.wrap (x1 + x3))) (2 ^ 1))) + x2)) - z18)) x3 with
                  | none => none
                  | some r5 =>
                    some r5
                else
                  some m8
              else
                some m8
          | some (.inr rr5) =>
            some rr5
        | some (.inr rr6) =>
          some rr6
      | some (.inr rr7) =>
        some rr7
abbrev slices_symMergeCmpFunc_api_Come.A0 (K : Nat) (w0 : World) (l0 : List SCome) (A0 : Option Addr) (c0 : Nat) (x1 : Int) (x2 : Int) (x3 : Int) (LT : List Own) (recf : (List SCome) → Int → Int → Int → Option (List SCome)) (hrec : ∀ (l0 : List SCome) (A0 : Option Addr) (c0 : Nat) (x1 : Int) (x2 : Int) (x3 : Int) (w0 wE : World) (LT : List Own) (hS : St w0 wE [Own.of (.slice A0 l0.length c0) 53 l0, Own.all LT]) (r : List SCome) (h : recf l0 x1 x2 x3 = some r), Calls Tryd.prog 106 #[(.slice A0 l0.length c0), .int .i64 x1, .int .i64 x2, .int .i64 x3, .func (.func 79) #[] #[]] wE (slices_symMergeCmpFunc_api_Come.Post w0 l0 A0 c0 x1 x2 x3 LT r)) (hc1 : (IntKind.i64.wrap (x2 - x1)) = 1) : (Int × Int) → Act → World → Prop := fun (s : Int × Int) a w => St w0 w [Own.of (.slice A0 l0.length c0) 53 l0, Own.all LT] ∧ Frm 220 a [(0, (.slice A0 l0.length c0)), (1, .int .i64 x1), (4, .func (.func 79) #[] #[]), (10, .int .i64 s.1), (11, .int .i64 s.2)]
abbrev slices_symMergeCmpFunc_api_Come.B0 (K : Nat) (w0 : World) (l0 : List SCome) (A0 : Option Addr) (c0 : Nat) (x1 : Int) (x2 : Int) (x3 : Int) (LT : List Own) (recf : (List SCome) → Int → Int → Int → Option (List SCome)) (hrec : ∀ (l0 : List SCome) (A0 : Option Addr) (c0 : Nat) (x1 : Int) (x2 : Int) (x3 : Int) (w0 wE : World) (LT : List Own) (hS : St w0 wE [Own.of (.slice A0 l0.length c0) 53 l0, Own.all LT]) (r : List SCome) (h : recf l0 x1 x2 x3 = some r), Calls Tryd.prog 106 #[(.slice A0 l0.length c0), .int .i64 x1, .int .i64 x2, .int .i64 x3, .func (.func 79) #[] #[]] wE (slices_symMergeCmpFunc_api_Come.Post w0 l0 A0 c0 x1 x2 x3 LT r)) (hc1 : (IntKind.i64.wrap (x2 - x1)) = 1) : (Int ⊕ (List SCome)) → Exit → Act → World → Prop := Exits 0 (fun (s : Int) a w => St w0 w [Own.of (.slice A0 l0.length c0) 53 l0, Own.all LT] ∧ Frm 220 a [(0, (.slice A0 l0.length c0)), (1, .int .i64 x1), (4, .func (.func 79) #[] #[]), (10, .int .i64 s)]) (Rets Tryd.prog Tryd.f106 (slices_symMergeCmpFunc_api_Come.Post w0 l0 A0 c0 x1 x2 x3 LT))
theorem slices_symMergeCmpFunc_api_Come_r0 (K : Nat) (w0 : World) (l0 : List SCome) (A0 : Option Addr) (c0 : Nat) (x1 : Int) (x2 : Int) (x3 : Int) (LT : List Own) (recf : (List SCome) → Int → Int → Int → Option (List SCome)) (hrec : ∀ (l0 : List SCome) (A0 : Option Addr) (c0 : Nat) (x1 : Int) (x2 : Int) (x3 : Int) (w0 wE : World) (LT : List Own) (hS : St w0 wE [Own.of (.slice A0 l0.length c0) 53 l0, Own.all LT]) (r : List SCome) (h : recf l0 x1 x2 x3 = some r), Calls Tryd.prog 106 #[(.slice A0 l0.length c0), .int .i64 x1, .int .i64 x2, .int .i64 x3, .func (.func 79) #[] #[]] wE (slices_symMergeCmpFunc_api_Come.Post w0 l0 A0 c0 x1 x2 x3 LT r)) (hc1 : (IntKind.i64.wrap (x2 - x1)) = 1) (s : Int × Int) (o : (Int × Int) ⊕ (Int ⊕ (List SCome))) (h : slices_symMergeCmpFunc_api_Come.r0 l0 x1 s = some o) (a : Act) (w : World) (hA : slices_symMergeCmpFunc_api_Come.A0 K w0 l0 A0 c0 x1 x2 x3 LT recf hrec hc1 s a w) (Q : Exit → Act → World → Prop) (hQ : ∀ x a w, Outs (slices_symMergeCmpFunc_api_Come.A0 K w0 l0 A0 c0 x1 x2 x3 LT recf hrec hc1) (slices_symMergeCmpFunc_api_Come.B0 K w0 l0 A0 c0 x1 x2 x3 LT recf hrec hc1) o x a w → Q x a w) : (subF Tryd.f106 [0, 1, 0, 1, 1, 0, 0, 0]).wp Tryd.prog Q a w := by
  obtain ⟨z1, z2⟩ := s
  obtain ⟨hS, hF⟩ := hA
  replace hS : St w0 w [Own.of (.slice A0 l0.length c0) 53 l0, Own.all LT] := hS
  simp only [slices_symMergeCmpFunc_api_Come.r0] at h
  refine (?_ : WE Tryd.prog 220 (subF Tryd.f106 [0, 1, 0, 1, 1, 0, 0, 0]) Q [(0, (.slice A0 l0.length c0)), (1, .int .i64 x1), (4, .func (.func 79) #[] #[]), (10, .int .i64 z1), (11, .int .i64 z2)] w) a hF
  clear hF a
  refine we_seq fun K6 hK6 => ?_
  refine we_seq fun K7 hK7 => ?_
  refine we_region [(0, 0), (1, 0), (2, 0)] rfl ?_
  refine ge_batch [0, 1, 2] (ans := []) (vs := [(33, .bool (decide (z1 < z2))), (32, .int .i64 z2), (31, .int .i64 z1)]) (l := []) (by kernel_rfl) trivial ?_
  refine ge_nil fun a hF => hK7 _ _ ?_ a hF
  by_cases hc2 : z1 < z2
  · rw [if_pos hc2] at h
    refine we_known (t := 33) (b := decide (z1 < z2)) (v := true) (by kernel_rfl) (decide_eq_true hc2) ?_
    refine we_true (by kernel_rfl) ?_
    refine we_skip fun a hF => hK6 _ _ ?_ a hF
    refine we_block ?_
    refine we_seq fun K8 hK8 => ?_
    refine we_region [(0, 0), (1, 0), (2, 0), (3, 0), (4, 0), (5, 0), (6, 0)] rfl ?_
    refine ge_batch [0, 1, 2, 3, 4, 5, 6] (ans := []) (vs := [(12, .int .i64 (IntKind.i64.wrap (Int.fdiv (IntKind.u64.wrap (IntKind.i64.wrap (z1 + z2))) (2 ^ 1)))), (39, .int .i64 (IntKind.i64.wrap (Int.fdiv (IntKind.u64.wrap (IntKind.i64.wrap (z1 + z2))) (2 ^ 1)))), (38, .int .u64 (Int.fdiv (IntKind.u64.wrap (IntKind.i64.wrap (z1 + z2))) (2 ^ 1))), (37, .int .u64 (IntKind.u64.wrap (IntKind.i64.wrap (z1 + z2)))), (36, .int .i64 (IntKind.i64.wrap (z1 + z2))), (35, .int .i64 z2), (34, .int .i64 z1)]) (l := []) (by kernel_rfl) trivial ?_
    refine ge_nil fun a hF => hK8 _ _ ?_ a hF
    refine we_seq fun K9 hK9 => ?_
    refine we_draws (by kernel_rfl) [(0, 0), (1, 0), (2, 0), (3, 0), (4, 0), (5, 0), (6, 0), (7, 0), (8, 0), (9, 1), (10, 0)] (by kernel_rfl) ?_
    have hS3 := hS.drew
    refine ge_batch [0, 1, 2] (ans := []) (vs := [(42, .int .i64 (IntKind.i64.wrap (Int.fdiv (IntKind.u64.wrap (IntKind.i64.wrap (z1 + z2))) (2 ^ 1)))), (41, (.slice A0 l0.length c0)), (40, .func (.func 79) #[] #[])]) (l := []) (by kernel_rfl) trivial ?_
    by_cases hc3 : 0 ≤ (IntKind.i64.wrap (Int.fdiv (IntKind.u64.wrap (IntKind.i64.wrap (z1 + z2))) (2 ^ 1)))
    · rw [if_pos hc3] at h
      rcases hx1 : l0[(IntKind.i64.wrap (Int.fdiv (IntKind.u64.wrap (IntKind.i64.wrap (z1 + z2))) (2 ^ 1))).toNat]? with _ | e1
      · rw [hx1] at h; cases h
      rw [hx1] at h
      simp only [] at h
      refine ge_index (d := 43) (ty := 0) (t := 49) (el := 53) (sz := 2) (m := l0.length) (c := c0) (x := (.tmp 41)) (y := (.tmp 42)) (A := A0) (k' := .i64) (j := (IntKind.i64.wrap (Int.fdiv (IntKind.u64.wrap (IntKind.i64.wrap (z1 + z2))) (2 ^ 1)))) (jn := ((IntKind.i64.wrap (Int.fdiv (IntKind.u64.wrap (IntKind.i64.wrap (z1 + z2))) (2 ^ 1))).toNat)) (b0 := blkOf A0) (o0 := offOf A0) (by kernel_rfl) (by kernel_rfl) (by kernel_rfl) (by kernel_rfl) (by kernel_rfl) ((hS3.rdAt 0 rfl).eqSome (pos_of_get hx1)) (Int.toNat_of_nonneg hc3).symm (lt_of_get hx1) ?_
      refine ge_batch [4, 5, 6] (ans := [.val (.int .i64 e1.Task), .val (.int .i64 e1.At)]) (vs := [(46, .int .i64 x1), (45, (.slice A0 l0.length c0)), (44, .agg #[.int .i64 e1.Task, .int .i64 e1.At])]) (l := [.loaded ⟨blkOf A0, offOf A0 + ((IntKind.i64.wrap (Int.fdiv (IntKind.u64.wrap (IntKind.i64.wrap (z1 + z2))) (2 ^ 1))).toNat) * 2, none⟩ (.int .i64 e1.Task), .loaded ⟨blkOf A0, offOf A0 + ((IntKind.i64.wrap (Int.fdiv (IntKind.u64.wrap (IntKind.i64.wrap (z1 + z2))) (2 ^ 1))).toNat) * 2 + 1, none⟩ (.int .i64 e1.At)]) (by kernel_rfl) ⟨RdL.cell (j := 0) (hS3.rdAt 0 rfl) hx1 rfl, RdL.cell (j := 1) (hS3.rdAt 0 rfl) hx1 rfl, trivial⟩ ?_
      by_cases hc4 : 0 ≤ x1
      · rw [if_pos hc4] at h
        rcases hx2 : l0[(x1).toNat]? with _ | e2
        · rw [hx2] at h; cases h
        rw [hx2] at h
        simp only [] at h
        refine ge_index (d := 47) (ty := 0) (t := 49) (el := 53) (sz := 2) (m := l0.length) (c := c0) (x := (.tmp 45)) (y := (.tmp 46)) (A := A0) (k' := .i64) (j := x1) (jn := ((x1).toNat)) (b0 := blkOf A0) (o0 := offOf A0) (by kernel_rfl) (by kernel_rfl) (by kernel_rfl) (by kernel_rfl) (by kernel_rfl) ((hS3.rdAt 0 rfl).eqSome (pos_of_get hx2)) (Int.toNat_of_nonneg hc4).symm (lt_of_get hx2) ?_
        refine ge_batch [8] (ans := [.val (.int .i64 e2.Task), .val (.int .i64 e2.At)]) (vs := [(48, .agg #[.int .i64 e2.Task, .int .i64 e2.At])]) (l := [.loaded ⟨blkOf A0, offOf A0 + ((x1).toNat) * 2, none⟩ (.int .i64 e2.Task), .loaded ⟨blkOf A0, offOf A0 + ((x1).toNat) * 2 + 1, none⟩ (.int .i64 e2.At)]) (by kernel_rfl) ⟨RdL.cell (j := 0) (hS3.rdAt 0 rfl) hx2 rfl, RdL.cell (j := 1) (hS3.rdAt 0 rfl) hx2 rfl, trivial⟩ ?_
        refine ge_call (d := some 49) (f := 79) (args := #[.agg #[.int .i64 e1.Task, .int .i64 e1.At], .agg #[.int .i64 e2.Task, .int .i64 e2.At]]) (by kernel_rfl) (tasks_Comes_1_ok e1 e2 _ _ rfl) ?_
        rintro _ w1 ⟨rfl, hS4⟩
        refine ⟨_, rfl, hS4.below, ?_⟩
        have hS5 := hS3.call hS4
        refine ge_batch [10] (ans := []) (vs := [(50, .bool (decide ((tasks_Comes_1.f e1 e2) < 0)))]) (l := []) (by kernel_rfl) trivial ?_
        refine ge_nil fun a hF => hK9 _ _ ?_ a hF
        by_cases hc5 : (tasks_Comes_1.f e1 e2) < 0
        · rw [if_pos hc5] at h
          refine we_known (t := 50) (b := decide ((tasks_Comes_1.f e1 e2) < 0)) (v := true) (by kernel_rfl) (decide_eq_true hc5) ?_
          refine we_true (by kernel_rfl) ?_
          refine we_region [(0, 0), (1, 0), (2, 0)] rfl ?_
          refine ge_batch [0, 1, 2] (ans := []) (vs := [(10, .int .i64 (IntKind.i64.wrap ((IntKind.i64.wrap (Int.fdiv (IntKind.u64.wrap (IntKind.i64.wrap (z1 + z2))) (2 ^ 1))) + 1))), (52, .int .i64 (IntKind.i64.wrap ((IntKind.i64.wrap (Int.fdiv (IntKind.u64.wrap (IntKind.i64.wrap (z1 + z2))) (2 ^ 1))) + 1))), (51, .int .i64 (IntKind.i64.wrap (Int.fdiv (IntKind.u64.wrap (IntKind.i64.wrap (z1 + z2))) (2 ^ 1))))]) (l := []) (by kernel_rfl) trivial ?_
          have hS6 := hS5.bring 1 rfl
          have hS7 := hS6.bring 1 rfl
          obtain rfl := Option.some.inj h
          exact ge_nil fun a hF => hQ _ _ _ (Outs.again ⟨hS7, hF.weaken ⟨by kernel_rfl, by kernel_rfl, by kernel_rfl, by kernel_rfl, by kernel_rfl, trivial⟩⟩)
        · rw [if_neg hc5] at h
          refine we_known (t := 50) (b := decide ((tasks_Comes_1.f e1 e2) < 0)) (v := false) (by kernel_rfl) (decide_eq_false hc5) ?_
          refine we_false (by kernel_rfl) ?_
          refine we_region [(0, 0), (1, 0)] rfl ?_
          refine ge_batch [0, 1] (ans := []) (vs := [(11, .int .i64 (IntKind.i64.wrap (Int.fdiv (IntKind.u64.wrap (IntKind.i64.wrap (z1 + z2))) (2 ^ 1)))), (53, .int .i64 (IntKind.i64.wrap (Int.fdiv (IntKind.u64.wrap (IntKind.i64.wrap (z1 + z2))) (2 ^ 1))))]) (l := []) (by kernel_rfl) trivial ?_
          have hS8 := hS5.bring 1 rfl
          have hS9 := hS8.bring 1 rfl
          obtain rfl := Option.some.inj h
          exact ge_nil fun a hF => hQ _ _ _ (Outs.again ⟨hS9, hF.weaken ⟨by kernel_rfl, by kernel_rfl, by kernel_rfl, by kernel_rfl, by kernel_rfl, trivial⟩⟩)
      · rw [if_neg hc4] at h
        cases h
    · rw [if_neg hc3] at h
      cases h
  · rw [if_neg hc2] at h
    refine we_known (t := 33) (b := decide (z1 < z2)) (v := false) (by kernel_rfl) (decide_eq_false hc2) ?_
    refine we_false (by kernel_rfl) ?_
    have hS10 := hS.bring 1 rfl
    have hS11 := hS10.bring 1 rfl
    obtain rfl := Option.some.inj h
    exact we_exit fun a hF => hQ _ _ _ (Outs.out nofun (Exits.here ⟨hS11, hF.weaken ⟨by kernel_rfl, by kernel_rfl, by kernel_rfl, by kernel_rfl, trivial⟩⟩))
abbrev slices_symMergeCmpFunc_api_Come.A1 (K : Nat) (w0 : World) (l0 : List SCome) (A0 : Option Addr) (c0 : Nat) (x1 : Int) (x2 : Int) (x3 : Int) (LT : List Own) (recf : (List SCome) → Int → Int → Int → Option (List SCome)) (hrec : ∀ (l0 : List SCome) (A0 : Option Addr) (c0 : Nat) (x1 : Int) (x2 : Int) (x3 : Int) (w0 wE : World) (LT : List Own) (hS : St w0 wE [Own.of (.slice A0 l0.length c0) 53 l0, Own.all LT]) (r : List SCome) (h : recf l0 x1 x2 x3 = some r), Calls Tryd.prog 106 #[(.slice A0 l0.length c0), .int .i64 x1, .int .i64 x2, .int .i64 x3, .func (.func 79) #[] #[]] wE (slices_symMergeCmpFunc_api_Come.Post w0 l0 A0 c0 x1 x2 x3 LT r)) (hc1 : (IntKind.i64.wrap (x2 - x1)) = 1) (z4 : Int) : (Int × (List SCome)) → Act → World → Prop := fun (s : Int × (List SCome)) a w => l0.length = s.2.length ∧ St w0 w [Own.of (.slice A0 s.2.length c0) 53 s.2, Own.all LT] ∧ Frm 220 a [(0, (.slice A0 s.2.length c0)), (4, .func (.func 79) #[] #[]), (10, .int .i64 z4), (13, .int .i64 s.1)]
abbrev slices_symMergeCmpFunc_api_Come.B1 (K : Nat) (w0 : World) (l0 : List SCome) (A0 : Option Addr) (c0 : Nat) (x1 : Int) (x2 : Int) (x3 : Int) (LT : List Own) (recf : (List SCome) → Int → Int → Int → Option (List SCome)) (hrec : ∀ (l0 : List SCome) (A0 : Option Addr) (c0 : Nat) (x1 : Int) (x2 : Int) (x3 : Int) (w0 wE : World) (LT : List Own) (hS : St w0 wE [Own.of (.slice A0 l0.length c0) 53 l0, Own.all LT]) (r : List SCome) (h : recf l0 x1 x2 x3 = some r), Calls Tryd.prog 106 #[(.slice A0 l0.length c0), .int .i64 x1, .int .i64 x2, .int .i64 x3, .func (.func 79) #[] #[]] wE (slices_symMergeCmpFunc_api_Come.Post w0 l0 A0 c0 x1 x2 x3 LT r)) (hc1 : (IntKind.i64.wrap (x2 - x1)) = 1) (z4 : Int) : ((List SCome) ⊕ (List SCome)) → Exit → Act → World → Prop := Exits 2 (fun (s : (List SCome)) a w => l0.length = s.length ∧ St w0 w [Own.of (.slice A0 s.length c0) 53 s, Own.all LT] ∧ Frm 220 a [(0, (.slice A0 s.length c0)), (4, .func (.func 79) #[] #[])]) (Rets Tryd.prog Tryd.f106 (slices_symMergeCmpFunc_api_Come.Post w0 l0 A0 c0 x1 x2 x3 LT))
theorem slices_symMergeCmpFunc_api_Come_r1 (K : Nat) (w0 : World) (l0 : List SCome) (A0 : Option Addr) (c0 : Nat) (x1 : Int) (x2 : Int) (x3 : Int) (LT : List Own) (recf : (List SCome) → Int → Int → Int → Option (List SCome)) (hrec : ∀ (l0 : List SCome) (A0 : Option Addr) (c0 : Nat) (x1 : Int) (x2 : Int) (x3 : Int) (w0 wE : World) (LT : List Own) (hS : St w0 wE [Own.of (.slice A0 l0.length c0) 53 l0, Own.all LT]) (r : List SCome) (h : recf l0 x1 x2 x3 = some r), Calls Tryd.prog 106 #[(.slice A0 l0.length c0), .int .i64 x1, .int .i64 x2, .int .i64 x3, .func (.func 79) #[] #[]] wE (slices_symMergeCmpFunc_api_Come.Post w0 l0 A0 c0 x1 x2 x3 LT r)) (hc1 : (IntKind.i64.wrap (x2 - x1)) = 1) (z4 : Int) (s : Int × (List SCome)) (o : (Int × (List SCome)) ⊕ ((List SCome) ⊕ (List SCome))) (h : slices_symMergeCmpFunc_api_Come.r1 z4 s = some o) (a : Act) (w : World) (hA : slices_symMergeCmpFunc_api_Come.A1 K w0 l0 A0 c0 x1 x2 x3 LT recf hrec hc1 z4 s a w) (Q : Exit → Act → World → Prop) (hQ : ∀ x a w, Outs (slices_symMergeCmpFunc_api_Come.A1 K w0 l0 A0 c0 x1 x2 x3 LT recf hrec hc1 z4) (slices_symMergeCmpFunc_api_Come.B1 K w0 l0 A0 c0 x1 x2 x3 LT recf hrec hc1 z4) o x a w → Q x a w) : (subF Tryd.f106 [0, 1, 0, 1, 1, 1, 0, 1, 0, 0]).wp Tryd.prog Q a w := by
  obtain ⟨z5, m1⟩ := s
  obtain ⟨hLio1, hS, hF⟩ := hA
  replace hS : St w0 w [Own.of (.slice A0 m1.length c0) 53 m1, Own.all LT] := hS
  simp only [slices_symMergeCmpFunc_api_Come.r1] at h
  refine (?_ : WE Tryd.prog 220 (subF Tryd.f106 [0, 1, 0, 1, 1, 1, 0, 1, 0, 0]) Q [(0, (.slice A0 m1.length c0)), (4, .func (.func 79) #[] #[]), (10, .int .i64 z4), (13, .int .i64 z5)] w) a hF
  clear hF a
  refine we_seq fun K12 hK12 => ?_
  refine we_seq fun K13 hK13 => ?_
  refine we_region [(0, 0), (1, 0), (2, 0), (3, 0)] rfl ?_
  refine ge_batch [0, 1, 2, 3] (ans := []) (vs := [(58, .bool (decide (z5 < (IntKind.i64.wrap (z4 - 1))))), (57, .int .i64 (IntKind.i64.wrap (z4 - 1))), (56, .int .i64 z4), (55, .int .i64 z5)]) (l := []) (by kernel_rfl) trivial ?_
  refine ge_nil fun a hF => hK13 _ _ ?_ a hF
  by_cases hc6 : z5 < (IntKind.i64.wrap (z4 - 1))
  · rw [if_pos hc6] at h
    refine we_known (t := 58) (b := decide (z5 < (IntKind.i64.wrap (z4 - 1)))) (v := true) (by kernel_rfl) (decide_eq_true hc6) ?_
    refine we_true (by kernel_rfl) ?_
    refine we_skip fun a hF => hK12 _ _ ?_ a hF
    refine we_seq fun K14 hK14 => ?_
    refine we_block ?_
    refine we_orders2 (by kernel_rfl) [(9, [⟨blkOf A0, offOf A0 + ((IntKind.i64.wrap (z5 + 1)).toNat) * 2, none⟩, ⟨blkOf A0, offOf A0 + ((IntKind.i64.wrap (z5 + 1)).toNat) * 2 + 1, none⟩]), (13, [⟨blkOf A0, offOf A0 + ((z5).toNat) * 2, none⟩, ⟨blkOf A0, offOf A0 + ((z5).toNat) * 2 + 1, none⟩])] (.vals [0] (.vals [1] (.vals [2] (.vals [3] (.vals [4] (.vals [5] (.vals [6] (.vals [7] (.vals [8] (.vals [9] (.vals [10] (.vals [11] (.vals [12] (.vals [13] (.vals [14] (.alt 15 2 (.vals [16] (.alt 17 2 .fin .nomore)) .nomore)))))))))))))))) (by kernel_rfl) ?_
    have hS15 := hS.drew
    refine go2_batch [0, 1, 2, 3, 4, 5, 6, 7] (ans := []) (vs := [(68, .int .i64 (IntKind.i64.wrap (z5 + 1))), (67, .int .i64 z5), (66, (.slice A0 m1.length c0)), (65, .int .i64 (IntKind.i64.wrap (z5 + 1))), (64, .int .i64 z5), (63, (.slice A0 m1.length c0)), (62, .int .i64 z5), (61, (.slice A0 m1.length c0))]) (l := []) (by kernel_rfl) trivial mem_nil ?_
    by_cases hc7 : 0 ≤ (IntKind.i64.wrap (z5 + 1))
    · rw [if_pos hc7] at h
      rcases hx3 : m1[(IntKind.i64.wrap (z5 + 1)).toNat]? with _ | e3
      · rw [hx3] at h; cases h
      rw [hx3] at h
      simp only [] at h
      refine go2_index (d := 69) (ty := 0) (t := 49) (el := 53) (sz := 2) (m := m1.length) (c := c0) (x := (.tmp 66)) (y := (.tmp 68)) (A := A0) (k' := .i64) (j := (IntKind.i64.wrap (z5 + 1))) (jn := ((IntKind.i64.wrap (z5 + 1)).toNat)) (b0 := blkOf A0) (o0 := offOf A0) (by kernel_rfl) (by kernel_rfl) (by kernel_rfl) (by kernel_rfl) (by kernel_rfl) ((hS15.rdAt 0 rfl).eqSome (pos_of_get hx3)) (Int.toNat_of_nonneg hc7).symm (lt_of_get hx3) ?_
      refine go2_batch [9] (ans := [.val (.int .i64 e3.Task), .val (.int .i64 e3.At)]) (vs := [(70, .agg #[.int .i64 e3.Task, .int .i64 e3.At])]) (l := [.loaded ⟨blkOf A0, offOf A0 + ((IntKind.i64.wrap (z5 + 1)).toNat) * 2, none⟩ (.int .i64 e3.Task), .loaded ⟨blkOf A0, offOf A0 + ((IntKind.i64.wrap (z5 + 1)).toNat) * 2 + 1, none⟩ (.int .i64 e3.At)]) (by kernel_rfl) ⟨RdL.cell (j := 0) (hS15.rdAt 0 rfl) hx3 rfl, RdL.cell (j := 1) (hS15.rdAt 0 rfl) hx3 rfl, trivial⟩ (mem_one (by kernel_rfl)) ?_
      refine go2_batch [10, 11] (ans := []) (vs := [(72, .int .i64 z5), (71, (.slice A0 m1.length c0))]) (l := []) (by kernel_rfl) trivial mem_nil ?_
      by_cases hc8 : 0 ≤ z5
      · rw [if_pos hc8] at h
        rcases hx4 : m1[(z5).toNat]? with _ | e4
        · rw [hx4] at h; cases h
        rw [hx4] at h
        simp only [] at h
        refine go2_index (d := 73) (ty := 0) (t := 49) (el := 53) (sz := 2) (m := m1.length) (c := c0) (x := (.tmp 71)) (y := (.tmp 72)) (A := A0) (k' := .i64) (j := z5) (jn := ((z5).toNat)) (b0 := blkOf A0) (o0 := offOf A0) (by kernel_rfl) (by kernel_rfl) (by kernel_rfl) (by kernel_rfl) (by kernel_rfl) ((hS15.rdAt 0 rfl).eqSome (pos_of_get hx4)) (Int.toNat_of_nonneg hc8).symm (lt_of_get hx4) ?_
        refine go2_batch [13] (ans := [.val (.int .i64 e4.Task), .val (.int .i64 e4.At)]) (vs := [(74, .agg #[.int .i64 e4.Task, .int .i64 e4.At])]) (l := [.loaded ⟨blkOf A0, offOf A0 + ((z5).toNat) * 2, none⟩ (.int .i64 e4.Task), .loaded ⟨blkOf A0, offOf A0 + ((z5).toNat) * 2 + 1, none⟩ (.int .i64 e4.At)]) (by kernel_rfl) ⟨RdL.cell (j := 0) (hS15.rdAt 0 rfl) hx4 rfl, RdL.cell (j := 1) (hS15.rdAt 0 rfl) hx4 rfl, trivial⟩ (mem_one (by kernel_rfl)) ?_
        refine go2_index (d := 75) (ty := 0) (t := 49) (el := 53) (sz := 2) (m := m1.length) (c := c0) (x := (.tmp 61)) (y := (.tmp 62)) (A := A0) (k' := .i64) (j := z5) (jn := ((z5).toNat)) (b0 := blkOf A0) (o0 := offOf A0) (by kernel_rfl) (by kernel_rfl) (by kernel_rfl) (by kernel_rfl) (by kernel_rfl) ((hS15.rdAt 0 rfl).eqSome (pos_of_get hx4)) (Int.toNat_of_nonneg hc8).symm (lt_of_get hx4) ?_
        refine go_alt2 (fun KK hKK => ?_) ?_
        · refine ge_seti (α := SCome) (A := A0) (nn := m1.length) (c := c0) (t := 53) (l := m1) (x := e4) (x' := e3) (jn := ((z5).toNat)) (j := 0) (vs := [.int .i64 e3.Task, .int .i64 e3.At]) (l' := [.stored ⟨blkOf A0, offOf A0 + ((z5).toNat) * 2, none⟩ (.int .i64 e3.Task), .stored ⟨blkOf A0, offOf A0 + ((z5).toNat) * 2 + 1, none⟩ (.int .i64 e3.At)]) hS15 (by kernel_rfl) (by kernel_rfl) hx4 rfl rfl rfl fun w3 hS16 => ?_
          have hS17 : St w0 w3 [Own.of (.slice A0 m1.length c0) 53 (m1.set ((z5).toNat) e3), Own.all LT] := hS16
          have hE1 : m1.length = (m1.set ((z5).toNat) e3).length := hS17.lenAt 0 rfl
          have hS18 : St w0 w3 [Own.of (.slice A0 (m1.set ((z5).toNat) e3).length c0) 53 (m1.set ((z5).toNat) e3), Own.all LT] := by rw [← hE1]; exact hS17
          refine ge_same (t := 0) (v := (.slice A0 m1.length c0)) (v' := (.slice A0 (m1.set ((z5).toNat) e3).length c0)) (by kernel_rfl) (by rw [hE1]) ?_
          refine ge_same (t := 61) (v := (.slice A0 m1.length c0)) (v' := (.slice A0 (m1.set ((z5).toNat) e3).length c0)) (by kernel_rfl) (by rw [hE1]) ?_
          refine ge_same (t := 63) (v := (.slice A0 m1.length c0)) (v' := (.slice A0 (m1.set ((z5).toNat) e3).length c0)) (by kernel_rfl) (by rw [hE1]) ?_
          refine ge_same (t := 66) (v := (.slice A0 m1.length c0)) (v' := (.slice A0 (m1.set ((z5).toNat) e3).length c0)) (by kernel_rfl) (by rw [hE1]) ?_
          refine ge_same (t := 71) (v := (.slice A0 m1.length c0)) (v' := (.slice A0 (m1.set ((z5).toNat) e3).length c0)) (by kernel_rfl) (by rw [hE1]) ?_
          refine ge_nil fun a hF => hKK _ _ (RS.of2 (l := []) (by kernel_rfl) trivial trivial) ?_ a hF
          rcases hx5 : (m1.set ((z5).toNat) e3)[(IntKind.i64.wrap (z5 + 1)).toNat]? with _ | e5
          · rw [hx5] at h; cases h
          rw [hx5] at h
          simp only [] at h
          refine go2_index (d := 76) (ty := 0) (t := 49) (el := 53) (sz := 2) (m := (m1.set ((z5).toNat) e3).length) (c := c0) (x := (.tmp 63)) (y := (.tmp 65)) (A := A0) (k' := .i64) (j := (IntKind.i64.wrap (z5 + 1))) (jn := ((IntKind.i64.wrap (z5 + 1)).toNat)) (b0 := blkOf A0) (o0 := offOf A0) (by kernel_rfl) (by kernel_rfl) (by kernel_rfl) (by kernel_rfl) (by kernel_rfl) ((hS18.rdAt 0 rfl).eqSome (pos_of_get hx5)) (Int.toNat_of_nonneg hc7).symm (lt_of_get hx5) ?_
          refine go_alt2 (fun KK hKK => ?_) ?_
          · refine ge_seti (α := SCome) (A := A0) (nn := ((m1.set ((z5).toNat) e3).length)) (c := c0) (t := 53) (l := (m1.set ((z5).toNat) e3)) (x := e5) (x' := e4) (jn := ((IntKind.i64.wrap (z5 + 1)).toNat)) (j := 0) (vs := [.int .i64 e4.Task, .int .i64 e4.At]) (l' := [.stored ⟨blkOf A0, offOf A0 + ((IntKind.i64.wrap (z5 + 1)).toNat) * 2, none⟩ (.int .i64 e4.Task), .stored ⟨blkOf A0, offOf A0 + ((IntKind.i64.wrap (z5 + 1)).toNat) * 2 + 1, none⟩ (.int .i64 e4.At)]) hS18 (by kernel_rfl) (by kernel_rfl) hx5 rfl rfl rfl fun w4 hS19 => ?_
            have hS20 : St w0 w4 [Own.of (.slice A0 (m1.set ((z5).toNat) e3).length c0) 53 ((m1.set ((z5).toNat) e3).set ((IntKind.i64.wrap (z5 + 1)).toNat) e4), Own.all LT] := hS19
            have hE2 : (m1.set ((z5).toNat) e3).length = ((m1.set ((z5).toNat) e3).set ((IntKind.i64.wrap (z5 + 1)).toNat) e4).length := hS20.lenAt 0 rfl
            have hS21 : St w0 w4 [Own.of (.slice A0 ((m1.set ((z5).toNat) e3).set ((IntKind.i64.wrap (z5 + 1)).toNat) e4).length c0) 53 ((m1.set ((z5).toNat) e3).set ((IntKind.i64.wrap (z5 + 1)).toNat) e4), Own.all LT] := by rw [← hE2]; exact hS20
            refine ge_same (t := 0) (v := (.slice A0 (m1.set ((z5).toNat) e3).length c0)) (v' := (.slice A0 ((m1.set ((z5).toNat) e3).set ((IntKind.i64.wrap (z5 + 1)).toNat) e4).length c0)) (by kernel_rfl) (by rw [hE2]) ?_
            refine ge_same (t := 61) (v := (.slice A0 (m1.set ((z5).toNat) e3).length c0)) (v' := (.slice A0 ((m1.set ((z5).toNat) e3).set ((IntKind.i64.wrap (z5 + 1)).toNat) e4).length c0)) (by kernel_rfl) (by rw [hE2]) ?_
            refine ge_same (t := 63) (v := (.slice A0 (m1.set ((z5).toNat) e3).length c0)) (v' := (.slice A0 ((m1.set ((z5).toNat) e3).set ((IntKind.i64.wrap (z5 + 1)).toNat) e4).length c0)) (by kernel_rfl) (by rw [hE2]) ?_
            refine ge_same (t := 66) (v := (.slice A0 (m1.set ((z5).toNat) e3).length c0)) (v' := (.slice A0 ((m1.set ((z5).toNat) e3).set ((IntKind.i64.wrap (z5 + 1)).toNat) e4).length c0)) (by kernel_rfl) (by rw [hE2]) ?_
            refine ge_same (t := 71) (v := (.slice A0 (m1.set ((z5).toNat) e3).length c0)) (v' := (.slice A0 ((m1.set ((z5).toNat) e3).set ((IntKind.i64.wrap (z5 + 1)).toNat) e4).length c0)) (by kernel_rfl) (by rw [hE2]) ?_
            refine ge_nil fun a hF => hKK _ _ (RS.of2 (l := []) (by kernel_rfl) trivial trivial) ?_ a hF
            refine go_fin2 fun a hF => hK14 _ _ ?_ a hF
            refine we_region [(0, 0), (1, 0), (2, 0)] rfl ?_
            refine ge_batch [0, 1, 2] (ans := []) (vs := [(13, .int .i64 (IntKind.i64.wrap (z5 + 1))), (60, .int .i64 (IntKind.i64.wrap (z5 + 1))), (59, .int .i64 z5)]) (l := []) (by kernel_rfl) trivial ?_
            have hS22 := hS21.bring 1 rfl
            have hS23 := hS22.bring 1 rfl
            obtain rfl := Option.some.inj h
            exact ge_nil fun a hF => hQ _ _ _ (Outs.again ⟨(Eq.trans hLio1 (by simp only [List.length_set])), hS23, hF.weaken ⟨by kernel_rfl, by kernel_rfl, by kernel_rfl, by kernel_rfl, trivial⟩⟩)
          exact go_nomore2
        exact go_nomore2
      · rw [if_neg hc8] at h
        cases h
    · rw [if_neg hc7] at h
      cases h
  · rw [if_neg hc6] at h
    refine we_known (t := 58) (b := decide (z5 < (IntKind.i64.wrap (z4 - 1)))) (v := false) (by kernel_rfl) (decide_eq_false hc6) ?_
    refine we_false (by kernel_rfl) ?_
    have hS24 := hS.bring 1 rfl
    have hS25 := hS24.bring 1 rfl
    obtain rfl := Option.some.inj h
    exact we_exit fun a hF => hQ _ _ _ (Outs.out nofun (Exits.here ⟨hLio1, hS25, hF.weaken ⟨by kernel_rfl, by kernel_rfl, trivial⟩⟩))
abbrev slices_symMergeCmpFunc_api_Come.A2 (K : Nat) (w0 : World) (l0 : List SCome) (A0 : Option Addr) (c0 : Nat) (x1 : Int) (x2 : Int) (x3 : Int) (LT : List Own) (recf : (List SCome) → Int → Int → Int → Option (List SCome)) (hrec : ∀ (l0 : List SCome) (A0 : Option Addr) (c0 : Nat) (x1 : Int) (x2 : Int) (x3 : Int) (w0 wE : World) (LT : List Own) (hS : St w0 wE [Own.of (.slice A0 l0.length c0) 53 l0, Own.all LT]) (r : List SCome) (h : recf l0 x1 x2 x3 = some r), Calls Tryd.prog 106 #[(.slice A0 l0.length c0), .int .i64 x1, .int .i64 x2, .int .i64 x3, .func (.func 79) #[] #[]] wE (slices_symMergeCmpFunc_api_Come.Post w0 l0 A0 c0 x1 x2 x3 LT r)) (hc1 : ¬ ((IntKind.i64.wrap (x2 - x1)) = 1)) (hc9 : (IntKind.i64.wrap (x3 - x2)) = 1) : (Int × Int) → Act → World → Prop := fun (s : Int × Int) a w => St w0 w [Own.of (.slice A0 l0.length c0) 53 l0, Own.all LT] ∧ Frm 220 a [(0, (.slice A0 l0.length c0)), (2, .int .i64 x2), (4, .func (.func 79) #[] #[]), (14, .int .i64 s.1), (15, .int .i64 s.2)]
abbrev slices_symMergeCmpFunc_api_Come.B2 (K : Nat) (w0 : World) (l0 : List SCome) (A0 : Option Addr) (c0 : Nat) (x1 : Int) (x2 : Int) (x3 : Int) (LT : List Own) (recf : (List SCome) → Int → Int → Int → Option (List SCome)) (hrec : ∀ (l0 : List SCome) (A0 : Option Addr) (c0 : Nat) (x1 : Int) (x2 : Int) (x3 : Int) (w0 wE : World) (LT : List Own) (hS : St w0 wE [Own.of (.slice A0 l0.length c0) 53 l0, Own.all LT]) (r : List SCome) (h : recf l0 x1 x2 x3 = some r), Calls Tryd.prog 106 #[(.slice A0 l0.length c0), .int .i64 x1, .int .i64 x2, .int .i64 x3, .func (.func 79) #[] #[]] wE (slices_symMergeCmpFunc_api_Come.Post w0 l0 A0 c0 x1 x2 x3 LT r)) (hc1 : ¬ ((IntKind.i64.wrap (x2 - x1)) = 1)) (hc9 : (IntKind.i64.wrap (x3 - x2)) = 1) : (Int ⊕ (List SCome)) → Exit → Act → World → Prop := Exits 4 (fun (s : Int) a w => St w0 w [Own.of (.slice A0 l0.length c0) 53 l0, Own.all LT] ∧ Frm 220 a [(0, (.slice A0 l0.length c0)), (2, .int .i64 x2), (4, .func (.func 79) #[] #[]), (14, .int .i64 s)]) (Rets Tryd.prog Tryd.f106 (slices_symMergeCmpFunc_api_Come.Post w0 l0 A0 c0 x1 x2 x3 LT))
theorem slices_symMergeCmpFunc_api_Come_r2 (K : Nat) (w0 : World) (l0 : List SCome) (A0 : Option Addr) (c0 : Nat) (x1 : Int) (x2 : Int) (x3 : Int) (LT : List Own) (recf : (List SCome) → Int → Int → Int → Option (List SCome)) (hrec : ∀ (l0 : List SCome) (A0 : Option Addr) (c0 : Nat) (x1 : Int) (x2 : Int) (x3 : Int) (w0 wE : World) (LT : List Own) (hS : St w0 wE [Own.of (.slice A0 l0.length c0) 53 l0, Own.all LT]) (r : List SCome) (h : recf l0 x1 x2 x3 = some r), Calls Tryd.prog 106 #[(.slice A0 l0.length c0), .int .i64 x1, .int .i64 x2, .int .i64 x3, .func (.func 79) #[] #[]] wE (slices_symMergeCmpFunc_api_Come.Post w0 l0 A0 c0 x1 x2 x3 LT r)) (hc1 : ¬ ((IntKind.i64.wrap (x2 - x1)) = 1)) (hc9 : (IntKind.i64.wrap (x3 - x2)) = 1) (s : Int × Int) (o : (Int × Int) ⊕ (Int ⊕ (List SCome))) (h : slices_symMergeCmpFunc_api_Come.r2 l0 x2 s = some o) (a : Act) (w : World) (hA : slices_symMergeCmpFunc_api_Come.A2 K w0 l0 A0 c0 x1 x2 x3 LT recf hrec hc1 hc9 s a w) (Q : Exit → Act → World → Prop) (hQ : ∀ x a w, Outs (slices_symMergeCmpFunc_api_Come.A2 K w0 l0 A0 c0 x1 x2 x3 LT recf hrec hc1 hc9) (slices_symMergeCmpFunc_api_Come.B2 K w0 l0 A0 c0 x1 x2 x3 LT recf hrec hc1 hc9) o x a w → Q x a w) : (subF Tryd.f106 [1, 0, 1, 0, 1, 1, 0, 0, 0]).wp Tryd.prog Q a w := by
  obtain ⟨z6, z7⟩ := s
  obtain ⟨hS, hF⟩ := hA
  replace hS : St w0 w [Own.of (.slice A0 l0.length c0) 53 l0, Own.all LT] := hS
  simp only [slices_symMergeCmpFunc_api_Come.r2] at h
  refine (?_ : WE Tryd.prog 220 (subF Tryd.f106 [1, 0, 1, 0, 1, 1, 0, 0, 0]) Q [(0, (.slice A0 l0.length c0)), (2, .int .i64 x2), (4, .func (.func 79) #[] #[]), (14, .int .i64 z6), (15, .int .i64 z7)] w) a hF
  clear hF a
  refine we_seq fun K20 hK20 => ?_
  refine we_seq fun K21 hK21 => ?_
  refine we_region [(0, 0), (1, 0), (2, 0)] rfl ?_
  refine ge_batch [0, 1, 2] (ans := []) (vs := [(85, .bool (decide (z6 < z7))), (84, .int .i64 z7), (83, .int .i64 z6)]) (l := []) (by kernel_rfl) trivial ?_
  refine ge_nil fun a hF => hK21 _ _ ?_ a hF
  by_cases hc10 : z6 < z7
  · rw [if_pos hc10] at h
    refine we_known (t := 85) (b := decide (z6 < z7)) (v := true) (by kernel_rfl) (decide_eq_true hc10) ?_
    refine we_true (by kernel_rfl) ?_
    refine we_skip fun a hF => hK20 _ _ ?_ a hF
    refine we_block ?_
    refine we_seq fun K22 hK22 => ?_
    refine we_region [(0, 0), (1, 0), (2, 0), (3, 0), (4, 0), (5, 0), (6, 0)] rfl ?_
    refine ge_batch [0, 1, 2, 3, 4, 5, 6] (ans := []) (vs := [(16, .int .i64 (IntKind.i64.wrap (Int.fdiv (IntKind.u64.wrap (IntKind.i64.wrap (z6 + z7))) (2 ^ 1)))), (91, .int .i64 (IntKind.i64.wrap (Int.fdiv (IntKind.u64.wrap (IntKind.i64.wrap (z6 + z7))) (2 ^ 1)))), (90, .int .u64 (Int.fdiv (IntKind.u64.wrap (IntKind.i64.wrap (z6 + z7))) (2 ^ 1))), (89, .int .u64 (IntKind.u64.wrap (IntKind.i64.wrap (z6 + z7)))), (88, .int .i64 (IntKind.i64.wrap (z6 + z7))), (87, .int .i64 z7), (86, .int .i64 z6)]) (l := []) (by kernel_rfl) trivial ?_
    refine ge_nil fun a hF => hK22 _ _ ?_ a hF
    refine we_seq fun K23 hK23 => ?_
    refine we_draws (by kernel_rfl) [(0, 0), (1, 0), (2, 0), (3, 0), (4, 0), (5, 0), (6, 0), (7, 0), (8, 0), (9, 1), (10, 0), (11, 0)] (by kernel_rfl) ?_
    have hS31 := hS.drew
    refine ge_batch [0, 1, 2] (ans := []) (vs := [(94, .int .i64 x2), (93, (.slice A0 l0.length c0)), (92, .func (.func 79) #[] #[])]) (l := []) (by kernel_rfl) trivial ?_
    by_cases hc11 : 0 ≤ x2
    · rw [if_pos hc11] at h
      rcases hx6 : l0[(x2).toNat]? with _ | e6
      · rw [hx6] at h; cases h
      rw [hx6] at h
      simp only [] at h
      refine ge_index (d := 95) (ty := 0) (t := 49) (el := 53) (sz := 2) (m := l0.length) (c := c0) (x := (.tmp 93)) (y := (.tmp 94)) (A := A0) (k' := .i64) (j := x2) (jn := ((x2).toNat)) (b0 := blkOf A0) (o0 := offOf A0) (by kernel_rfl) (by kernel_rfl) (by kernel_rfl) (by kernel_rfl) (by kernel_rfl) ((hS31.rdAt 0 rfl).eqSome (pos_of_get hx6)) (Int.toNat_of_nonneg hc11).symm (lt_of_get hx6) ?_
      refine ge_batch [4, 5, 6] (ans := [.val (.int .i64 e6.Task), .val (.int .i64 e6.At)]) (vs := [(98, .int .i64 (IntKind.i64.wrap (Int.fdiv (IntKind.u64.wrap (IntKind.i64.wrap (z6 + z7))) (2 ^ 1)))), (97, (.slice A0 l0.length c0)), (96, .agg #[.int .i64 e6.Task, .int .i64 e6.At])]) (l := [.loaded ⟨blkOf A0, offOf A0 + ((x2).toNat) * 2, none⟩ (.int .i64 e6.Task), .loaded ⟨blkOf A0, offOf A0 + ((x2).toNat) * 2 + 1, none⟩ (.int .i64 e6.At)]) (by kernel_rfl) ⟨RdL.cell (j := 0) (hS31.rdAt 0 rfl) hx6 rfl, RdL.cell (j := 1) (hS31.rdAt 0 rfl) hx6 rfl, trivial⟩ ?_
      by_cases hc12 : 0 ≤ (IntKind.i64.wrap (Int.fdiv (IntKind.u64.wrap (IntKind.i64.wrap (z6 + z7))) (2 ^ 1)))
      · rw [if_pos hc12] at h
        rcases hx7 : l0[(IntKind.i64.wrap (Int.fdiv (IntKind.u64.wrap (IntKind.i64.wrap (z6 + z7))) (2 ^ 1))).toNat]? with _ | e7
        · rw [hx7] at h; cases h
        rw [hx7] at h
        simp only [] at h
        refine ge_index (d := 99) (ty := 0) (t := 49) (el := 53) (sz := 2) (m := l0.length) (c := c0) (x := (.tmp 97)) (y := (.tmp 98)) (A := A0) (k' := .i64) (j := (IntKind.i64.wrap (Int.fdiv (IntKind.u64.wrap (IntKind.i64.wrap (z6 + z7))) (2 ^ 1)))) (jn := ((IntKind.i64.wrap (Int.fdiv (IntKind.u64.wrap (IntKind.i64.wrap (z6 + z7))) (2 ^ 1))).toNat)) (b0 := blkOf A0) (o0 := offOf A0) (by kernel_rfl) (by kernel_rfl) (by kernel_rfl) (by kernel_rfl) (by kernel_rfl) ((hS31.rdAt 0 rfl).eqSome (pos_of_get hx7)) (Int.toNat_of_nonneg hc12).symm (lt_of_get hx7) ?_
        refine ge_batch [8] (ans := [.val (.int .i64 e7.Task), .val (.int .i64 e7.At)]) (vs := [(100, .agg #[.int .i64 e7.Task, .int .i64 e7.At])]) (l := [.loaded ⟨blkOf A0, offOf A0 + ((IntKind.i64.wrap (Int.fdiv (IntKind.u64.wrap (IntKind.i64.wrap (z6 + z7))) (2 ^ 1))).toNat) * 2, none⟩ (.int .i64 e7.Task), .loaded ⟨blkOf A0, offOf A0 + ((IntKind.i64.wrap (Int.fdiv (IntKind.u64.wrap (IntKind.i64.wrap (z6 + z7))) (2 ^ 1))).toNat) * 2 + 1, none⟩ (.int .i64 e7.At)]) (by kernel_rfl) ⟨RdL.cell (j := 0) (hS31.rdAt 0 rfl) hx7 rfl, RdL.cell (j := 1) (hS31.rdAt 0 rfl) hx7 rfl, trivial⟩ ?_
        refine ge_call (d := some 101) (f := 79) (args := #[.agg #[.int .i64 e6.Task, .int .i64 e6.At], .agg #[.int .i64 e7.Task, .int .i64 e7.At]]) (by kernel_rfl) (tasks_Comes_1_ok e6 e7 _ _ rfl) ?_
        rintro _ w6 ⟨rfl, hS32⟩
        refine ⟨_, rfl, hS32.below, ?_⟩
        have hS33 := hS31.call hS32
        refine ge_batch [10, 11] (ans := []) (vs := [(103, .bool (!(decide ((tasks_Comes_1.f e6 e7) < 0)))), (102, .bool (decide ((tasks_Comes_1.f e6 e7) < 0)))]) (l := []) (by kernel_rfl) trivial ?_
        refine ge_nil fun a hF => hK23 _ _ ?_ a hF
        by_cases hc13 : (tasks_Comes_1.f e6 e7) < 0
        · rw [if_pos hc13] at h
          refine we_known (t := 103) (b := !(decide ((tasks_Comes_1.f e6 e7) < 0))) (v := false) (by kernel_rfl) (congrArg (fun z => !z) (decide_eq_true hc13)) ?_
          refine we_false (by kernel_rfl) ?_
          refine we_region [(0, 0), (1, 0)] rfl ?_
          refine ge_batch [0, 1] (ans := []) (vs := [(15, .int .i64 (IntKind.i64.wrap (Int.fdiv (IntKind.u64.wrap (IntKind.i64.wrap (z6 + z7))) (2 ^ 1)))), (106, .int .i64 (IntKind.i64.wrap (Int.fdiv (IntKind.u64.wrap (IntKind.i64.wrap (z6 + z7))) (2 ^ 1))))]) (l := []) (by kernel_rfl) trivial ?_
          have hS34 := hS33.bring 1 rfl
          have hS35 := hS34.bring 1 rfl
          obtain rfl := Option.some.inj h
          exact ge_nil fun a hF => hQ _ _ _ (Outs.again ⟨hS35, hF.weaken ⟨by kernel_rfl, by kernel_rfl, by kernel_rfl, by kernel_rfl, by kernel_rfl, trivial⟩⟩)
        · rw [if_neg hc13] at h
          refine we_known (t := 103) (b := !(decide ((tasks_Comes_1.f e6 e7) < 0))) (v := true) (by kernel_rfl) (congrArg (fun z => !z) (decide_eq_false hc13)) ?_
          refine we_true (by kernel_rfl) ?_
          refine we_region [(0, 0), (1, 0), (2, 0)] rfl ?_
          refine ge_batch [0, 1, 2] (ans := []) (vs := [(14, .int .i64 (IntKind.i64.wrap ((IntKind.i64.wrap (Int.fdiv (IntKind.u64.wrap (IntKind.i64.wrap (z6 + z7))) (2 ^ 1))) + 1))), (105, .int .i64 (IntKind.i64.wrap ((IntKind.i64.wrap (Int.fdiv (IntKind.u64.wrap (IntKind.i64.wrap (z6 + z7))) (2 ^ 1))) + 1))), (104, .int .i64 (IntKind.i64.wrap (Int.fdiv (IntKind.u64.wrap (IntKind.i64.wrap (z6 + z7))) (2 ^ 1))))]) (l := []) (by kernel_rfl) trivial ?_
          have hS36 := hS33.bring 1 rfl
          have hS37 := hS36.bring 1 rfl
          obtain rfl := Option.some.inj h
          exact ge_nil fun a hF => hQ _ _ _ (Outs.again ⟨hS37, hF.weaken ⟨by kernel_rfl, by kernel_rfl, by kernel_rfl, by kernel_rfl, by kernel_rfl, trivial⟩⟩)
      · rw [if_neg hc12] at h
        cases h
    · rw [if_neg hc11] at h
      cases h
  · rw [if_neg hc10] at h
    refine we_known (t := 85) (b := decide (z6 < z7)) (v := false) (by kernel_rfl) (decide_eq_false hc10) ?_
    refine we_false (by kernel_rfl) ?_
    have hS38 := hS.bring 1 rfl
    have hS39 := hS38.bring 1 rfl
    obtain rfl := Option.some.inj h
    exact we_exit fun a hF => hQ _ _ _ (Outs.out nofun (Exits.here ⟨hS39, hF.weaken ⟨by kernel_rfl, by kernel_rfl, by kernel_rfl, by kernel_rfl, trivial⟩⟩))
abbrev slices_symMergeCmpFunc_api_Come.A3 (K : Nat) (w0 : World) (l0 : List SCome) (A0 : Option Addr) (c0 : Nat) (x1 : Int) (x2 : Int) (x3 : Int) (LT : List Own) (recf : (List SCome) → Int → Int → Int → Option (List SCome)) (hrec : ∀ (l0 : List SCome) (A0 : Option Addr) (c0 : Nat) (x1 : Int) (x2 : Int) (x3 : Int) (w0 wE : World) (LT : List Own) (hS : St w0 wE [Own.of (.slice A0 l0.length c0) 53 l0, Own.all LT]) (r : List SCome) (h : recf l0 x1 x2 x3 = some r), Calls Tryd.prog 106 #[(.slice A0 l0.length c0), .int .i64 x1, .int .i64 x2, .int .i64 x3, .func (.func 79) #[] #[]] wE (slices_symMergeCmpFunc_api_Come.Post w0 l0 A0 c0 x1 x2 x3 LT r)) (hc1 : ¬ ((IntKind.i64.wrap (x2 - x1)) = 1)) (hc9 : (IntKind.i64.wrap (x3 - x2)) = 1) (z9 : Int) : (Int × (List SCome)) → Act → World → Prop := fun (s : Int × (List SCome)) a w => l0.length = s.2.length ∧ St w0 w [Own.of (.slice A0 s.2.length c0) 53 s.2, Own.all LT] ∧ Frm 220 a [(0, (.slice A0 s.2.length c0)), (4, .func (.func 79) #[] #[]), (14, .int .i64 z9), (17, .int .i64 s.1)]
abbrev slices_symMergeCmpFunc_api_Come.B3 (K : Nat) (w0 : World) (l0 : List SCome) (A0 : Option Addr) (c0 : Nat) (x1 : Int) (x2 : Int) (x3 : Int) (LT : List Own) (recf : (List SCome) → Int → Int → Int → Option (List SCome)) (hrec : ∀ (l0 : List SCome) (A0 : Option Addr) (c0 : Nat) (x1 : Int) (x2 : Int) (x3 : Int) (w0 wE : World) (LT : List Own) (hS : St w0 wE [Own.of (.slice A0 l0.length c0) 53 l0, Own.all LT]) (r : List SCome) (h : recf l0 x1 x2 x3 = some r), Calls Tryd.prog 106 #[(.slice A0 l0.length c0), .int .i64 x1, .int .i64 x2, .int .i64 x3, .func (.func 79) #[] #[]] wE (slices_symMergeCmpFunc_api_Come.Post w0 l0 A0 c0 x1 x2 x3 LT r)) (hc1 : ¬ ((IntKind.i64.wrap (x2 - x1)) = 1)) (hc9 : (IntKind.i64.wrap (x3 - x2)) = 1) (z9 : Int) : ((List SCome) ⊕ (List SCome)) → Exit → Act → World → Prop := Exits 6 (fun (s : (List SCome)) a w => l0.length = s.length ∧ St w0 w [Own.of (.slice A0 s.length c0) 53 s, Own.all LT] ∧ Frm 220 a [(0, (.slice A0 s.length c0)), (4, .func (.func 79) #[] #[])]) (Rets Tryd.prog Tryd.f106 (slices_symMergeCmpFunc_api_Come.Post w0 l0 A0 c0 x1 x2 x3 LT))
theorem slices_symMergeCmpFunc_api_Come_r3 (K : Nat) (w0 : World) (l0 : List SCome) (A0 : Option Addr) (c0 : Nat) (x1 : Int) (x2 : Int) (x3 : Int) (LT : List Own) (recf : (List SCome) → Int → Int → Int → Option (List SCome)) (hrec : ∀ (l0 : List SCome) (A0 : Option Addr) (c0 : Nat) (x1 : Int) (x2 : Int) (x3 : Int) (w0 wE : World) (LT : List Own) (hS : St w0 wE [Own.of (.slice A0 l0.length c0) 53 l0, Own.all LT]) (r : List SCome) (h : recf l0 x1 x2 x3 = some r), Calls Tryd.prog 106 #[(.slice A0 l0.length c0), .int .i64 x1, .int .i64 x2, .int .i64 x3, .func (.func 79) #[] #[]] wE (slices_symMergeCmpFunc_api_Come.Post w0 l0 A0 c0 x1 x2 x3 LT r)) (hc1 : ¬ ((IntKind.i64.wrap (x2 - x1)) = 1)) (hc9 : (IntKind.i64.wrap (x3 - x2)) = 1) (z9 : Int) (s : Int × (List SCome)) (o : (Int × (List SCome)) ⊕ ((List SCome) ⊕ (List SCome))) (h : slices_symMergeCmpFunc_api_Come.r3 z9 s = some o) (a : Act) (w : World) (hA : slices_symMergeCmpFunc_api_Come.A3 K w0 l0 A0 c0 x1 x2 x3 LT recf hrec hc1 hc9 z9 s a w) (Q : Exit → Act → World → Prop) (hQ : ∀ x a w, Outs (slices_symMergeCmpFunc_api_Come.A3 K w0 l0 A0 c0 x1 x2 x3 LT recf hrec hc1 hc9 z9) (slices_symMergeCmpFunc_api_Come.B3 K w0 l0 A0 c0 x1 x2 x3 LT recf hrec hc1 hc9 z9) o x a w → Q x a w) : (subF Tryd.f106 [1, 0, 1, 0, 1, 1, 1, 0, 1, 0, 0]).wp Tryd.prog Q a w := by
  obtain ⟨z10, m4⟩ := s
  obtain ⟨hLio3, hS, hF⟩ := hA
  replace hS : St w0 w [Own.of (.slice A0 m4.length c0) 53 m4, Own.all LT] := hS
  simp only [slices_symMergeCmpFunc_api_Come.r3] at h
  refine (?_ : WE Tryd.prog 220 (subF Tryd.f106 [1, 0, 1, 0, 1, 1, 1, 0, 1, 0, 0]) Q [(0, (.slice A0 m4.length c0)), (4, .func (.func 79) #[] #[]), (14, .int .i64 z9), (17, .int .i64 z10)] w) a hF
  clear hF a
  refine we_seq fun K26 hK26 => ?_
  refine we_seq fun K27 hK27 => ?_
  refine we_region [(0, 0), (1, 0), (2, 0)] rfl ?_
  refine ge_batch [0, 1, 2] (ans := []) (vs := [(110, .bool (decide (z10 > z9))), (109, .int .i64 z9), (108, .int .i64 z10)]) (l := []) (by kernel_rfl) trivial ?_
  refine ge_nil fun a hF => hK27 _ _ ?_ a hF
  by_cases hc14 : z10 > z9
  · rw [if_pos hc14] at h
    refine we_known (t := 110) (b := decide (z10 > z9)) (v := true) (by kernel_rfl) (decide_eq_true hc14) ?_
    refine we_true (by kernel_rfl) ?_
    refine we_skip fun a hF => hK26 _ _ ?_ a hF
    refine we_seq fun K28 hK28 => ?_
    refine we_block ?_
    refine we_orders2 (by kernel_rfl) [(9, [⟨blkOf A0, offOf A0 + ((IntKind.i64.wrap (z10 - 1)).toNat) * 2, none⟩, ⟨blkOf A0, offOf A0 + ((IntKind.i64.wrap (z10 - 1)).toNat) * 2 + 1, none⟩]), (13, [⟨blkOf A0, offOf A0 + ((z10).toNat) * 2, none⟩, ⟨blkOf A0, offOf A0 + ((z10).toNat) * 2 + 1, none⟩])] (.vals [0] (.vals [1] (.vals [2] (.vals [3] (.vals [4] (.vals [5] (.vals [6] (.vals [7] (.vals [8] (.vals [9] (.vals [10] (.vals [11] (.vals [12] (.vals [13] (.vals [14] (.alt 15 2 (.vals [16] (.alt 17 2 .fin .nomore)) .nomore)))))))))))))))) (by kernel_rfl) ?_
    have hS43 := hS.drew
    refine go2_batch [0, 1, 2, 3, 4, 5, 6, 7] (ans := []) (vs := [(120, .int .i64 (IntKind.i64.wrap (z10 - 1))), (119, .int .i64 z10), (118, (.slice A0 m4.length c0)), (117, .int .i64 (IntKind.i64.wrap (z10 - 1))), (116, .int .i64 z10), (115, (.slice A0 m4.length c0)), (114, .int .i64 z10), (113, (.slice A0 m4.length c0))]) (l := []) (by kernel_rfl) trivial mem_nil ?_
    by_cases hc15 : 0 ≤ (IntKind.i64.wrap (z10 - 1))
    · rw [if_pos hc15] at h
      rcases hx8 : m4[(IntKind.i64.wrap (z10 - 1)).toNat]? with _ | e8
      · rw [hx8] at h; cases h
      rw [hx8] at h
      simp only [] at h
      refine go2_index (d := 121) (ty := 0) (t := 49) (el := 53) (sz := 2) (m := m4.length) (c := c0) (x := (.tmp 118)) (y := (.tmp 120)) (A := A0) (k' := .i64) (j := (IntKind.i64.wrap (z10 - 1))) (jn := ((IntKind.i64.wrap (z10 - 1)).toNat)) (b0 := blkOf A0) (o0 := offOf A0) (by kernel_rfl) (by kernel_rfl) (by kernel_rfl) (by kernel_rfl) (by kernel_rfl) ((hS43.rdAt 0 rfl).eqSome (pos_of_get hx8)) (Int.toNat_of_nonneg hc15).symm (lt_of_get hx8) ?_
      refine go2_batch [9] (ans := [.val (.int .i64 e8.Task), .val (.int .i64 e8.At)]) (vs := [(122, .agg #[.int .i64 e8.Task, .int .i64 e8.At])]) (l := [.loaded ⟨blkOf A0, offOf A0 + ((IntKind.i64.wrap (z10 - 1)).toNat) * 2, none⟩ (.int .i64 e8.Task), .loaded ⟨blkOf A0, offOf A0 + ((IntKind.i64.wrap (z10 - 1)).toNat) * 2 + 1, none⟩ (.int .i64 e8.At)]) (by kernel_rfl) ⟨RdL.cell (j := 0) (hS43.rdAt 0 rfl) hx8 rfl, RdL.cell (j := 1) (hS43.rdAt 0 rfl) hx8 rfl, trivial⟩ (mem_one (by kernel_rfl)) ?_
      refine go2_batch [10, 11] (ans := []) (vs := [(124, .int .i64 z10), (123, (.slice A0 m4.length c0))]) (l := []) (by kernel_rfl) trivial mem_nil ?_
      by_cases hc16 : 0 ≤ z10
      · rw [if_pos hc16] at h
        rcases hx9 : m4[(z10).toNat]? with _ | e9
        · rw [hx9] at h; cases h
        rw [hx9] at h
        simp only [] at h
        refine go2_index (d := 125) (ty := 0) (t := 49) (el := 53) (sz := 2) (m := m4.length) (c := c0) (x := (.tmp 123)) (y := (.tmp 124)) (A := A0) (k' := .i64) (j := z10) (jn := ((z10).toNat)) (b0 := blkOf A0) (o0 := offOf A0) (by kernel_rfl) (by kernel_rfl) (by kernel_rfl) (by kernel_rfl) (by kernel_rfl) ((hS43.rdAt 0 rfl).eqSome (pos_of_get hx9)) (Int.toNat_of_nonneg hc16).symm (lt_of_get hx9) ?_
        refine go2_batch [13] (ans := [.val (.int .i64 e9.Task), .val (.int .i64 e9.At)]) (vs := [(126, .agg #[.int .i64 e9.Task, .int .i64 e9.At])]) (l := [.loaded ⟨blkOf A0, offOf A0 + ((z10).toNat) * 2, none⟩ (.int .i64 e9.Task), .loaded ⟨blkOf A0, offOf A0 + ((z10).toNat) * 2 + 1, none⟩ (.int .i64 e9.At)]) (by kernel_rfl) ⟨RdL.cell (j := 0) (hS43.rdAt 0 rfl) hx9 rfl, RdL.cell (j := 1) (hS43.rdAt 0 rfl) hx9 rfl, trivial⟩ (mem_one (by kernel_rfl)) ?_
        refine go2_index (d := 127) (ty := 0) (t := 49) (el := 53) (sz := 2) (m := m4.length) (c := c0) (x := (.tmp 113)) (y := (.tmp 114)) (A := A0) (k' := .i64) (j := z10) (jn := ((z10).toNat)) (b0 := blkOf A0) (o0 := offOf A0) (by kernel_rfl) (by kernel_rfl) (by kernel_rfl) (by kernel_rfl) (by kernel_rfl) ((hS43.rdAt 0 rfl).eqSome (pos_of_get hx9)) (Int.toNat_of_nonneg hc16).symm (lt_of_get hx9) ?_
        refine go_alt2 (fun KK hKK => ?_) ?_
        · refine ge_seti (α := SCome) (A := A0) (nn := m4.length) (c := c0) (t := 53) (l := m4) (x := e9) (x' := e8) (jn := ((z10).toNat)) (j := 0) (vs := [.int .i64 e8.Task, .int .i64 e8.At]) (l' := [.stored ⟨blkOf A0, offOf A0 + ((z10).toNat) * 2, none⟩ (.int .i64 e8.Task), .stored ⟨blkOf A0, offOf A0 + ((z10).toNat) * 2 + 1, none⟩ (.int .i64 e8.At)]) hS43 (by kernel_rfl) (by kernel_rfl) hx9 rfl rfl rfl fun w8 hS44 => ?_
          have hS45 : St w0 w8 [Own.of (.slice A0 m4.length c0) 53 (m4.set ((z10).toNat) e8), Own.all LT] := hS44
          have hE3 : m4.length = (m4.set ((z10).toNat) e8).length := hS45.lenAt 0 rfl
          have hS46 : St w0 w8 [Own.of (.slice A0 (m4.set ((z10).toNat) e8).length c0) 53 (m4.set ((z10).toNat) e8), Own.all LT] := by rw [← hE3]; exact hS45
          refine ge_same (t := 0) (v := (.slice A0 m4.length c0)) (v' := (.slice A0 (m4.set ((z10).toNat) e8).length c0)) (by kernel_rfl) (by rw [hE3]) ?_
          refine ge_same (t := 113) (v := (.slice A0 m4.length c0)) (v' := (.slice A0 (m4.set ((z10).toNat) e8).length c0)) (by kernel_rfl) (by rw [hE3]) ?_
          refine ge_same (t := 115) (v := (.slice A0 m4.length c0)) (v' := (.slice A0 (m4.set ((z10).toNat) e8).length c0)) (by kernel_rfl) (by rw [hE3]) ?_
          refine ge_same (t := 118) (v := (.slice A0 m4.length c0)) (v' := (.slice A0 (m4.set ((z10).toNat) e8).length c0)) (by kernel_rfl) (by rw [hE3]) ?_
          refine ge_same (t := 123) (v := (.slice A0 m4.length c0)) (v' := (.slice A0 (m4.set ((z10).toNat) e8).length c0)) (by kernel_rfl) (by rw [hE3]) ?_
          refine ge_nil fun a hF => hKK _ _ (RS.of2 (l := []) (by kernel_rfl) trivial trivial) ?_ a hF
          rcases hx10 : (m4.set ((z10).toNat) e8)[(IntKind.i64.wrap (z10 - 1)).toNat]? with _ | e10
          · rw [hx10] at h; cases h
          rw [hx10] at h
          simp only [] at h
          refine go2_index (d := 128) (ty := 0) (t := 49) (el := 53) (sz := 2) (m := (m4.set ((z10).toNat) e8).length) (c := c0) (x := (.tmp 115)) (y := (.tmp 117)) (A := A0) (k' := .i64) (j := (IntKind.i64.wrap (z10 - 1))) (jn := ((IntKind.i64.wrap (z10 - 1)).toNat)) (b0 := blkOf A0) (o0 := offOf A0) (by kernel_rfl) (by kernel_rfl) (by kernel_rfl) (by kernel_rfl) (by kernel_rfl) ((hS46.rdAt 0 rfl).eqSome (pos_of_get hx10)) (Int.toNat_of_nonneg hc15).symm (lt_of_get hx10) ?_
          refine go_alt2 (fun KK hKK => ?_) ?_
          · refine ge_seti (α := SCome) (A := A0) (nn := ((m4.set ((z10).toNat) e8).length)) (c := c0) (t := 53) (l := (m4.set ((z10).toNat) e8)) (x := e10) (x' := e9) (jn := ((IntKind.i64.wrap (z10 - 1)).toNat)) (j := 0) (vs := [.int .i64 e9.Task, .int .i64 e9.At]) (l' := [.stored ⟨blkOf A0, offOf A0 + ((IntKind.i64.wrap (z10 - 1)).toNat) * 2, none⟩ (.int .i64 e9.Task), .stored ⟨blkOf A0, offOf A0 + ((IntKind.i64.wrap (z10 - 1)).toNat) * 2 + 1, none⟩ (.int .i64 e9.At)]) hS46 (by kernel_rfl) (by kernel_rfl) hx10 rfl rfl rfl fun w9 hS47 => ?_
            have hS48 : St w0 w9 [Own.of (.slice A0 (m4.set ((z10).toNat) e8).length c0) 53 ((m4.set ((z10).toNat) e8).set ((IntKind.i64.wrap (z10 - 1)).toNat) e9), Own.all LT] := hS47
            have hE4 : (m4.set ((z10).toNat) e8).length = ((m4.set ((z10).toNat) e8).set ((IntKind.i64.wrap (z10 - 1)).toNat) e9).length := hS48.lenAt 0 rfl
            have hS49 : St w0 w9 [Own.of (.slice A0 ((m4.set ((z10).toNat) e8).set ((IntKind.i64.wrap (z10 - 1)).toNat) e9).length c0) 53 ((m4.set ((z10).toNat) e8).set ((IntKind.i64.wrap (z10 - 1)).toNat) e9), Own.all LT] := by rw [← hE4]; exact hS48
            refine ge_same (t := 0) (v := (.slice A0 (m4.set ((z10).toNat) e8).length c0)) (v' := (.slice A0 ((m4.set ((z10).toNat) e8).set ((IntKind.i64.wrap (z10 - 1)).toNat) e9).length c0)) (by kernel_rfl) (by rw [hE4]) ?_
            refine ge_same (t := 113) (v := (.slice A0 (m4.set ((z10).toNat) e8).length c0)) (v' := (.slice A0 ((m4.set ((z10).toNat) e8).set ((IntKind.i64.wrap (z10 - 1)).toNat) e9).length c0)) (by kernel_rfl) (by rw [hE4]) ?_
            refine ge_same (t := 115) (v := (.slice A0 (m4.set ((z10).toNat) e8).length c0)) (v' := (.slice A0 ((m4.set ((z10).toNat) e8).set ((IntKind.i64.wrap (z10 - 1)).toNat) e9).length c0)) (by kernel_rfl) (by rw [hE4]) ?_
            refine ge_same (t := 118) (v := (.slice A0 (m4.set ((z10).toNat) e8).length c0)) (v' := (.slice A0 ((m4.set ((z10).toNat) e8).set ((IntKind.i64.wrap (z10 - 1)).toNat) e9).length c0)) (by kernel_rfl) (by rw [hE4]) ?_
            refine ge_same (t := 123) (v := (.slice A0 (m4.set ((z10).toNat) e8).length c0)) (v' := (.slice A0 ((m4.set ((z10).toNat) e8).set ((IntKind.i64.wrap (z10 - 1)).toNat) e9).length c0)) (by kernel_rfl) (by rw [hE4]) ?_
            refine ge_nil fun a hF => hKK _ _ (RS.of2 (l := []) (by kernel_rfl) trivial trivial) ?_ a hF
            refine go_fin2 fun a hF => hK28 _ _ ?_ a hF
            refine we_region [(0, 0), (1, 0), (2, 0)] rfl ?_
            refine ge_batch [0, 1, 2] (ans := []) (vs := [(17, .int .i64 (IntKind.i64.wrap (z10 - 1))), (112, .int .i64 (IntKind.i64.wrap (z10 - 1))), (111, .int .i64 z10)]) (l := []) (by kernel_rfl) trivial ?_
            have hS50 := hS49.bring 1 rfl
            have hS51 := hS50.bring 1 rfl
            obtain rfl := Option.some.inj h
            exact ge_nil fun a hF => hQ _ _ _ (Outs.again ⟨(Eq.trans hLio3 (by simp only [List.length_set])), hS51, hF.weaken ⟨by kernel_rfl, by kernel_rfl, by kernel_rfl, by kernel_rfl, trivial⟩⟩)
          exact go_nomore2
        exact go_nomore2
      · rw [if_neg hc16] at h
        cases h
    · rw [if_neg hc15] at h
      cases h
  · rw [if_neg hc14] at h
    refine we_known (t := 110) (b := decide (z10 > z9)) (v := false) (by kernel_rfl) (decide_eq_false hc14) ?_
    refine we_false (by kernel_rfl) ?_
    have hS52 := hS.bring 1 rfl
    have hS53 := hS52.bring 1 rfl
    obtain rfl := Option.some.inj h
    exact we_exit fun a hF => hQ _ _ _ (Outs.out nofun (Exits.here ⟨hLio3, hS53, hF.weaken ⟨by kernel_rfl, by kernel_rfl, trivial⟩⟩))
abbrev slices_symMergeCmpFunc_api_Come.A4 (K : Nat) (w0 : World) (l0 : List SCome) (A0 : Option Addr) (c0 : Nat) (x1 : Int) (x2 : Int) (x3 : Int) (LT : List Own) (recf : (List SCome) → Int → Int → Int → Option (List SCome)) (hrec : ∀ (l0 : List SCome) (A0 : Option Addr) (c0 : Nat) (x1 : Int) (x2 : Int) (x3 : Int) (w0 wE : World) (LT : List Own) (hS : St w0 wE [Own.of (.slice A0 l0.length c0) 53 l0, Own.all LT]) (r : List SCome) (h : recf l0 x1 x2 x3 = some r), Calls Tryd.prog 106 #[(.slice A0 l0.length c0), .int .i64 x1, .int .i64 x2, .int .i64 x3, .func (.func 79) #[] #[]] wE (slices_symMergeCmpFunc_api_Come.Post w0 l0 A0 c0 x1 x2 x3 LT r)) (hc1 : ¬ ((IntKind.i64.wrap (x2 - x1)) = 1)) (hc9 : ¬ ((IntKind.i64.wrap (x3 - x2)) = 1)) : (Int × Int) → Act → World → Prop := fun (s : Int × Int) a w => St w0 w [Own.of (.slice A0 l0.length c0) 53 l0, Own.all LT] ∧ Frm 220 a [(0, (.slice A0 l0.length c0)), (1, .int .i64 x1), (2, .int .i64 x2), (3, .int .i64 x3), (4, .func (.func 79) #[] #[]), (18, .int .i64 (IntKind.i64.wrap (Int.fdiv (IntKind.u64.wrap (IntKind.i64.wrap (x1 + x3))) (2 ^ 1)))), (19, .int .i64 (IntKind.i64.wrap ((IntKind.i64.wrap (Int.fdiv (IntKind.u64.wrap (IntKind.i64.wrap (x1 + x3))) (2 ^ 1))) + x2))), (20, .int .i64 s.1), (21, .int .i64 s.2)]
abbrev slices_symMergeCmpFunc_api_Come.B4 (K : Nat) (w0 : World) (l0 : List SCome) (A0 : Option Addr) (c0 : Nat) (x1 : Int) (x2 : Int) (x3 : Int) (LT : List Own) (recf : (List SCome) → Int → Int → Int → Option (List SCome)) (hrec : ∀ (l0 : List SCome) (A0 : Option Addr) (c0 : Nat) (x1 : Int) (x2 : Int) (x3 : Int) (w0 wE : World) (LT : List Own) (hS : St w0 wE [Own.of (.slice A0 l0.length c0) 53 l0, Own.all LT]) (r : List SCome) (h : recf l0 x1 x2 x3 = some r), Calls Tryd.prog 106 #[(.slice A0 l0.length c0), .int .i64 x1, .int .i64 x2, .int .i64 x3, .func (.func 79) #[] #[]] wE (slices_symMergeCmpFunc_api_Come.Post w0 l0 A0 c0 x1 x2 x3 LT r)) (hc1 : ¬ ((IntKind.i64.wrap (x2 - x1)) = 1)) (hc9 : ¬ ((IntKind.i64.wrap (x3 - x2)) = 1)) : (List SCome) → Exit → Act → World → Prop := Rets Tryd.prog Tryd.f106 (slices_symMergeCmpFunc_api_Come.Post w0 l0 A0 c0 x1 x2 x3 LT)
theorem slices_symMergeCmpFunc_api_Come_p4 (K : Nat) (w0 : World) (l0 : List SCome) (A0 : Option Addr) (c0 : Nat) (x1 : Int) (x2 : Int) (x3 : Int) (LT : List Own) (recf : (List SCome) → Int → Int → Int → Option (List SCome)) (hrec : ∀ (l0 : List SCome) (A0 : Option Addr) (c0 : Nat) (x1 : Int) (x2 : Int) (x3 : Int) (w0 wE : World) (LT : List Own) (hS : St w0 wE [Own.of (.slice A0 l0.length c0) 53 l0, Own.all LT]) (r : List SCome) (h : recf l0 x1 x2 x3 = some r), Calls Tryd.prog 106 #[(.slice A0 l0.length c0), .int .i64 x1, .int .i64 x2, .int .i64 x3, .func (.func 79) #[] #[]] wE (slices_symMergeCmpFunc_api_Come.Post w0 l0 A0 c0 x1 x2 x3 LT r)) (hc1 : ¬ ((IntKind.i64.wrap (x2 - x1)) = 1)) (hc9 : ¬ ((IntKind.i64.wrap (x3 - x2)) = 1)) (o : (Int × Int) ⊕ (List SCome)) (h : slices_symMergeCmpFunc_api_Come.p4 x1 x2 x3 = some o) (w : World) (hS : St w0 w [Own.of (.slice A0 l0.length c0) 53 l0, Own.all LT]) (Q : Exit → Act → World → Prop) (hQ : ∀ x a w, Outs (slices_symMergeCmpFunc_api_Come.A4 K w0 l0 A0 c0 x1 x2 x3 LT recf hrec hc1 hc9) (slices_symMergeCmpFunc_api_Come.B4 K w0 l0 A0 c0 x1 x2 x3 LT recf hrec hc1 hc9) o x a w → Q x a w) : WE Tryd.prog 220 (subF Tryd.f106 [1, 1, 1, 1, 1, 0]) Q [(0, (.slice A0 l0.length c0)), (1, .int .i64 x1), (2, .int .i64 x2), (3, .int .i64 x3), (4, .func (.func 79) #[] #[]), (18, .int .i64 (IntKind.i64.wrap (Int.fdiv (IntKind.u64.wrap (IntKind.i64.wrap (x1 + x3))) (2 ^ 1)))), (19, .int .i64 (IntKind.i64.wrap ((IntKind.i64.wrap (Int.fdiv (IntKind.u64.wrap (IntKind.i64.wrap (x1 + x3))) (2 ^ 1))) + x2))), (20, .int .i64 0), (21, .int .i64 0), (25, .int .i64 x2), (26, .int .i64 x1), (27, .int .i64 (IntKind.i64.wrap (x2 - x1))), (28, .bool false), (77, .int .i64 x3), (78, .int .i64 x2), (79, .int .i64 (IntKind.i64.wrap (x3 - x2))), (80, .bool false), (129, .int .i64 x1), (130, .int .i64 x3), (131, .int .i64 (IntKind.i64.wrap (x1 + x3))), (132, .int .u64 (IntKind.u64.wrap (IntKind.i64.wrap (x1 + x3)))), (133, .int .u64 (Int.fdiv (IntKind.u64.wrap (IntKind.i64.wrap (x1 + x3))) (2 ^ 1))), (134, .int .i64 (IntKind.i64.wrap (Int.fdiv (IntKind.u64.wrap (IntKind.i64.wrap (x1 + x3))) (2 ^ 1)))), (135, .int .i64 (IntKind.i64.wrap (Int.fdiv (IntKind.u64.wrap (IntKind.i64.wrap (x1 + x3))) (2 ^ 1)))), (136, .int .i64 x2), (137, .int .i64 (IntKind.i64.wrap ((IntKind.i64.wrap (Int.fdiv (IntKind.u64.wrap (IntKind.i64.wrap (x1 + x3))) (2 ^ 1))) + x2)))] w := by
  simp only [slices_symMergeCmpFunc_api_Come.p4] at h
  refine we_seq fun K33 hK33 => ?_
  refine we_region [(0, 0), (1, 0), (2, 0)] rfl ?_
  refine ge_batch [0, 1, 2] (ans := []) (vs := [(140, .bool (decide (x2 > (IntKind.i64.wrap (Int.fdiv (IntKind.u64.wrap (IntKind.i64.wrap (x1 + x3))) (2 ^ 1)))))), (139, .int .i64 (IntKind.i64.wrap (Int.fdiv (IntKind.u64.wrap (IntKind.i64.wrap (x1 + x3))) (2 ^ 1)))), (138, .int .i64 x2)]) (l := []) (by kernel_rfl) trivial ?_
  refine ge_nil fun a hF => hK33 _ _ ?_ a hF
  by_cases hc17 : x2 > (IntKind.i64.wrap (Int.fdiv (IntKind.u64.wrap (IntKind.i64.wrap (x1 + x3))) (2 ^ 1)))
  · rw [if_pos hc17] at h
    refine we_known (t := 140) (b := decide (x2 > (IntKind.i64.wrap (Int.fdiv (IntKind.u64.wrap (IntKind.i64.wrap (x1 + x3))) (2 ^ 1))))) (v := true) (by kernel_rfl) (decide_eq_true hc17) ?_
    refine we_true (by kernel_rfl) ?_
    refine we_seq fun K34 hK34 => ?_
    refine we_region [(0, 0), (1, 0), (2, 0), (3, 0)] rfl ?_
    refine ge_batch [0, 1, 2, 3] (ans := []) (vs := [(20, .int .i64 (IntKind.i64.wrap ((IntKind.i64.wrap ((IntKind.i64.wrap (Int.fdiv (IntKind.u64.wrap (IntKind.i64.wrap (x1 + x3))) (2 ^ 1))) + x2)) - x3))), (143, .int .i64 (IntKind.i64.wrap ((IntKind.i64.wrap ((IntKind.i64.wrap (Int.fdiv (IntKind.u64.wrap (IntKind.i64.wrap (x1 + x3))) (2 ^ 1))) + x2)) - x3))), (142, .int .i64 x3), (141, .int .i64 (IntKind.i64.wrap ((IntKind.i64.wrap (Int.fdiv (IntKind.u64.wrap (IntKind.i64.wrap (x1 + x3))) (2 ^ 1))) + x2)))]) (l := []) (by kernel_rfl) trivial ?_
    refine ge_nil fun a hF => hK34 _ _ ?_ a hF
    refine we_region [(0, 0), (1, 0)] rfl ?_
    refine ge_batch [0, 1] (ans := []) (vs := [(21, .int .i64 (IntKind.i64.wrap (Int.fdiv (IntKind.u64.wrap (IntKind.i64.wrap (x1 + x3))) (2 ^ 1)))), (144, .int .i64 (IntKind.i64.wrap (Int.fdiv (IntKind.u64.wrap (IntKind.i64.wrap (x1 + x3))) (2 ^ 1))))]) (l := []) (by kernel_rfl) trivial ?_
    have hS57 := hS.bring 1 rfl
    have hS58 := hS57.bring 1 rfl
    obtain rfl := Option.some.inj h
    exact ge_nil fun a hF => hQ _ _ _ (Outs.again ⟨hS58, hF.weaken ⟨by kernel_rfl, by kernel_rfl, by kernel_rfl, by kernel_rfl, by kernel_rfl, by kernel_rfl, by kernel_rfl, by kernel_rfl, by kernel_rfl, trivial⟩⟩)
  · rw [if_neg hc17] at h
    refine we_known (t := 140) (b := decide (x2 > (IntKind.i64.wrap (Int.fdiv (IntKind.u64.wrap (IntKind.i64.wrap (x1 + x3))) (2 ^ 1))))) (v := false) (by kernel_rfl) (decide_eq_false hc17) ?_
    refine we_false (by kernel_rfl) ?_
    refine we_seq fun K35 hK35 => ?_
    refine we_region [(0, 0), (1, 0)] rfl ?_
    refine ge_batch [0, 1] (ans := []) (vs := [(20, .int .i64 x1), (145, .int .i64 x1)]) (l := []) (by kernel_rfl) trivial ?_
    refine ge_nil fun a hF => hK35 _ _ ?_ a hF
    refine we_region [(0, 0), (1, 0)] rfl ?_
    refine ge_batch [0, 1] (ans := []) (vs := [(21, .int .i64 x2), (146, .int .i64 x2)]) (l := []) (by kernel_rfl) trivial ?_
    have hS59 := hS.bring 1 rfl
    have hS60 := hS59.bring 1 rfl
    obtain rfl := Option.some.inj h
    exact ge_nil fun a hF => hQ _ _ _ (Outs.again ⟨hS60, hF.weaken ⟨by kernel_rfl, by kernel_rfl, by kernel_rfl, by kernel_rfl, by kernel_rfl, by kernel_rfl, by kernel_rfl, by kernel_rfl, by kernel_rfl, trivial⟩⟩)
abbrev slices_symMergeCmpFunc_api_Come.A5 (K : Nat) (w0 : World) (l0 : List SCome) (A0 : Option Addr) (c0 : Nat) (x1 : Int) (x2 : Int) (x3 : Int) (LT : List Own) (recf : (List SCome) → Int → Int → Int → Option (List SCome)) (hrec : ∀ (l0 : List SCome) (A0 : Option Addr) (c0 : Nat) (x1 : Int) (x2 : Int) (x3 : Int) (w0 wE : World) (LT : List Own) (hS : St w0 wE [Own.of (.slice A0 l0.length c0) 53 l0, Own.all LT]) (r : List SCome) (h : recf l0 x1 x2 x3 = some r), Calls Tryd.prog 106 #[(.slice A0 l0.length c0), .int .i64 x1, .int .i64 x2, .int .i64 x3, .func (.func 79) #[] #[]] wE (slices_symMergeCmpFunc_api_Come.Post w0 l0 A0 c0 x1 x2 x3 LT r)) (hc1 : ¬ ((IntKind.i64.wrap (x2 - x1)) = 1)) (hc9 : ¬ ((IntKind.i64.wrap (x3 - x2)) = 1)) (z13 : Int) (z14 : Int) : (Int × Int) → Act → World → Prop := fun (s : Int × Int) a w => St w0 w [Own.of (.slice A0 l0.length c0) 53 l0, Own.all LT] ∧ Frm 220 a [(0, (.slice A0 l0.length c0)), (1, .int .i64 x1), (2, .int .i64 x2), (3, .int .i64 x3), (4, .func (.func 79) #[] #[]), (18, .int .i64 (IntKind.i64.wrap (Int.fdiv (IntKind.u64.wrap (IntKind.i64.wrap (x1 + x3))) (2 ^ 1)))), (19, .int .i64 (IntKind.i64.wrap ((IntKind.i64.wrap (Int.fdiv (IntKind.u64.wrap (IntKind.i64.wrap (x1 + x3))) (2 ^ 1))) + x2))), (20, .int .i64 s.1), (21, .int .i64 s.2), (22, .int .i64 (IntKind.i64.wrap ((IntKind.i64.wrap ((IntKind.i64.wrap (Int.fdiv (IntKind.u64.wrap (IntKind.i64.wrap (x1 + x3))) (2 ^ 1))) + x2)) - 1)))]
abbrev slices_symMergeCmpFunc_api_Come.B5 (K : Nat) (w0 : World) (l0 : List SCome) (A0 : Option Addr) (c0 : Nat) (x1 : Int) (x2 : Int) (x3 : Int) (LT : List Own) (recf : (List SCome) → Int → Int → Int → Option (List SCome)) (hrec : ∀ (l0 : List SCome) (A0 : Option Addr) (c0 : Nat) (x1 : Int) (x2 : Int) (x3 : Int) (w0 wE : World) (LT : List Own) (hS : St w0 wE [Own.of (.slice A0 l0.length c0) 53 l0, Own.all LT]) (r : List SCome) (h : recf l0 x1 x2 x3 = some r), Calls Tryd.prog 106 #[(.slice A0 l0.length c0), .int .i64 x1, .int .i64 x2, .int .i64 x3, .func (.func 79) #[] #[]] wE (slices_symMergeCmpFunc_api_Come.Post w0 l0 A0 c0 x1 x2 x3 LT r)) (hc1 : ¬ ((IntKind.i64.wrap (x2 - x1)) = 1)) (hc9 : ¬ ((IntKind.i64.wrap (x3 - x2)) = 1)) (z13 : Int) (z14 : Int) : (Int ⊕ (List SCome)) → Exit → Act → World → Prop := Exits 8 (fun (s : Int) a w => St w0 w [Own.of (.slice A0 l0.length c0) 53 l0, Own.all LT] ∧ Frm 220 a [(0, (.slice A0 l0.length c0)), (1, .int .i64 x1), (2, .int .i64 x2), (3, .int .i64 x3), (4, .func (.func 79) #[] #[]), (18, .int .i64 (IntKind.i64.wrap (Int.fdiv (IntKind.u64.wrap (IntKind.i64.wrap (x1 + x3))) (2 ^ 1)))), (19, .int .i64 (IntKind.i64.wrap ((IntKind.i64.wrap (Int.fdiv (IntKind.u64.wrap (IntKind.i64.wrap (x1 + x3))) (2 ^ 1))) + x2))), (20, .int .i64 s)]) (Rets Tryd.prog Tryd.f106 (slices_symMergeCmpFunc_api_Come.Post w0 l0 A0 c0 x1 x2 x3 LT))
theorem slices_symMergeCmpFunc_api_Come_r5 (K : Nat) (w0 : World) (l0 : List SCome) (A0 : Option Addr) (c0 : Nat) (x1 : Int) (x2 : Int) (x3 : Int) (LT : List Own) (recf : (List SCome) → Int → Int → Int → Option (List SCome)) (hrec : ∀ (l0 : List SCome) (A0 : Option Addr) (c0 : Nat) (x1 : Int) (x2 : Int) (x3 : Int) (w0 wE : World) (LT : List Own) (hS : St w0 wE [Own.of (.slice A0 l0.length c0) 53 l0, Own.all LT]) (r : List SCome) (h : recf l0 x1 x2 x3 = some r), Calls Tryd.prog 106 #[(.slice A0 l0.length c0), .int .i64 x1, .int .i64 x2, .int .i64 x3, .func (.func 79) #[] #[]] wE (slices_symMergeCmpFunc_api_Come.Post w0 l0 A0 c0 x1 x2 x3 LT r)) (hc1 : ¬ ((IntKind.i64.wrap (x2 - x1)) = 1)) (hc9 : ¬ ((IntKind.i64.wrap (x3 - x2)) = 1)) (z13 : Int) (z14 : Int) (s : Int × Int) (o : (Int × Int) ⊕ (Int ⊕ (List SCome))) (h : slices_symMergeCmpFunc_api_Come.r5 l0 x1 x2 x3 s = some o) (a : Act) (w : World) (hA : slices_symMergeCmpFunc_api_Come.A5 K w0 l0 A0 c0 x1 x2 x3 LT recf hrec hc1 hc9 z13 z14 s a w) (Q : Exit → Act → World → Prop) (hQ : ∀ x a w, Outs (slices_symMergeCmpFunc_api_Come.A5 K w0 l0 A0 c0 x1 x2 x3 LT recf hrec hc1 hc9 z13 z14) (slices_symMergeCmpFunc_api_Come.B5 K w0 l0 A0 c0 x1 x2 x3 LT recf hrec hc1 hc9 z13 z14) o x a w → Q x a w) : (subF Tryd.f106 [1, 1, 1, 1, 1, 1, 1, 0, 0, 0]).wp Tryd.prog Q a w := by
  obtain ⟨z15, z16⟩ := s
  obtain ⟨hS, hF⟩ := hA
  replace hS : St w0 w [Own.of (.slice A0 l0.length c0) 53 l0, Own.all LT] := hS
  simp only [slices_symMergeCmpFunc_api_Come.r5] at h
  refine (?_ : WE Tryd.prog 220 (subF Tryd.f106 [1, 1, 1, 1, 1, 1, 1, 0, 0, 0]) Q [(0, (.slice A0 l0.length c0)), (1, .int .i64 x1), (2, .int .i64 x2), (3, .int .i64 x3), (4, .func (.func 79) #[] #[]), (18, .int .i64 (IntKind.i64.wrap (Int.fdiv (IntKind.u64.wrap (IntKind.i64.wrap (x1 + x3))) (2 ^ 1)))), (19, .int .i64 (IntKind.i64.wrap ((IntKind.i64.wrap (Int.fdiv (IntKind.u64.wrap (IntKind.i64.wrap (x1 + x3))) (2 ^ 1))) + x2))), (20, .int .i64 z15), (21, .int .i64 z16), (22, .int .i64 (IntKind.i64.wrap ((IntKind.i64.wrap ((IntKind.i64.wrap (Int.fdiv (IntKind.u64.wrap (IntKind.i64.wrap (x1 + x3))) (2 ^ 1))) + x2)) - 1)))] w) a hF
  clear hF a
  refine we_seq fun K38 hK38 => ?_
  refine we_seq fun K39 hK39 => ?_
  refine we_region [(0, 0), (1, 0), (2, 0)] rfl ?_
  refine ge_batch [0, 1, 2] (ans := []) (vs := [(151, .bool (decide (z15 < z16))), (150, .int .i64 z16), (149, .int .i64 z15)]) (l := []) (by kernel_rfl) trivial ?_
  refine ge_nil fun a hF => hK39 _ _ ?_ a hF
  by_cases hc18 : z15 < z16
  · rw [if_pos hc18] at h
    refine we_known (t := 151) (b := decide (z15 < z16)) (v := true) (by kernel_rfl) (decide_eq_true hc18) ?_
    refine we_true (by kernel_rfl) ?_
    refine we_skip fun a hF => hK38 _ _ ?_ a hF
    refine we_block ?_
    refine we_seq fun K40 hK40 => ?_
    refine we_region [(0, 0), (1, 0), (2, 0), (3, 0), (4, 0), (5, 0), (6, 0)] rfl ?_
    refine ge_batch [0, 1, 2, 3, 4, 5, 6] (ans := []) (vs := [(23, .int .i64 (IntKind.i64.wrap (Int.fdiv (IntKind.u64.wrap (IntKind.i64.wrap (z15 + z16))) (2 ^ 1)))), (157, .int .i64 (IntKind.i64.wrap (Int.fdiv (IntKind.u64.wrap (IntKind.i64.wrap (z15 + z16))) (2 ^ 1)))), (156, .int .u64 (Int.fdiv (IntKind.u64.wrap (IntKind.i64.wrap (z15 + z16))) (2 ^ 1))), (155, .int .u64 (IntKind.u64.wrap (IntKind.i64.wrap (z15 + z16)))), (154, .int .i64 (IntKind.i64.wrap (z15 + z16))), (153, .int .i64 z16), (152, .int .i64 z15)]) (l := []) (by kernel_rfl) trivial ?_
    refine ge_nil fun a hF => hK40 _ _ ?_ a hF
    refine we_seq fun K41 hK41 => ?_
    refine we_draws (by kernel_rfl) [(0, 0), (1, 0), (2, 0), (3, 0), (4, 0), (5, 0), (6, 0), (7, 0), (8, 0), (9, 0), (10, 0), (11, 1), (12, 0), (13, 0)] (by kernel_rfl) ?_
    have hS64 := hS.drew
    refine ge_batch [0, 1, 2, 3, 4] (ans := []) (vs := [(162, .int .i64 (IntKind.i64.wrap ((IntKind.i64.wrap ((IntKind.i64.wrap ((IntKind.i64.wrap (Int.fdiv (IntKind.u64.wrap (IntKind.i64.wrap (x1 + x3))) (2 ^ 1))) + x2)) - 1)) - (IntKind.i64.wrap (Int.fdiv (IntKind.u64.wrap (IntKind.i64.wrap (z15 + z16))) (2 ^ 1)))))), (161, .int .i64 (IntKind.i64.wrap (Int.fdiv (IntKind.u64.wrap (IntKind.i64.wrap (z15 + z16))) (2 ^ 1)))), (160, .int .i64 (IntKind.i64.wrap ((IntKind.i64.wrap ((IntKind.i64.wrap (Int.fdiv (IntKind.u64.wrap (IntKind.i64.wrap (x1 + x3))) (2 ^ 1))) + x2)) - 1))), (159, (.slice A0 l0.length c0)), (158, .func (.func 79) #[] #[])]) (l := []) (by kernel_rfl) trivial ?_
    by_cases hc19 : 0 ≤ (IntKind.i64.wrap ((IntKind.i64.wrap ((IntKind.i64.wrap ((IntKind.i64.wrap (Int.fdiv (IntKind.u64.wrap (IntKind.i64.wrap (x1 + x3))) (2 ^ 1))) + x2)) - 1)) - (IntKind.i64.wrap (Int.fdiv (IntKind.u64.wrap (IntKind.i64.wrap (z15 + z16))) (2 ^ 1)))))
    · rw [if_pos hc19] at h
      rcases hx11 : l0[(IntKind.i64.wrap ((IntKind.i64.wrap ((IntKind.i64.wrap ((IntKind.i64.wrap (Int.fdiv (IntKind.u64.wrap (IntKind.i64.wrap (x1 + x3))) (2 ^ 1))) + x2)) - 1)) - (IntKind.i64.wrap (Int.fdiv (IntKind.u64.wrap (IntKind.i64.wrap (z15 + z16))) (2 ^ 1))))).toNat]? with _ | e11
      · rw [hx11] at h; cases h
      rw [hx11] at h
      simp only [] at h
      refine ge_index (d := 163) (ty := 0) (t := 49) (el := 53) (sz := 2) (m := l0.length) (c := c0) (x := (.tmp 159)) (y := (.tmp 162)) (A := A0) (k' := .i64) (j := (IntKind.i64.wrap ((IntKind.i64.wrap ((IntKind.i64.wrap ((IntKind.i64.wrap (Int.fdiv (IntKind.u64.wrap (IntKind.i64.wrap (x1 + x3))) (2 ^ 1))) + x2)) - 1)) - (IntKind.i64.wrap (Int.fdiv (IntKind.u64.wrap (IntKind.i64.wrap (z15 + z16))) (2 ^ 1)))))) (jn := ((IntKind.i64.wrap ((IntKind.i64.wrap ((IntKind.i64.wrap ((IntKind.i64.wrap (Int.fdiv (IntKind.u64.wrap (IntKind.i64.wrap (x1 + x3))) (2 ^ 1))) + x2)) - 1)) - (IntKind.i64.wrap (Int.fdiv (IntKind.u64.wrap (IntKind.i64.wrap (z15 + z16))) (2 ^ 1))))).toNat)) (b0 := blkOf A0) (o0 := offOf A0) (by kernel_rfl) (by kernel_rfl) (by kernel_rfl) (by kernel_rfl) (by kernel_rfl) ((hS64.rdAt 0 rfl).eqSome (pos_of_get hx11)) (Int.toNat_of_nonneg hc19).symm (lt_of_get hx11) ?_
      refine ge_batch [6, 7, 8] (ans := [.val (.int .i64 e11.Task), .val (.int .i64 e11.At)]) (vs := [(166, .int .i64 (IntKind.i64.wrap (Int.fdiv (IntKind.u64.wrap (IntKind.i64.wrap (z15 + z16))) (2 ^ 1)))), (165, (.slice A0 l0.length c0)), (164, .agg #[.int .i64 e11.Task, .int .i64 e11.At])]) (l := [.loaded ⟨blkOf A0, offOf A0 + ((IntKind.i64.wrap ((IntKind.i64.wrap ((IntKind.i64.wrap ((IntKind.i64.wrap (Int.fdiv (IntKind.u64.wrap (IntKind.i64.wrap (x1 + x3))) (2 ^ 1))) + x2)) - 1)) - (IntKind.i64.wrap (Int.fdiv (IntKind.u64.wrap (IntKind.i64.wrap (z15 + z16))) (2 ^ 1))))).toNat) * 2, none⟩ (.int .i64 e11.Task), .loaded ⟨blkOf A0, offOf A0 + ((IntKind.i64.wrap ((IntKind.i64.wrap ((IntKind.i64.wrap ((IntKind.i64.wrap (Int.fdiv (IntKind.u64.wrap (IntKind.i64.wrap (x1 + x3))) (2 ^ 1))) + x2)) - 1)) - (IntKind.i64.wrap (Int.fdiv (IntKind.u64.wrap (IntKind.i64.wrap (z15 + z16))) (2 ^ 1))))).toNat) * 2 + 1, none⟩ (.int .i64 e11.At)]) (by kernel_rfl) ⟨RdL.cell (j := 0) (hS64.rdAt 0 rfl) hx11 rfl, RdL.cell (j := 1) (hS64.rdAt 0 rfl) hx11 rfl, trivial⟩ ?_
      by_cases hc20 : 0 ≤ (IntKind.i64.wrap (Int.fdiv (IntKind.u64.wrap (IntKind.i64.wrap (z15 + z16))) (2 ^ 1)))
      · rw [if_pos hc20] at h
        rcases hx12 : l0[(IntKind.i64.wrap (Int.fdiv (IntKind.u64.wrap (IntKind.i64.wrap (z15 + z16))) (2 ^ 1))).toNat]? with _ | e12
        · rw [hx12] at h; cases h
        rw [hx12] at h
        simp only [] at h
        refine ge_index (d := 167) (ty := 0) (t := 49) (el := 53) (sz := 2) (m := l0.length) (c := c0) (x := (.tmp 165)) (y := (.tmp 166)) (A := A0) (k' := .i64) (j := (IntKind.i64.wrap (Int.fdiv (IntKind.u64.wrap (IntKind.i64.wrap (z15 + z16))) (2 ^ 1)))) (jn := ((IntKind.i64.wrap (Int.fdiv (IntKind.u64.wrap (IntKind.i64.wrap (z15 + z16))) (2 ^ 1))).toNat)) (b0 := blkOf A0) (o0 := offOf A0) (by kernel_rfl) (by kernel_rfl) (by kernel_rfl) (by kernel_rfl) (by kernel_rfl) ((hS64.rdAt 0 rfl).eqSome (pos_of_get hx12)) (Int.toNat_of_nonneg hc20).symm (lt_of_get hx12) ?_
        refine ge_batch [10] (ans := [.val (.int .i64 e12.Task), .val (.int .i64 e12.At)]) (vs := [(168, .agg #[.int .i64 e12.Task, .int .i64 e12.At])]) (l := [.loaded ⟨blkOf A0, offOf A0 + ((IntKind.i64.wrap (Int.fdiv (IntKind.u64.wrap (IntKind.i64.wrap (z15 + z16))) (2 ^ 1))).toNat) * 2, none⟩ (.int .i64 e12.Task), .loaded ⟨blkOf A0, offOf A0 + ((IntKind.i64.wrap (Int.fdiv (IntKind.u64.wrap (IntKind.i64.wrap (z15 + z16))) (2 ^ 1))).toNat) * 2 + 1, none⟩ (.int .i64 e12.At)]) (by kernel_rfl) ⟨RdL.cell (j := 0) (hS64.rdAt 0 rfl) hx12 rfl, RdL.cell (j := 1) (hS64.rdAt 0 rfl) hx12 rfl, trivial⟩ ?_
        refine ge_call (d := some 169) (f := 79) (args := #[.agg #[.int .i64 e11.Task, .int .i64 e11.At], .agg #[.int .i64 e12.Task, .int .i64 e12.At]]) (by kernel_rfl) (tasks_Comes_1_ok e11 e12 _ _ rfl) ?_
        rintro _ w12 ⟨rfl, hS65⟩
        refine ⟨_, rfl, hS65.below, ?_⟩
        have hS66 := hS64.call hS65
        refine ge_batch [12, 13] (ans := []) (vs := [(171, .bool (!(decide ((tasks_Comes_1.f e11 e12) < 0)))), (170, .bool (decide ((tasks_Comes_1.f e11 e12) < 0)))]) (l := []) (by kernel_rfl) trivial ?_
        refine ge_nil fun a hF => hK41 _ _ ?_ a hF
        by_cases hc21 : (tasks_Comes_1.f e11 e12) < 0
        · rw [if_pos hc21] at h
          refine we_known (t := 171) (b := !(decide ((tasks_Comes_1.f e11 e12) < 0))) (v := false) (by kernel_rfl) (congrArg (fun z => !z) (decide_eq_true hc21)) ?_
          refine we_false (by kernel_rfl) ?_
          refine we_region [(0, 0), (1, 0)] rfl ?_
          refine ge_batch [0, 1] (ans := []) (vs := [(21, .int .i64 (IntKind.i64.wrap (Int.fdiv (IntKind.u64.wrap (IntKind.i64.wrap (z15 + z16))) (2 ^ 1)))), (174, .int .i64 (IntKind.i64.wrap (Int.fdiv (IntKind.u64.wrap (IntKind.i64.wrap (z15 + z16))) (2 ^ 1))))]) (l := []) (by kernel_rfl) trivial ?_
          have hS67 := hS66.bring 1 rfl
          have hS68 := hS67.bring 1 rfl
          obtain rfl := Option.some.inj h
          exact ge_nil fun a hF => hQ _ _ _ (Outs.again ⟨hS68, hF.weaken ⟨by kernel_rfl, by kernel_rfl, by kernel_rfl, by kernel_rfl, by kernel_rfl, by kernel_rfl, by kernel_rfl, by kernel_rfl, by kernel_rfl, by kernel_rfl, trivial⟩⟩)
        · rw [if_neg hc21] at h
          refine we_known (t := 171) (b := !(decide ((tasks_Comes_1.f e11 e12) < 0))) (v := true) (by kernel_rfl) (congrArg (fun z => !z) (decide_eq_false hc21)) ?_
          refine we_true (by kernel_rfl) ?_
          refine we_region [(0, 0), (1, 0), (2, 0)] rfl ?_
          refine ge_batch [0, 1, 2] (ans := []) (vs := [(20, .int .i64 (IntKind.i64.wrap ((IntKind.i64.wrap (Int.fdiv (IntKind.u64.wrap (IntKind.i64.wrap (z15 + z16))) (2 ^ 1))) + 1))), (173, .int .i64 (IntKind.i64.wrap ((IntKind.i64.wrap (Int.fdiv (IntKind.u64.wrap (IntKind.i64.wrap (z15 + z16))) (2 ^ 1))) + 1))), (172, .int .i64 (IntKind.i64.wrap (Int.fdiv (IntKind.u64.wrap (IntKind.i64.wrap (z15 + z16))) (2 ^ 1))))]) (l := []) (by kernel_rfl) trivial ?_
          have hS69 := hS66.bring 1 rfl
          have hS70 := hS69.bring 1 rfl
          obtain rfl := Option.some.inj h
          exact ge_nil fun a hF => hQ _ _ _ (Outs.again ⟨hS70, hF.weaken ⟨by kernel_rfl, by kernel_rfl, by kernel_rfl, by kernel_rfl, by kernel_rfl, by kernel_rfl, by kernel_rfl, by kernel_rfl, by kernel_rfl, by kernel_rfl, trivial⟩⟩)
      · rw [if_neg hc20] at h
        cases h
    · rw [if_neg hc19] at h
      cases h
  · rw [if_neg hc18] at h
    refine we_known (t := 151) (b := decide (z15 < z16)) (v := false) (by kernel_rfl) (decide_eq_false hc18) ?_
    refine we_false (by kernel_rfl) ?_
    have hS71 := hS.bring 1 rfl
    have hS72 := hS71.bring 1 rfl
    obtain rfl := Option.some.inj h
    exact we_exit fun a hF => hQ _ _ _ (Outs.out nofun (Exits.here ⟨hS72, hF.weaken ⟨by kernel_rfl, by kernel_rfl, by kernel_rfl, by kernel_rfl, by kernel_rfl, by kernel_rfl, by kernel_rfl, by kernel_rfl, trivial⟩⟩))
abbrev slices_symMergeCmpFunc_api_Come.A6 (K : Nat) (w0 : World) (l0 : List SCome) (A0 : Option Addr) (c0 : Nat) (x1 : Int) (x2 : Int) (x3 : Int) (LT : List Own) (recf : (List SCome) → Int → Int → Int → Option (List SCome)) (hrec : ∀ (l0 : List SCome) (A0 : Option Addr) (c0 : Nat) (x1 : Int) (x2 : Int) (x3 : Int) (w0 wE : World) (LT : List Own) (hS : St w0 wE [Own.of (.slice A0 l0.length c0) 53 l0, Own.all LT]) (r : List SCome) (h : recf l0 x1 x2 x3 = some r), Calls Tryd.prog 106 #[(.slice A0 l0.length c0), .int .i64 x1, .int .i64 x2, .int .i64 x3, .func (.func 79) #[] #[]] wE (slices_symMergeCmpFunc_api_Come.Post w0 l0 A0 c0 x1 x2 x3 LT r)) (hc1 : ¬ ((IntKind.i64.wrap (x2 - x1)) = 1)) (hc9 : ¬ ((IntKind.i64.wrap (x3 - x2)) = 1)) (z13 : Int) (z14 : Int) (z18 : Int) : (List SCome) → Act → World → Prop := fun (s : (List SCome)) a w => l0.length = s.length ∧ St w0 w [Own.of (.slice A0 s.length c0) 53 s, Own.all LT] ∧ Frm 220 a [(0, (.slice A0 s.length c0)), (1, .int .i64 x1), (3, .int .i64 x3), (4, .func (.func 79) #[] #[]), (18, .int .i64 (IntKind.i64.wrap (Int.fdiv (IntKind.u64.wrap (IntKind.i64.wrap (x1 + x3))) (2 ^ 1)))), (20, .int .i64 z18), (24, .int .i64 (IntKind.i64.wrap ((IntKind.i64.wrap ((IntKind.i64.wrap (Int.fdiv (IntKind.u64.wrap (IntKind.i64.wrap (x1 + x3))) (2 ^ 1))) + x2)) - z18)))]
abbrev slices_symMergeCmpFunc_api_Come.B6 (K : Nat) (w0 : World) (l0 : List SCome) (A0 : Option Addr) (c0 : Nat) (x1 : Int) (x2 : Int) (x3 : Int) (LT : List Own) (recf : (List SCome) → Int → Int → Int → Option (List SCome)) (hrec : ∀ (l0 : List SCome) (A0 : Option Addr) (c0 : Nat) (x1 : Int) (x2 : Int) (x3 : Int) (w0 wE : World) (LT : List Own) (hS : St w0 wE [Own.of (.slice A0 l0.length c0) 53 l0, Own.all LT]) (r : List SCome) (h : recf l0 x1 x2 x3 = some r), Calls Tryd.prog 106 #[(.slice A0 l0.length c0), .int .i64 x1, .int .i64 x2, .int .i64 x3, .func (.func 79) #[] #[]] wE (slices_symMergeCmpFunc_api_Come.Post w0 l0 A0 c0 x1 x2 x3 LT r)) (hc1 : ¬ ((IntKind.i64.wrap (x2 - x1)) = 1)) (hc9 : ¬ ((IntKind.i64.wrap (x3 - x2)) = 1)) (z13 : Int) (z14 : Int) (z18 : Int) : (List SCome) → Exit → Act → World → Prop := Rets Tryd.prog Tryd.f106 (slices_symMergeCmpFunc_api_Come.Post w0 l0 A0 c0 x1 x2 x3 LT)
theorem slices_symMergeCmpFunc_api_Come_p6 (K : Nat) (w0 : World) (l0 : List SCome) (A0 : Option Addr) (c0 : Nat) (x1 : Int) (x2 : Int) (x3 : Int) (LT : List Own) (recf : (List SCome) → Int → Int → Int → Option (List SCome)) (hrec : ∀ (l0 : List SCome) (A0 : Option Addr) (c0 : Nat) (x1 : Int) (x2 : Int) (x3 : Int) (w0 wE : World) (LT : List Own) (hS : St w0 wE [Own.of (.slice A0 l0.length c0) 53 l0, Own.all LT]) (r : List SCome) (h : recf l0 x1 x2 x3 = some r), Calls Tryd.prog 106 #[(.slice A0 l0.length c0), .int .i64 x1, .int .i64 x2, .int .i64 x3, .func (.func 79) #[] #[]] wE (slices_symMergeCmpFunc_api_Come.Post w0 l0 A0 c0 x1 x2 x3 LT r)) (hc1 : ¬ ((IntKind.i64.wrap (x2 - x1)) = 1)) (hc9 : ¬ ((IntKind.i64.wrap (x3 - x2)) = 1)) (z13 : Int) (z14 : Int) (z18 : Int) (o : (List SCome) ⊕ (List SCome)) (h : slices_symMergeCmpFunc_api_Come.p6 K l0 x1 x2 x3 z18 = some o) (w : World) (hS : St w0 w [Own.of (.slice A0 l0.length c0) 53 l0, Own.all LT]) (Q : Exit → Act → World → Prop) (hQ : ∀ x a w, Outs (slices_symMergeCmpFunc_api_Come.A6 K w0 l0 A0 c0 x1 x2 x3 LT recf hrec hc1 hc9 z13 z14 z18) (slices_symMergeCmpFunc_api_Come.B6 K w0 l0 A0 c0 x1 x2 x3 LT recf hrec hc1 hc9 z13 z14 z18) o x a w → Q x a w) : WE Tryd.prog 220 (subF Tryd.f106 [1, 1, 1, 1, 1, 1, 1, 1, 1, 0]) Q [(0, (.slice A0 l0.length c0)), (1, .int .i64 x1), (2, .int .i64 x2), (3, .int .i64 x3), (4, .func (.func 79) #[] #[]), (18, .int .i64 (IntKind.i64.wrap (Int.fdiv (IntKind.u64.wrap (IntKind.i64.wrap (x1 + x3))) (2 ^ 1)))), (19, .int .i64 (IntKind.i64.wrap ((IntKind.i64.wrap (Int.fdiv (IntKind.u64.wrap (IntKind.i64.wrap (x1 + x3))) (2 ^ 1))) + x2))), (20, .int .i64 z18), (24, .int .i64 (IntKind.i64.wrap ((IntKind.i64.wrap ((IntKind.i64.wrap (Int.fdiv (IntKind.u64.wrap (IntKind.i64.wrap (x1 + x3))) (2 ^ 1))) + x2)) - z18))), (175, .int .i64 (IntKind.i64.wrap ((IntKind.i64.wrap (Int.fdiv (IntKind.u64.wrap (IntKind.i64.wrap (x1 + x3))) (2 ^ 1))) + x2))), (176, .int .i64 z18), (177, .int .i64 (IntKind.i64.wrap ((IntKind.i64.wrap ((IntKind.i64.wrap (Int.fdiv (IntKind.u64.wrap (IntKind.i64.wrap (x1 + x3))) (2 ^ 1))) + x2)) - z18)))] w := by
  simp only [slices_symMergeCmpFunc_api_Come.p6] at h
  refine we_seq fun K44 hK44 => ?_
  refine we_region [(0, 0), (1, 0), (2, 0), (3, 0), (4, 0), (5, 0), (6, 0), (7, 0)] rfl ?_
  refine ge_batch [0, 1, 2, 3] (ans := []) (vs := [(181, .bool (decide (z18 < x2))), (180, .bool (decide (z18 < x2))), (179, .int .i64 x2), (178, .int .i64 z18)]) (l := []) (by kernel_rfl) trivial ?_
  by_cases hc22 : z18 < x2
  · rw [if_pos hc22] at h
    refine ge_known (t := 181) (b := decide (z18 < x2)) (c := true) (by kernel_rfl) (decide_eq_true hc22) ?_
    refine ge_batch [4, 5, 6, 7] (ans := []) (vs := [(185, .bool (decide (x2 < (IntKind.i64.wrap ((IntKind.i64.wrap ((IntKind.i64.wrap (Int.fdiv (IntKind.u64.wrap (IntKind.i64.wrap (x1 + x3))) (2 ^ 1))) + x2)) - z18))))), (184, .bool (decide (x2 < (IntKind.i64.wrap ((IntKind.i64.wrap ((IntKind.i64.wrap (Int.fdiv (IntKind.u64.wrap (IntKind.i64.wrap (x1 + x3))) (2 ^ 1))) + x2)) - z18))))), (183, .int .i64 (IntKind.i64.wrap ((IntKind.i64.wrap ((IntKind.i64.wrap (Int.fdiv (IntKind.u64.wrap (IntKind.i64.wrap (x1 + x3))) (2 ^ 1))) + x2)) - z18))), (182, .int .i64 x2)]) (l := []) (by kernel_rfl) trivial ?_
    refine ge_nil fun a hF => hK44 _ _ ?_ a hF
    by_cases hc23 : x2 < (IntKind.i64.wrap ((IntKind.i64.wrap ((IntKind.i64.wrap (Int.fdiv (IntKind.u64.wrap (IntKind.i64.wrap (x1 + x3))) (2 ^ 1))) + x2)) - z18))
    · rw [if_pos hc23] at h
      refine we_known (t := 185) (b := decide (x2 < (IntKind.i64.wrap ((IntKind.i64.wrap ((IntKind.i64.wrap (Int.fdiv (IntKind.u64.wrap (IntKind.i64.wrap (x1 + x3))) (2 ^ 1))) + x2)) - z18)))) (v := true) (by kernel_rfl) (decide_eq_true hc23) ?_
      refine we_true (by kernel_rfl) ?_
      refine we_region [(0, 0), (1, 0), (2, 0), (3, 0), (4, 0), (5, 2)] rfl ?_
      refine ge_batch [0, 1, 2, 3, 4] (ans := []) (vs := [(190, .func (.func 79) #[] #[]), (189, .int .i64 (IntKind.i64.wrap ((IntKind.i64.wrap ((IntKind.i64.wrap (Int.fdiv (IntKind.u64.wrap (IntKind.i64.wrap (x1 + x3))) (2 ^ 1))) + x2)) - z18))), (188, .int .i64 x2), (187, .int .i64 z18), (186, (.slice A0 l0.length c0))]) (l := []) (by kernel_rfl) trivial ?_
      rcases hq10 : slices_rotateCmpFunc_api_Come.f K l0 z18 x2 (IntKind.i64.wrap ((IntKind.i64.wrap ((IntKind.i64.wrap (Int.fdiv (IntKind.u64.wrap (IntKind.i64.wrap (x1 + x3))) (2 ^ 1))) + x2)) - z18)) with _ | r1
      · rw [hq10] at h; cases h
      rw [hq10] at h
      simp only [] at h
      have hS75 : St w0 w [Own.of (.slice A0 l0.length c0) 53 l0, Own.all [Own.all LT]] := hS.packN 1
      refine ge_call2 (m := 0) (d := some 191) (f := 118) (args := #[.slice A0 l0.length c0, .int .i64 z18, .int .i64 x2, .int .i64 (IntKind.i64.wrap ((IntKind.i64.wrap ((IntKind.i64.wrap (Int.fdiv (IntKind.u64.wrap (IntKind.i64.wrap (x1 + x3))) (2 ^ 1))) + x2)) - z18)), .func (.func 79) #[] #[]]) (by kernel_rfl) (slices_rotateCmpFunc_api_Come_ok K l0 A0 c0 z18 x2 (IntKind.i64.wrap ((IntKind.i64.wrap ((IntKind.i64.wrap (Int.fdiv (IntKind.u64.wrap (IntKind.i64.wrap (x1 + x3))) (2 ^ 1))) + x2)) - z18)) _ _ _ hS75 _ hq10) ?_
      rintro _ w14 ⟨rfl, hE5, hS74⟩
      refine ⟨_, rfl, ?_⟩
      have hS76 : St w0 w14 [Own.of (.slice A0 r1.length c0) 53 r1, Own.all LT] := hS74.unpack [Own.of (.slice A0 r1.length c0) 53 r1]
      refine ge_same (t := 0) (v := (.slice A0 l0.length c0)) (v' := (.slice A0 r1.length c0)) (by kernel_rfl) (by rw [show l0.length = r1.length from hE5]) ?_
      refine ge_same (t := 186) (v := (.slice A0 l0.length c0)) (v' := (.slice A0 r1.length c0)) (by kernel_rfl) (by rw [show l0.length = r1.length from hE5]) ?_
      have hLio6 : l0.length = r1.length := Eq.trans rfl hE5
      have hS77 := hS76.bring 1 rfl
      have hS78 := hS77.bring 1 rfl
      obtain rfl := Option.some.inj h
      exact ge_nil fun a hF => hQ _ _ _ (Outs.again ⟨hLio6, hS78, hF.weaken ⟨by kernel_rfl, by kernel_rfl, by kernel_rfl, by kernel_rfl, by kernel_rfl, by kernel_rfl, by kernel_rfl, trivial⟩⟩)
    · rw [if_neg hc23] at h
      refine we_known (t := 185) (b := decide (x2 < (IntKind.i64.wrap ((IntKind.i64.wrap ((IntKind.i64.wrap (Int.fdiv (IntKind.u64.wrap (IntKind.i64.wrap (x1 + x3))) (2 ^ 1))) + x2)) - z18)))) (v := false) (by kernel_rfl) (decide_eq_false hc23) ?_
      refine we_false (by kernel_rfl) ?_
      have hS79 := hS.bring 1 rfl
      have hS80 := hS79.bring 1 rfl
      obtain rfl := Option.some.inj h
      exact we_skip fun a hF => hQ _ _ _ (Outs.again ⟨rfl, hS80, hF.weaken ⟨by kernel_rfl, by kernel_rfl, by kernel_rfl, by kernel_rfl, by kernel_rfl, by kernel_rfl, by kernel_rfl, trivial⟩⟩)
  · rw [if_neg hc22] at h
    refine ge_known (t := 181) (b := decide (z18 < x2)) (c := false) (by kernel_rfl) (decide_eq_false hc22) ?_
    refine ge_batch [4, 5, 6, 7] (ans := []) (vs := [(185, .bool false), (184, undef), (183, undef), (182, undef)]) (l := []) (by kernel_rfl) trivial ?_
    refine ge_nil fun a hF => hK44 _ _ ?_ a hF
    refine we_false (by kernel_rfl) ?_
    have hS81 := hS.bring 1 rfl
    have hS82 := hS81.bring 1 rfl
    obtain rfl := Option.some.inj h
    exact we_skip fun a hF => hQ _ _ _ (Outs.again ⟨rfl, hS82, hF.weaken ⟨by kernel_rfl, by kernel_rfl, by kernel_rfl, by kernel_rfl, by kernel_rfl, by kernel_rfl, by kernel_rfl, trivial⟩⟩)
theorem slices_symMergeCmpFunc_api_Come_step (K : Nat) (recf : (List SCome) → Int → Int → Int → Option (List SCome)) (hrec : ∀ (l0 : List SCome) (A0 : Option Addr) (c0 : Nat) (x1 : Int) (x2 : Int) (x3 : Int) (w0 wE : World) (LT : List Own) (hS : St w0 wE [Own.of (.slice A0 l0.length c0) 53 l0, Own.all LT]) (r : List SCome) (h : recf l0 x1 x2 x3 = some r), Calls Tryd.prog 106 #[(.slice A0 l0.length c0), .int .i64 x1, .int .i64 x2, .int .i64 x3, .func (.func 79) #[] #[]] wE (slices_symMergeCmpFunc_api_Come.Post w0 l0 A0 c0 x1 x2 x3 LT r)) (l0 : List SCome) (A0 : Option Addr) (c0 : Nat) (x1 : Int) (x2 : Int) (x3 : Int) (w0 wE : World) (LT : List Own) (hS : St w0 wE [Own.of (.slice A0 l0.length c0) 53 l0, Own.all LT]) (r : List SCome) (h : slices_symMergeCmpFunc_api_Come.b K recf l0 x1 x2 x3 = some r) :
    Calls Tryd.prog 106 #[(.slice A0 l0.length c0), .int .i64 x1, .int .i64 x2, .int .i64 x3, .func (.func 79) #[] #[]] wE (slices_symMergeCmpFunc_api_Come.Post w0 l0 A0 c0 x1 x2 x3 LT r) := by
  unfold slices_symMergeCmpFunc_api_Come.b at h
  refine calls_enter (n := 220) (args := [(.slice A0 l0.length c0), .int .i64 x1, .int .i64 x2, .int .i64 x3, .func (.func 79) #[] #[]]) (fn := Tryd.f106) rfl rfl rfl rfl ?_
  show WE _ _ _ _ [(0, (.slice A0 l0.length c0)), (1, .int .i64 x1), (2, .int .i64 x2), (3, .int .i64 x3), (4, .func (.func 79) #[] #[])] _
  refine we_seq fun K1 hK1 => ?_
  refine we_seq fun K2 hK2 => ?_
  refine we_region [(0, 0), (1, 0), (2, 0), (3, 0)] rfl ?_
  refine ge_batch [0, 1, 2, 3] (ans := []) (vs := [(28, .bool ((IntKind.i64.wrap (x2 - x1)) == 1)), (27, .int .i64 (IntKind.i64.wrap (x2 - x1))), (26, .int .i64 x1), (25, .int .i64 x2)]) (l := []) (by kernel_rfl) trivial ?_
  refine ge_nil fun a hF => hK2 _ _ ?_ a hF
  by_cases hc1 : (IntKind.i64.wrap (x2 - x1)) = 1
  · rw [if_pos hc1] at h
    refine we_known (t := 28) (b := ((IntKind.i64.wrap (x2 - x1)) == 1)) (v := true) (by kernel_rfl) (beq_iff_eq.2 hc1) ?_
    refine we_true (by kernel_rfl) ?_
    refine we_seq fun K3 hK3 => ?_
    refine we_region [(0, 0), (1, 0)] rfl ?_
    refine ge_batch [0, 1] (ans := []) (vs := [(10, .int .i64 x2), (29, .int .i64 x2)]) (l := []) (by kernel_rfl) trivial ?_
    refine ge_nil fun a hF => hK3 _ _ ?_ a hF
    refine we_seq fun K4 hK4 => ?_
    refine we_region [(0, 0), (1, 0)] rfl ?_
    refine ge_batch [0, 1] (ans := []) (vs := [(11, .int .i64 x3), (30, .int .i64 x3)]) (l := []) (by kernel_rfl) trivial ?_
    refine ge_nil fun a hF => hK4 _ _ ?_ a hF
    refine we_seq fun K5 hK5 => ?_
    refine we_block ?_
    have hS1 := hS.bring 1 rfl
    have hS2 := hS1.bring 1 rfl
    rcases hq2 : iter (slices_symMergeCmpFunc_api_Come.r0 l0 x1) K (x2, x3) with _ | (z4 | rr2)
    · rw [hq2] at h; cases h
    · rw [hq2] at h
      simp only [] at h
      refine we_iter (A := slices_symMergeCmpFunc_api_Come.A0 K w0 l0 A0 c0 x1 x2 x3 LT recf hrec hc1) (B := slices_symMergeCmpFunc_api_Come.B0 K w0 l0 A0 c0 x1 x2 x3 LT recf hrec hc1) hq2 (fun a hF => ⟨hS2, hF.weaken ⟨by kernel_rfl, by kernel_rfl, by kernel_rfl, by kernel_rfl, by kernel_rfl, trivial⟩⟩) (fun s o hf a w hA Q hQ => slices_symMergeCmpFunc_api_Come_r0 K w0 l0 A0 c0 x1 x2 x3 LT recf hrec hc1 s o hf a w hA Q hQ) ?_
      rintro _ a w2 _ ⟨rfl, hS12, hF⟩
      replace hS12 : St w0 w2 [Own.of (.slice A0 l0.length c0) 53 l0, Own.all LT] := hS12
      refine hK5 [(0, (.slice A0 l0.length c0)), (1, .int .i64 x1), (4, .func (.func 79) #[] #[]), (10, .int .i64 z4)] w2 ?_ a hF
      refine we_seq fun K10 hK10 => ?_
      refine we_seq fun K11 hK11 => ?_
      refine we_region [(0, 0), (1, 0)] rfl ?_
      refine ge_batch [0, 1] (ans := []) (vs := [(13, .int .i64 x1), (54, .int .i64 x1)]) (l := []) (by kernel_rfl) trivial ?_
      refine ge_nil fun a hF => hK11 _ _ ?_ a hF
      refine we_block ?_
      have hS13 := hS12.bring 1 rfl
      have hS14 := hS13.bring 1 rfl
      rcases hq3 : iter (slices_symMergeCmpFunc_api_Come.r1 z4) K (x1, l0) with _ | (m3 | rr1)
      · rw [hq3] at h; cases h
      · rw [hq3] at h
        simp only [] at h
        refine we_iter (A := slices_symMergeCmpFunc_api_Come.A1 K w0 l0 A0 c0 x1 x2 x3 LT recf hrec hc1 z4) (B := slices_symMergeCmpFunc_api_Come.B1 K w0 l0 A0 c0 x1 x2 x3 LT recf hrec hc1 z4) hq3 (fun a hF => ⟨rfl, hS14, hF.weaken ⟨by kernel_rfl, by kernel_rfl, by kernel_rfl, by kernel_rfl, trivial⟩⟩) (fun s o hf a w hA Q hQ => slices_symMergeCmpFunc_api_Come_r1 K w0 l0 A0 c0 x1 x2 x3 LT recf hrec hc1 z4 s o hf a w hA Q hQ) ?_
        rintro _ a w5 _ ⟨rfl, hRz1, hS26, hF⟩
        replace hS26 : St w0 w5 [Own.of (.slice A0 m3.length c0) 53 m3, Own.all LT] := hS26
        refine hK10 [(0, (.slice A0 m3.length c0)), (4, .func (.func 79) #[] #[])] w5 ?_ a hF
        have hS27 := hS26.bring 1 rfl
        have hS28 := hS27.bring 1 rfl
        obtain rfl := Option.some.inj h
        exact we_ret (post_ret (rs := []) (ans := []) (vs := []) (l := []) rfl (by kernel_rfl) trivial ⟨rfl, hRz1, hS28⟩)
      · rw [hq3] at h
        simp only [] at h
        refine we_iter (A := slices_symMergeCmpFunc_api_Come.A1 K w0 l0 A0 c0 x1 x2 x3 LT recf hrec hc1 z4) (B := slices_symMergeCmpFunc_api_Come.B1 K w0 l0 A0 c0 x1 x2 x3 LT recf hrec hc1 z4) hq3 (fun a hF => ⟨rfl, hS14, hF.weaken ⟨by kernel_rfl, by kernel_rfl, by kernel_rfl, by kernel_rfl, trivial⟩⟩) (fun s o hf a w hA Q hQ => slices_symMergeCmpFunc_api_Come_r1 K w0 l0 A0 c0 x1 x2 x3 LT recf hrec hc1 z4 s o hf a w hA Q hQ) ?_
        rintro _ a w1 _ ⟨rfl, hb⟩
        obtain rfl := Option.some.inj h
        exact hb
    · rw [hq2] at h
      simp only [] at h
      refine we_iter (A := slices_symMergeCmpFunc_api_Come.A0 K w0 l0 A0 c0 x1 x2 x3 LT recf hrec hc1) (B := slices_symMergeCmpFunc_api_Come.B0 K w0 l0 A0 c0 x1 x2 x3 LT recf hrec hc1) hq2 (fun a hF => ⟨hS2, hF.weaken ⟨by kernel_rfl, by kernel_rfl, by kernel_rfl, by kernel_rfl, by kernel_rfl, trivial⟩⟩) (fun s o hf a w hA Q hQ => slices_symMergeCmpFunc_api_Come_r0 K w0 l0 A0 c0 x1 x2 x3 LT recf hrec hc1 s o hf a w hA Q hQ) ?_
      rintro _ a w1 _ ⟨rfl, hb⟩
      obtain rfl := Option.some.inj h
      exact hb
  · rw [if_neg hc1] at h
    refine we_known (t := 28) (b := ((IntKind.i64.wrap (x2 - x1)) == 1)) (v := false) (by kernel_rfl) (beq_eq_false_iff_ne.2 hc1) ?_
    refine we_false (by kernel_rfl) ?_
    refine we_skip fun a hF => hK1 _ _ ?_ a hF
    refine we_seq fun K15 hK15 => ?_
    refine we_seq fun K16 hK16 => ?_
    refine we_region [(0, 0), (1, 0), (2, 0), (3, 0)] rfl ?_
    refine ge_batch [0, 1, 2, 3] (ans := []) (vs := [(80, .bool ((IntKind.i64.wrap (x3 - x2)) == 1)), (79, .int .i64 (IntKind.i64.wrap (x3 - x2))), (78, .int .i64 x2), (77, .int .i64 x3)]) (l := []) (by kernel_rfl) trivial ?_
    refine ge_nil fun a hF => hK16 _ _ ?_ a hF
    by_cases hc9 : (IntKind.i64.wrap (x3 - x2)) = 1
    · rw [if_pos hc9] at h
      refine we_known (t := 80) (b := ((IntKind.i64.wrap (x3 - x2)) == 1)) (v := true) (by kernel_rfl) (beq_iff_eq.2 hc9) ?_
      refine we_true (by kernel_rfl) ?_
      refine we_seq fun K17 hK17 => ?_
      refine we_region [(0, 0), (1, 0)] rfl ?_
      refine ge_batch [0, 1] (ans := []) (vs := [(14, .int .i64 x1), (81, .int .i64 x1)]) (l := []) (by kernel_rfl) trivial ?_
      refine ge_nil fun a hF => hK17 _ _ ?_ a hF
      refine we_seq fun K18 hK18 => ?_
      refine we_region [(0, 0), (1, 0)] rfl ?_
      refine ge_batch [0, 1] (ans := []) (vs := [(15, .int .i64 x2), (82, .int .i64 x2)]) (l := []) (by kernel_rfl) trivial ?_
      refine ge_nil fun a hF => hK18 _ _ ?_ a hF
      refine we_seq fun K19 hK19 => ?_
      refine we_block ?_
      have hS29 := hS.bring 1 rfl
      have hS30 := hS29.bring 1 rfl
      rcases hq5 : iter (slices_symMergeCmpFunc_api_Come.r2 l0 x2) K (x1, x2) with _ | (z9 | rr4)
      · rw [hq5] at h; cases h
      · rw [hq5] at h
        simp only [] at h
        refine we_iter (A := slices_symMergeCmpFunc_api_Come.A2 K w0 l0 A0 c0 x1 x2 x3 LT recf hrec hc1 hc9) (B := slices_symMergeCmpFunc_api_Come.B2 K w0 l0 A0 c0 x1 x2 x3 LT recf hrec hc1 hc9) hq5 (fun a hF => ⟨hS30, hF.weaken ⟨by kernel_rfl, by kernel_rfl, by kernel_rfl, by kernel_rfl, by kernel_rfl, trivial⟩⟩) (fun s o hf a w hA Q hQ => slices_symMergeCmpFunc_api_Come_r2 K w0 l0 A0 c0 x1 x2 x3 LT recf hrec hc1 hc9 s o hf a w hA Q hQ) ?_
        rintro _ a w7 _ ⟨rfl, hS40, hF⟩
        replace hS40 : St w0 w7 [Own.of (.slice A0 l0.length c0) 53 l0, Own.all LT] := hS40
        refine hK19 [(0, (.slice A0 l0.length c0)), (2, .int .i64 x2), (4, .func (.func 79) #[] #[]), (14, .int .i64 z9)] w7 ?_ a hF
        refine we_seq fun K24 hK24 => ?_
        refine we_seq fun K25 hK25 => ?_
        refine we_region [(0, 0), (1, 0)] rfl ?_
        refine ge_batch [0, 1] (ans := []) (vs := [(17, .int .i64 x2), (107, .int .i64 x2)]) (l := []) (by kernel_rfl) trivial ?_
        refine ge_nil fun a hF => hK25 _ _ ?_ a hF
        refine we_block ?_
        have hS41 := hS40.bring 1 rfl
        have hS42 := hS41.bring 1 rfl
        rcases hq6 : iter (slices_symMergeCmpFunc_api_Come.r3 z9) K (x2, l0) with _ | (m6 | rr3)
        · rw [hq6] at h; cases h
        · rw [hq6] at h
          simp only [] at h
          refine we_iter (A := slices_symMergeCmpFunc_api_Come.A3 K w0 l0 A0 c0 x1 x2 x3 LT recf hrec hc1 hc9 z9) (B := slices_symMergeCmpFunc_api_Come.B3 K w0 l0 A0 c0 x1 x2 x3 LT recf hrec hc1 hc9 z9) hq6 (fun a hF => ⟨rfl, hS42, hF.weaken ⟨by kernel_rfl, by kernel_rfl, by kernel_rfl, by kernel_rfl, trivial⟩⟩) (fun s o hf a w hA Q hQ => slices_symMergeCmpFunc_api_Come_r3 K w0 l0 A0 c0 x1 x2 x3 LT recf hrec hc1 hc9 z9 s o hf a w hA Q hQ) ?_
          rintro _ a w10 _ ⟨rfl, hRz2, hS54, hF⟩
          replace hS54 : St w0 w10 [Own.of (.slice A0 m6.length c0) 53 m6, Own.all LT] := hS54
          refine hK24 [(0, (.slice A0 m6.length c0)), (4, .func (.func 79) #[] #[])] w10 ?_ a hF
          have hS55 := hS54.bring 1 rfl
          have hS56 := hS55.bring 1 rfl
          obtain rfl := Option.some.inj h
          exact we_ret (post_ret (rs := []) (ans := []) (vs := []) (l := []) rfl (by kernel_rfl) trivial ⟨rfl, hRz2, hS56⟩)
        · rw [hq6] at h
          simp only [] at h
          refine we_iter (A := slices_symMergeCmpFunc_api_Come.A3 K w0 l0 A0 c0 x1 x2 x3 LT recf hrec hc1 hc9 z9) (B := slices_symMergeCmpFunc_api_Come.B3 K w0 l0 A0 c0 x1 x2 x3 LT recf hrec hc1 hc9 z9) hq6 (fun a hF => ⟨rfl, hS42, hF.weaken ⟨by kernel_rfl, by kernel_rfl, by kernel_rfl, by kernel_rfl, trivial⟩⟩) (fun s o hf a w hA Q hQ => slices_symMergeCmpFunc_api_Come_r3 K w0 l0 A0 c0 x1 x2 x3 LT recf hrec hc1 hc9 z9 s o hf a w hA Q hQ) ?_
          rintro _ a w1 _ ⟨rfl, hb⟩
          obtain rfl := Option.some.inj h
          exact hb
      · rw [hq5] at h
        simp only [] at h
        refine we_iter (A := slices_symMergeCmpFunc_api_Come.A2 K w0 l0 A0 c0 x1 x2 x3 LT recf hrec hc1 hc9) (B := slices_symMergeCmpFunc_api_Come.B2 K w0 l0 A0 c0 x1 x2 x3 LT recf hrec hc1 hc9) hq5 (fun a hF => ⟨hS30, hF.weaken ⟨by kernel_rfl, by kernel_rfl, by kernel_rfl, by kernel_rfl, by kernel_rfl, trivial⟩⟩) (fun s o hf a w hA Q hQ => slices_symMergeCmpFunc_api_Come_r2 K w0 l0 A0 c0 x1 x2 x3 LT recf hrec hc1 hc9 s o hf a w hA Q hQ) ?_
        rintro _ a w1 _ ⟨rfl, hb⟩
        obtain rfl := Option.some.inj h
        exact hb
    · rw [if_neg hc9] at h
      refine we_known (t := 80) (b := ((IntKind.i64.wrap (x3 - x2)) == 1)) (v := false) (by kernel_rfl) (beq_eq_false_iff_ne.2 hc9) ?_
      refine we_false (by kernel_rfl) ?_
      refine we_skip fun a hF => hK15 _ _ ?_ a hF
      refine we_seq fun K29 hK29 => ?_
      refine we_region [(0, 0), (1, 0), (2, 0), (3, 0), (4, 0), (5, 0), (6, 0)] rfl ?_
      refine ge_batch [0, 1, 2, 3, 4, 5, 6] (ans := []) (vs := [(18, .int .i64 (IntKind.i64.wrap (Int.fdiv (IntKind.u64.wrap (IntKind.i64.wrap (x1 + x3))) (2 ^ 1)))), (134, .int .i64 (IntKind.i64.wrap (Int.fdiv (IntKind.u64.wrap (IntKind.i64.wrap (x1 + x3))) (2 ^ 1)))), (133, .int .u64 (Int.fdiv (IntKind.u64.wrap (IntKind.i64.wrap (x1 + x3))) (2 ^ 1))), (132, .int .u64 (IntKind.u64.wrap (IntKind.i64.wrap (x1 + x3)))), (131, .int .i64 (IntKind.i64.wrap (x1 + x3))), (130, .int .i64 x3), (129, .int .i64 x1)]) (l := []) (by kernel_rfl) trivial ?_
      refine ge_nil fun a hF => hK29 _ _ ?_ a hF
      refine we_seq fun K30 hK30 => ?_
      refine we_region [(0, 0), (1, 0), (2, 0), (3, 0)] rfl ?_
      refine ge_batch [0, 1, 2, 3] (ans := []) (vs := [(19, .int .i64 (IntKind.i64.wrap ((IntKind.i64.wrap (Int.fdiv (IntKind.u64.wrap (IntKind.i64.wrap (x1 + x3))) (2 ^ 1))) + x2))), (137, .int .i64 (IntKind.i64.wrap ((IntKind.i64.wrap (Int.fdiv (IntKind.u64.wrap (IntKind.i64.wrap (x1 + x3))) (2 ^ 1))) + x2))), (136, .int .i64 x2), (135, .int .i64 (IntKind.i64.wrap (Int.fdiv (IntKind.u64.wrap (IntKind.i64.wrap (x1 + x3))) (2 ^ 1))))]) (l := []) (by kernel_rfl) trivial ?_
      refine ge_nil fun a hF => hK30 _ _ ?_ a hF
      refine we_seq fun K31 hK31 => ?_
      refine we_region [(0, 0), (1, 0)] rfl ?_
      refine ge_batch [0, 1] (ans := []) (vs := [(21, .int .i64 0), (20, .int .i64 0)]) (l := []) (by kernel_rfl) trivial ?_
      refine ge_nil fun a hF => hK31 _ _ ?_ a hF
      refine we_seq fun K32 hK32 => ?_
      rcases hq7 : slices_symMergeCmpFunc_api_Come.p4 x1 x2 x3 with _ | (⟨z13, z14⟩ | rr7)
      · rw [hq7] at h; cases h
      · rw [hq7] at h
        simp only [] at h
        refine we_keep (e' := [(0, (.slice A0 l0.length c0)), (1, .int .i64 x1), (2, .int .i64 x2), (3, .int .i64 x3), (4, .func (.func 79) #[] #[]), (18, .int .i64 (IntKind.i64.wrap (Int.fdiv (IntKind.u64.wrap (IntKind.i64.wrap (x1 + x3))) (2 ^ 1)))), (19, .int .i64 (IntKind.i64.wrap ((IntKind.i64.wrap (Int.fdiv (IntKind.u64.wrap (IntKind.i64.wrap (x1 + x3))) (2 ^ 1))) + x2))), (20, .int .i64 0), (21, .int .i64 0), (25, .int .i64 x2), (26, .int .i64 x1), (27, .int .i64 (IntKind.i64.wrap (x2 - x1))), (28, .bool false), (77, .int .i64 x3), (78, .int .i64 x2), (79, .int .i64 (IntKind.i64.wrap (x3 - x2))), (80, .bool false), (129, .int .i64 x1), (130, .int .i64 x3), (131, .int .i64 (IntKind.i64.wrap (x1 + x3))), (132, .int .u64 (IntKind.u64.wrap (IntKind.i64.wrap (x1 + x3)))), (133, .int .u64 (Int.fdiv (IntKind.u64.wrap (IntKind.i64.wrap (x1 + x3))) (2 ^ 1))), (134, .int .i64 (IntKind.i64.wrap (Int.fdiv (IntKind.u64.wrap (IntKind.i64.wrap (x1 + x3))) (2 ^ 1)))), (135, .int .i64 (IntKind.i64.wrap (Int.fdiv (IntKind.u64.wrap (IntKind.i64.wrap (x1 + x3))) (2 ^ 1)))), (136, .int .i64 x2), (137, .int .i64 (IntKind.i64.wrap ((IntKind.i64.wrap (Int.fdiv (IntKind.u64.wrap (IntKind.i64.wrap (x1 + x3))) (2 ^ 1))) + x2)))]) ⟨by kernel_rfl, by kernel_rfl, by kernel_rfl, by kernel_rfl, by kernel_rfl, by kernel_rfl, by kernel_rfl, by kernel_rfl, by kernel_rfl, by kernel_rfl, by kernel_rfl, by kernel_rfl, by kernel_rfl, by kernel_rfl, by kernel_rfl, by kernel_rfl, by kernel_rfl, by kernel_rfl, by kernel_rfl, by kernel_rfl, by kernel_rfl, by kernel_rfl, by kernel_rfl, by kernel_rfl, by kernel_rfl, by kernel_rfl, trivial⟩ (slices_symMergeCmpFunc_api_Come_p4 K w0 l0 A0 c0 x1 x2 x3 LT recf hrec hc1 hc9 _ hq7 _ hS _ ?_)
        rintro _ a w11 ⟨rfl, hS61, hF⟩
        replace hS61 : St w0 w11 [Own.of (.slice A0 l0.length c0) 53 l0, Own.all LT] := hS61
        refine hK32 [(0, (.slice A0 l0.length c0)), (1, .int .i64 x1), (2, .int .i64 x2), (3, .int .i64 x3), (4, .func (.func 79) #[] #[]), (18, .int .i64 (IntKind.i64.wrap (Int.fdiv (IntKind.u64.wrap (IntKind.i64.wrap (x1 + x3))) (2 ^ 1)))), (19, .int .i64 (IntKind.i64.wrap ((IntKind.i64.wrap (Int.fdiv (IntKind.u64.wrap (IntKind.i64.wrap (x1 + x3))) (2 ^ 1))) + x2))), (20, .int .i64 z13), (21, .int .i64 z14)] w11 ?_ a hF
        refine we_seq fun K36 hK36 => ?_
        refine we_region [(0, 0), (1, 0), (2, 0)] rfl ?_
        refine ge_batch [0, 1, 2] (ans := []) (vs := [(22, .int .i64 (IntKind.i64.wrap ((IntKind.i64.wrap ((IntKind.i64.wrap (Int.fdiv (IntKind.u64.wrap (IntKind.i64.wrap (x1 + x3))) (2 ^ 1))) + x2)) - 1))), (148, .int .i64 (IntKind.i64.wrap ((IntKind.i64.wrap ((IntKind.i64.wrap (Int.fdiv (IntKind.u64.wrap (IntKind.i64.wrap (x1 + x3))) (2 ^ 1))) + x2)) - 1))), (147, .int .i64 (IntKind.i64.wrap ((IntKind.i64.wrap (Int.fdiv (IntKind.u64.wrap (IntKind.i64.wrap (x1 + x3))) (2 ^ 1))) + x2)))]) (l := []) (by kernel_rfl) trivial ?_
        refine ge_nil fun a hF => hK36 _ _ ?_ a hF
        refine we_seq fun K37 hK37 => ?_
        refine we_block ?_
        have hS62 := hS61.bring 1 rfl
        have hS63 := hS62.bring 1 rfl
        rcases hq9 : iter (slices_symMergeCmpFunc_api_Come.r5 l0 x1 x2 x3) K (z13, z14) with _ | (z18 | rr6)
        · rw [hq9] at h; cases h
        · rw [hq9] at h
          simp only [] at h
          refine we_iter (A := slices_symMergeCmpFunc_api_Come.A5 K w0 l0 A0 c0 x1 x2 x3 LT recf hrec hc1 hc9 z13 z14) (B := slices_symMergeCmpFunc_api_Come.B5 K w0 l0 A0 c0 x1 x2 x3 LT recf hrec hc1 hc9 z13 z14) hq9 (fun a hF => ⟨hS63, hF.weaken ⟨by kernel_rfl, by kernel_rfl, by kernel_rfl, by kernel_rfl, by kernel_rfl, by kernel_rfl, by kernel_rfl, by kernel_rfl, by kernel_rfl, by kernel_rfl, trivial⟩⟩) (fun s o hf a w hA Q hQ => slices_symMergeCmpFunc_api_Come_r5 K w0 l0 A0 c0 x1 x2 x3 LT recf hrec hc1 hc9 z13 z14 s o hf a w hA Q hQ) ?_
          rintro _ a w13 _ ⟨rfl, hS73, hF⟩
          replace hS73 : St w0 w13 [Own.of (.slice A0 l0.length c0) 53 l0, Own.all LT] := hS73
          refine hK37 [(0, (.slice A0 l0.length c0)), (1, .int .i64 x1), (2, .int .i64 x2), (3, .int .i64 x3), (4, .func (.func 79) #[] #[]), (18, .int .i64 (IntKind.i64.wrap (Int.fdiv (IntKind.u64.wrap (IntKind.i64.wrap (x1 + x3))) (2 ^ 1)))), (19, .int .i64 (IntKind.i64.wrap ((IntKind.i64.wrap (Int.fdiv (IntKind.u64.wrap (IntKind.i64.wrap (x1 + x3))) (2 ^ 1))) + x2))), (20, .int .i64 z18)] w13 ?_ a hF
          refine we_seq fun K42 hK42 => ?_
          refine we_region [(0, 0), (1, 0), (2, 0), (3, 0)] rfl ?_
          refine ge_batch [0, 1, 2, 3] (ans := []) (vs := [(24, .int .i64 (IntKind.i64.wrap ((IntKind.i64.wrap ((IntKind.i64.wrap (Int.fdiv (IntKind.u64.wrap (IntKind.i64.wrap (x1 + x3))) (2 ^ 1))) + x2)) - z18))), (177, .int .i64 (IntKind.i64.wrap ((IntKind.i64.wrap ((IntKind.i64.wrap (Int.fdiv (IntKind.u64.wrap (IntKind.i64.wrap (x1 + x3))) (2 ^ 1))) + x2)) - z18))), (176, .int .i64 z18), (175, .int .i64 (IntKind.i64.wrap ((IntKind.i64.wrap (Int.fdiv (IntKind.u64.wrap (IntKind.i64.wrap (x1 + x3))) (2 ^ 1))) + x2)))]) (l := []) (by kernel_rfl) trivial ?_
          refine ge_nil fun a hF => hK42 _ _ ?_ a hF
          refine we_seq fun K43 hK43 => ?_
          rcases hq11 : slices_symMergeCmpFunc_api_Come.p6 K l0 x1 x2 x3 z18 with _ | (m8 | rr5)
          · rw [hq11] at h; cases h
          · rw [hq11] at h
            simp only [] at h
            refine we_keep (e' := [(0, (.slice A0 l0.length c0)), (1, .int .i64 x1), (2, .int .i64 x2), (3, .int .i64 x3), (4, .func (.func 79) #[] #[]), (18, .int .i64 (IntKind.i64.wrap (Int.fdiv (IntKind.u64.wrap (IntKind.i64.wrap (x1 + x3))) (2 ^ 1)))), (19, .int .i64 (IntKind.i64.wrap ((IntKind.i64.wrap (Int.fdiv (IntKind.u64.wrap (IntKind.i64.wrap (x1 + x3))) (2 ^ 1))) + x2))), (20, .int .i64 z18), (24, .int .i64 (IntKind.i64.wrap ((IntKind.i64.wrap ((IntKind.i64.wrap (Int.fdiv (IntKind.u64.wrap (IntKind.i64.wrap (x1 + x3))) (2 ^ 1))) + x2)) - z18))), (175, .int .i64 (IntKind.i64.wrap ((IntKind.i64.wrap (Int.fdiv (IntKind.u64.wrap (IntKind.i64.wrap (x1 + x3))) (2 ^ 1))) + x2))), (176, .int .i64 z18), (177, .int .i64 (IntKind.i64.wrap ((IntKind.i64.wrap ((IntKind.i64.wrap (Int.fdiv (IntKind.u64.wrap (IntKind.i64.wrap (x1 + x3))) (2 ^ 1))) + x2)) - z18)))]) ⟨by kernel_rfl, by kernel_rfl, by kernel_rfl, by kernel_rfl, by kernel_rfl, by kernel_rfl, by kernel_rfl, by kernel_rfl, by kernel_rfl, by kernel_rfl, by kernel_rfl, by kernel_rfl, trivial⟩ (slices_symMergeCmpFunc_api_Come_p6 K w0 l0 A0 c0 x1 x2 x3 LT recf hrec hc1 hc9 z13 z14 z18 _ hq11 _ hS73 _ ?_)
            rintro _ a w15 ⟨rfl, hRz3, hS83, hF⟩
            replace hS83 : St w0 w15 [Own.of (.slice A0 m8.length c0) 53 m8, Own.all LT] := hS83
            refine hK43 [(0, (.slice A0 m8.length c0)), (1, .int .i64 x1), (3, .int .i64 x3), (4, .func (.func 79) #[] #[]), (18, .int .i64 (IntKind.i64.wrap (Int.fdiv (IntKind.u64.wrap (IntKind.i64.wrap (x1 + x3))) (2 ^ 1)))), (20, .int .i64 z18), (24, .int .i64 (IntKind.i64.wrap ((IntKind.i64.wrap ((IntKind.i64.wrap (Int.fdiv (IntKind.u64.wrap (IntKind.i64.wrap (x1 + x3))) (2 ^ 1))) + x2)) - z18)))] w15 ?_ a hF
            refine we_seq fun K45 hK45 => ?_
            refine we_seq fun K46 hK46 => ?_
            refine we_region [(0, 0), (1, 0), (2, 0), (3, 0), (4, 0), (5, 0), (6, 0), (7, 0)] rfl ?_
            refine ge_batch [0, 1, 2, 3] (ans := []) (vs := [(195, .bool (decide (x1 < z18))), (194, .bool (decide (x1 < z18))), (193, .int .i64 z18), (192, .int .i64 x1)]) (l := []) (by kernel_rfl) trivial ?_
            by_cases hc24 : x1 < z18
            · rw [if_pos hc24] at h
              refine ge_known (t := 195) (b := decide (x1 < z18)) (c := true) (by kernel_rfl) (decide_eq_true hc24) ?_
              refine ge_batch [4, 5, 6, 7] (ans := []) (vs := [(199, .bool (decide (z18 < (IntKind.i64.wrap (Int.fdiv (IntKind.u64.wrap (IntKind.i64.wrap (x1 + x3))) (2 ^ 1)))))), (198, .bool (decide (z18 < (IntKind.i64.wrap (Int.fdiv (IntKind.u64.wrap (IntKind.i64.wrap (x1 + x3))) (2 ^ 1)))))), (197, .int .i64 (IntKind.i64.wrap (Int.fdiv (IntKind.u64.wrap (IntKind.i64.wrap (x1 + x3))) (2 ^ 1)))), (196, .int .i64 z18)]) (l := []) (by kernel_rfl) trivial ?_
              refine ge_nil fun a hF => hK46 _ _ ?_ a hF
              by_cases hc25 : z18 < (IntKind.i64.wrap (Int.fdiv (IntKind.u64.wrap (IntKind.i64.wrap (x1 + x3))) (2 ^ 1)))
              · rw [if_pos hc25] at h
                refine we_known (t := 199) (b := decide (z18 < (IntKind.i64.wrap (Int.fdiv (IntKind.u64.wrap (IntKind.i64.wrap (x1 + x3))) (2 ^ 1))))) (v := true) (by kernel_rfl) (decide_eq_true hc25) ?_
                refine we_true (by kernel_rfl) ?_
                refine we_region [(0, 0), (1, 0), (2, 0), (3, 0), (4, 0), (5, 2)] rfl ?_
                refine ge_batch [0, 1, 2, 3, 4] (ans := []) (vs := [(204, .func (.func 79) #[] #[]), (203, .int .i64 (IntKind.i64.wrap (Int.fdiv (IntKind.u64.wrap (IntKind.i64.wrap (x1 + x3))) (2 ^ 1)))), (202, .int .i64 z18), (201, .int .i64 x1), (200, (.slice A0 m8.length c0))]) (l := []) (by kernel_rfl) trivial ?_
                rcases hq12 : recf m8 x1 z18 (IntKind.i64.wrap (Int.fdiv (IntKind.u64.wrap (IntKind.i64.wrap (x1 + x3))) (2 ^ 1))) with _ | r2
                · rw [hq12] at h; cases h
                rw [hq12] at h
                simp only [] at h
                have hS85 : St w0 w15 [Own.of (.slice A0 m8.length c0) 53 m8, Own.all [Own.all LT]] := hS83.packN 1
                refine ge_call2 (m := 0) (d := some 205) (f := 106) (args := #[.slice A0 m8.length c0, .int .i64 x1, .int .i64 z18, .int .i64 (IntKind.i64.wrap (Int.fdiv (IntKind.u64.wrap (IntKind.i64.wrap (x1 + x3))) (2 ^ 1))), .func (.func 79) #[] #[]]) (by kernel_rfl) (hrec m8 A0 c0 x1 z18 (IntKind.i64.wrap (Int.fdiv (IntKind.u64.wrap (IntKind.i64.wrap (x1 + x3))) (2 ^ 1))) _ _ _ hS85 _ hq12) ?_
                rintro _ w16 ⟨rfl, hE6, hS84⟩
                refine ⟨_, rfl, ?_⟩
                have hS86 : St w0 w16 [Own.of (.slice A0 r2.length c0) 53 r2, Own.all LT] := hS84.unpack [Own.of (.slice A0 r2.length c0) 53 r2]
                refine ge_same (t := 0) (v := (.slice A0 m8.length c0)) (v' := (.slice A0 r2.length c0)) (by kernel_rfl) (by rw [show m8.length = r2.length from hE6]) ?_
                refine ge_same (t := 200) (v := (.slice A0 m8.length c0)) (v' := (.slice A0 r2.length c0)) (by kernel_rfl) (by rw [show m8.length = r2.length from hE6]) ?_
                have hLio7 : l0.length = r2.length := Eq.trans hRz3 hE6
                refine ge_nil fun a hF => hK45 _ _ ?_ a hF
                refine we_seq fun K47 hK47 => ?_
                refine we_region [(0, 0), (1, 0), (2, 0), (3, 0), (4, 0), (5, 0), (6, 0), (7, 0)] rfl ?_
                refine ge_batch [0, 1, 2, 3] (ans := []) (vs := [(209, .bool (decide ((IntKind.i64.wrap (Int.fdiv (IntKind.u64.wrap (IntKind.i64.wrap (x1 + x3))) (2 ^ 1))) < (IntKind.i64.wrap ((IntKind.i64.wrap ((IntKind.i64.wrap (Int.fdiv (IntKind.u64.wrap (IntKind.i64.wrap (x1 + x3))) (2 ^ 1))) + x2)) - z18))))), (208, .bool (decide ((IntKind.i64.wrap (Int.fdiv (IntKind.u64.wrap (IntKind.i64.wrap (x1 + x3))) (2 ^ 1))) < (IntKind.i64.wrap ((IntKind.i64.wrap ((IntKind.i64.wrap (Int.fdiv (IntKind.u64.wrap (IntKind.i64.wrap (x1 + x3))) (2 ^ 1))) + x2)) - z18))))), (207, .int .i64 (IntKind.i64.wrap ((IntKind.i64.wrap ((IntKind.i64.wrap (Int.fdiv (IntKind.u64.wrap (IntKind.i64.wrap (x1 + x3))) (2 ^ 1))) + x2)) - z18))), (206, .int .i64 (IntKind.i64.wrap (Int.fdiv (IntKind.u64.wrap (IntKind.i64.wrap (x1 + x3))) (2 ^ 1))))]) (l := []) (by kernel_rfl) trivial ?_
                by_cases hc26 : (IntKind.i64.wrap (Int.fdiv (IntKind.u64.wrap (IntKind.i64.wrap (x1 + x3))) (2 ^ 1))) < (IntKind.i64.wrap ((IntKind.i64.wrap ((IntKind.i64.wrap (Int.fdiv (IntKind.u64.wrap (IntKind.i64.wrap (x1 + x3))) (2 ^ 1))) + x2)) - z18))
                · rw [if_pos hc26] at h
                  refine ge_known (t := 209) (b := decide ((IntKind.i64.wrap (Int.fdiv (IntKind.u64.wrap (IntKind.i64.wrap (x1 + x3))) (2 ^ 1))) < (IntKind.i64.wrap ((IntKind.i64.wrap ((IntKind.i64.wrap (Int.fdiv (IntKind.u64.wrap (IntKind.i64.wrap (x1 + x3))) (2 ^ 1))) + x2)) - z18)))) (c := true) (by kernel_rfl) (decide_eq_true hc26) ?_
                  refine ge_batch [4, 5, 6, 7] (ans := []) (vs := [(213, .bool (decide ((IntKind.i64.wrap ((IntKind.i64.wrap ((IntKind.i64.wrap (Int.fdiv (IntKind.u64.wrap (IntKind.i64.wrap (x1 + x3))) (2 ^ 1))) + x2)) - z18)) < x3))), (212, .bool (decide ((IntKind.i64.wrap ((IntKind.i64.wrap ((IntKind.i64.wrap (Int.fdiv (IntKind.u64.wrap (IntKind.i64.wrap (x1 + x3))) (2 ^ 1))) + x2)) - z18)) < x3))), (211, .int .i64 x3), (210, .int .i64 (IntKind.i64.wrap ((IntKind.i64.wrap ((IntKind.i64.wrap (Int.fdiv (IntKind.u64.wrap (IntKind.i64.wrap (x1 + x3))) (2 ^ 1))) + x2)) - z18)))]) (l := []) (by kernel_rfl) trivial ?_
                  refine ge_nil fun a hF => hK47 _ _ ?_ a hF
                  by_cases hc27 : (IntKind.i64.wrap ((IntKind.i64.wrap ((IntKind.i64.wrap (Int.fdiv (IntKind.u64.wrap (IntKind.i64.wrap (x1 + x3))) (2 ^ 1))) + x2)) - z18)) < x3
                  · rw [if_pos hc27] at h
                    refine we_known (t := 213) (b := decide ((IntKind.i64.wrap ((IntKind.i64.wrap ((IntKind.i64.wrap (Int.fdiv (IntKind.u64.wrap (IntKind.i64.wrap (x1 + x3))) (2 ^ 1))) + x2)) - z18)) < x3)) (v := true) (by kernel_rfl) (decide_eq_true hc27) ?_
                    refine we_true (by kernel_rfl) ?_
                    refine we_region [(0, 0), (1, 0), (2, 0), (3, 0), (4, 0), (5, 2)] rfl ?_
                    refine ge_batch [0, 1, 2, 3, 4] (ans := []) (vs := [(218, .func (.func 79) #[] #[]), (217, .int .i64 x3), (216, .int .i64 (IntKind.i64.wrap ((IntKind.i64.wrap ((IntKind.i64.wrap (Int.fdiv (IntKind.u64.wrap (IntKind.i64.wrap (x1 + x3))) (2 ^ 1))) + x2)) - z18))), (215, .int .i64 (IntKind.i64.wrap (Int.fdiv (IntKind.u64.wrap (IntKind.i64.wrap (x1 + x3))) (2 ^ 1)))), (214, (.slice A0 r2.length c0))]) (l := []) (by kernel_rfl) trivial ?_
                    rcases hq13 : recf r2 (IntKind.i64.wrap (Int.fdiv (IntKind.u64.wrap (IntKind.i64.wrap (x1 + x3))) (2 ^ 1))) (IntKind.i64.wrap ((IntKind.i64.wrap ((IntKind.i64.wrap (Int.fdiv (IntKind.u64.wrap (IntKind.i64.wrap (x1 + x3))) (2 ^ 1))) + x2)) - z18)) x3 with _ | r3
                    · rw [hq13] at h; cases h
                    rw [hq13] at h
                    simp only [] at h
                    have hS88 : St w0 w16 [Own.of (.slice A0 r2.length c0) 53 r2, Own.all [Own.all LT]] := hS86.packN 1
                    refine ge_call2 (m := 0) (d := some 219) (f := 106) (args := #[.slice A0 r2.length c0, .int .i64 (IntKind.i64.wrap (Int.fdiv (IntKind.u64.wrap (IntKind.i64.wrap (x1 + x3))) (2 ^ 1))), .int .i64 (IntKind.i64.wrap ((IntKind.i64.wrap ((IntKind.i64.wrap (Int.fdiv (IntKind.u64.wrap (IntKind.i64.wrap (x1 + x3))) (2 ^ 1))) + x2)) - z18)), .int .i64 x3, .func (.func 79) #[] #[]]) (by kernel_rfl) (hrec r2 A0 c0 (IntKind.i64.wrap (Int.fdiv (IntKind.u64.wrap (IntKind.i64.wrap (x1 + x3))) (2 ^ 1))) (IntKind.i64.wrap ((IntKind.i64.wrap ((IntKind.i64.wrap (Int.fdiv (IntKind.u64.wrap (IntKind.i64.wrap (x1 + x3))) (2 ^ 1))) + x2)) - z18)) x3 _ _ _ hS88 _ hq13) ?_
                    rintro _ w17 ⟨rfl, hE7, hS87⟩
                    refine ⟨_, rfl, ?_⟩
                    have hS89 : St w0 w17 [Own.of (.slice A0 r3.length c0) 53 r3, Own.all LT] := hS87.unpack [Own.of (.slice A0 r3.length c0) 53 r3]
                    refine ge_same (t := 0) (v := (.slice A0 r2.length c0)) (v' := (.slice A0 r3.length c0)) (by kernel_rfl) (by rw [show r2.length = r3.length from hE7]) ?_
                    refine ge_same (t := 200) (v := (.slice A0 r2.length c0)) (v' := (.slice A0 r3.length c0)) (by kernel_rfl) (by rw [show r2.length = r3.length from hE7]) ?_
                    refine ge_same (t := 214) (v := (.slice A0 r2.length c0)) (v' := (.slice A0 r3.length c0)) (by kernel_rfl) (by rw [show r2.length = r3.length from hE7]) ?_
                    have hLio8 : l0.length = r3.length := Eq.trans hLio7 hE7
                    have hS90 := hS89.bring 1 rfl
                    have hS91 := hS90.bring 1 rfl
                    obtain rfl := Option.some.inj h
                    exact ge_nil (post_end (rs := []) (ans := []) (vs := []) (l := []) rfl (by kernel_rfl) trivial ⟨rfl, hLio8, hS91⟩)
                  · rw [if_neg hc27] at h
                    refine we_known (t := 213) (b := decide ((IntKind.i64.wrap ((IntKind.i64.wrap ((IntKind.i64.wrap (Int.fdiv (IntKind.u64.wrap (IntKind.i64.wrap (x1 + x3))) (2 ^ 1))) + x2)) - z18)) < x3)) (v := false) (by kernel_rfl) (decide_eq_false hc27) ?_
                    refine we_false (by kernel_rfl) ?_
                    have hS92 := hS86.bring 1 rfl
                    have hS93 := hS92.bring 1 rfl
                    obtain rfl := Option.some.inj h
                    exact we_skip (post_end (rs := []) (ans := []) (vs := []) (l := []) rfl (by kernel_rfl) trivial ⟨rfl, hLio7, hS93⟩)
                · rw [if_neg hc26] at h
                  refine ge_known (t := 209) (b := decide ((IntKind.i64.wrap (Int.fdiv (IntKind.u64.wrap (IntKind.i64.wrap (x1 + x3))) (2 ^ 1))) < (IntKind.i64.wrap ((IntKind.i64.wrap ((IntKind.i64.wrap (Int.fdiv (IntKind.u64.wrap (IntKind.i64.wrap (x1 + x3))) (2 ^ 1))) + x2)) - z18)))) (c := false) (by kernel_rfl) (decide_eq_false hc26) ?_
                  refine ge_batch [4, 5, 6, 7] (ans := []) (vs := [(213, .bool false), (212, undef), (211, undef), (210, undef)]) (l := []) (by kernel_rfl) trivial ?_
                  refine ge_nil fun a hF => hK47 _ _ ?_ a hF
                  refine we_false (by kernel_rfl) ?_
                  have hS94 := hS86.bring 1 rfl
                  have hS95 := hS94.bring 1 rfl
                  obtain rfl := Option.some.inj h
                  exact we_skip (post_end (rs := []) (ans := []) (vs := []) (l := []) rfl (by kernel_rfl) trivial ⟨rfl, hLio7, hS95⟩)
              · rw [if_neg hc25] at h
                refine we_known (t := 199) (b := decide (z18 < (IntKind.i64.wrap (Int.fdiv (IntKind.u64.wrap (IntKind.i64.wrap (x1 + x3))) (2 ^ 1))))) (v := false) (by kernel_rfl) (decide_eq_false hc25) ?_
                refine we_false (by kernel_rfl) ?_
                refine we_skip fun a hF => hK45 _ _ ?_ a hF
                refine we_seq fun K48 hK48 => ?_
                refine we_region [(0, 0), (1, 0), (2, 0), (3, 0), (4, 0), (5, 0), (6, 0), (7, 0)] rfl ?_
                refine ge_batch [0, 1, 2, 3] (ans := []) (vs := [(209, .bool (decide ((IntKind.i64.wrap (Int.fdiv (IntKind.u64.wrap (IntKind.i64.wrap (x1 + x3))) (2 ^ 1))) < (IntKind.i64.wrap ((IntKind.i64.wrap ((IntKind.i64.wrap (Int.fdiv (IntKind.u64.wrap (IntKind.i64.wrap (x1 + x3))) (2 ^ 1))) + x2)) - z18))))), (208, .bool (decide ((IntKind.i64.wrap (Int.fdiv (IntKind.u64.wrap (IntKind.i64.wrap (x1 + x3))) (2 ^ 1))) < (IntKind.i64.wrap ((IntKind.i64.wrap ((IntKind.i64.wrap (Int.fdiv (IntKind.u64.wrap (IntKind.i64.wrap (x1 + x3))) (2 ^ 1))) + x2)) - z18))))), (207, .int .i64 (IntKind.i64.wrap ((IntKind.i64.wrap ((IntKind.i64.wrap (Int.fdiv (IntKind.u64.wrap (IntKind.i64.wrap (x1 + x3))) (2 ^ 1))) + x2)) - z18))), (206, .int .i64 (IntKind.i64.wrap (Int.fdiv (IntKind.u64.wrap (IntKind.i64.wrap (x1 + x3))) (2 ^ 1))))]) (l := []) (by kernel_rfl) trivial ?_
                by_cases hc28 : (IntKind.i64.wrap (Int.fdiv (IntKind.u64.wrap (IntKind.i64.wrap (x1 + x3))) (2 ^ 1))) < (IntKind.i64.wrap ((IntKind.i64.wrap ((IntKind.i64.wrap (Int.fdiv (IntKind.u64.wrap (IntKind.i64.wrap (x1 + x3))) (2 ^ 1))) + x2)) - z18))
                · rw [if_pos hc28] at h
                  refine ge_known (t := 209) (b := decide ((IntKind.i64.wrap (Int.fdiv (IntKind.u64.wrap (IntKind.i64.wrap (x1 + x3))) (2 ^ 1))) < (IntKind.i64.wrap ((IntKind.i64.wrap ((IntKind.i64.wrap (Int.fdiv (IntKind.u64.wrap (IntKind.i64.wrap (x1 + x3))) (2 ^ 1))) + x2)) - z18)))) (c := true) (by kernel_rfl) (decide_eq_true hc28) ?_
                  refine ge_batch [4, 5, 6, 7] (ans := []) (vs := [(213, .bool (decide ((IntKind.i64.wrap ((IntKind.i64.wrap ((IntKind.i64.wrap (Int.fdiv (IntKind.u64.wrap (IntKind.i64.wrap (x1 + x3))) (2 ^ 1))) + x2)) - z18)) < x3))), (212, .bool (decide ((IntKind.i64.wrap ((IntKind.i64.wrap ((IntKind.i64.wrap (Int.fdiv (IntKind.u64.wrap (IntKind.i64.wrap (x1 + x3))) (2 ^ 1))) + x2)) - z18)) < x3))), (211, .int .i64 x3), (210, .int .i64 (IntKind.i64.wrap ((IntKind.i64.wrap ((IntKind.i64.wrap (Int.fdiv (IntKind.u64.wrap (IntKind.i64.wrap (x1 + x3))) (2 ^ 1))) + x2)) - z18)))]) (l := []) (by kernel_rfl) trivial ?_
                  refine ge_nil fun a hF => hK48 _ _ ?_ a hF
                  by_cases hc29 : (IntKind.i64.wrap ((IntKind.i64.wrap ((IntKind.i64.wrap (Int.fdiv (IntKind.u64.wrap (IntKind.i64.wrap (x1 + x3))) (2 ^ 1))) + x2)) - z18)) < x3
                  · rw [if_pos hc29] at h
                    refine we_known (t := 213) (b := decide ((IntKind.i64.wrap ((IntKind.i64.wrap ((IntKind.i64.wrap (Int.fdiv (IntKind.u64.wrap (IntKind.i64.wrap (x1 + x3))) (2 ^ 1))) + x2)) - z18)) < x3)) (v := true) (by kernel_rfl) (decide_eq_true hc29) ?_
                    refine we_true (by kernel_rfl) ?_
                    refine we_region [(0, 0), (1, 0), (2, 0), (3, 0), (4, 0), (5, 2)] rfl ?_
                    refine ge_batch [0, 1, 2, 3, 4] (ans := []) (vs := [(218, .func (.func 79) #[] #[]), (217, .int .i64 x3), (216, .int .i64 (IntKind.i64.wrap ((IntKind.i64.wrap ((IntKind.i64.wrap (Int.fdiv (IntKind.u64.wrap (IntKind.i64.wrap (x1 + x3))) (2 ^ 1))) + x2)) - z18))), (215, .int .i64 (IntKind.i64.wrap (Int.fdiv (IntKind.u64.wrap (IntKind.i64.wrap (x1 + x3))) (2 ^ 1)))), (214, (.slice A0 m8.length c0))]) (l := []) (by kernel_rfl) trivial ?_
                    rcases hq14 : recf m8 (IntKind.i64.wrap (Int.fdiv (IntKind.u64.wrap (IntKind.i64.wrap (x1 + x3))) (2 ^ 1))) (IntKind.i64.wrap ((IntKind.i64.wrap ((IntKind.i64.wrap (Int.fdiv (IntKind.u64.wrap (IntKind.i64.wrap (x1 + x3))) (2 ^ 1))) + x2)) - z18)) x3 with _ | r4
                    · rw [hq14] at h; cases h
                    rw [hq14] at h
                    simp only [] at h
                    have hS97 : St w0 w15 [Own.of (.slice A0 m8.length c0) 53 m8, Own.all [Own.all LT]] := hS83.packN 1
                    refine ge_call2 (m := 0) (d := some 219) (f := 106) (args := #[.slice A0 m8.length c0, .int .i64 (IntKind.i64.wrap (Int.fdiv (IntKind.u64.wrap (IntKind.i64.wrap (x1 + x3))) (2 ^ 1))), .int .i64 (IntKind.i64.wrap ((IntKind.i64.wrap ((IntKind.i64.wrap (Int.fdiv (IntKind.u64.wrap (IntKind.i64.wrap (x1 + x3))) (2 ^ 1))) + x2)) - z18)), .int .i64 x3, .func (.func 79) #[] #[]]) (by kernel_rfl) (hrec m8 A0 c0 (IntKind.i64.wrap (Int.fdiv (IntKind.u64.wrap (IntKind.i64.wrap (x1 + x3))) (2 ^ 1))) (IntKind.i64.wrap ((IntKind.i64.wrap ((IntKind.i64.wrap (Int.fdiv (IntKind.u64.wrap (IntKind.i64.wrap (x1 + x3))) (2 ^ 1))) + x2)) - z18)) x3 _ _ _ hS97 _ hq14) ?_
                    rintro _ w18 ⟨rfl, hE8, hS96⟩
                    refine ⟨_, rfl, ?_⟩
                    have hS98 : St w0 w18 [Own.of (.slice A0 r4.length c0) 53 r4, Own.all LT] := hS96.unpack [Own.of (.slice A0 r4.length c0) 53 r4]
                    refine ge_same (t := 0) (v := (.slice A0 m8.length c0)) (v' := (.slice A0 r4.length c0)) (by kernel_rfl) (by rw [show m8.length = r4.length from hE8]) ?_
                    refine ge_same (t := 214) (v := (.slice A0 m8.length c0)) (v' := (.slice A0 r4.length c0)) (by kernel_rfl) (by rw [show m8.length = r4.length from hE8]) ?_
                    have hLio9 : l0.length = r4.length := Eq.trans hRz3 hE8
                    have hS99 := hS98.bring 1 rfl
                    have hS100 := hS99.bring 1 rfl
                    obtain rfl := Option.some.inj h
                    exact ge_nil (post_end (rs := []) (ans := []) (vs := []) (l := []) rfl (by kernel_rfl) trivial ⟨rfl, hLio9, hS100⟩)
                  · rw [if_neg hc29] at h
                    refine we_known (t := 213) (b := decide ((IntKind.i64.wrap ((IntKind.i64.wrap ((IntKind.i64.wrap (Int.fdiv (IntKind.u64.wrap (IntKind.i64.wrap (x1 + x3))) (2 ^ 1))) + x2)) - z18)) < x3)) (v := false) (by kernel_rfl) (decide_eq_false hc29) ?_
                    refine we_false (by kernel_rfl) ?_
                    have hS101 := hS83.bring 1 rfl
                    have hS102 := hS101.bring 1 rfl
                    obtain rfl := Option.some.inj h
                    exact we_skip (post_end (rs := []) (ans := []) (vs := []) (l := []) rfl (by kernel_rfl) trivial ⟨rfl, hRz3, hS102⟩)
                · rw [if_neg hc28] at h
                  refine ge_known (t := 209) (b := decide ((IntKind.i64.wrap (Int.fdiv (IntKind.u64.wrap (IntKind.i64.wrap (x1 + x3))) (2 ^ 1))) < (IntKind.i64.wrap ((IntKind.i64.wrap ((IntKind.i64.wrap (Int.fdiv (IntKind.u64.wrap (IntKind.i64.wrap (x1 + x3))) (2 ^ 1))) + x2)) - z18)))) (c := false) (by kernel_rfl) (decide_eq_false hc28) ?_
                  refine ge_batch [4, 5, 6, 7] (ans := []) (vs := [(213, .bool false), (212, undef), (211, undef), (210, undef)]) (l := []) (by kernel_rfl) trivial ?_
                  refine ge_nil fun a hF => hK48 _ _ ?_ a hF
                  refine we_false (by kernel_rfl) ?_
                  have hS103 := hS83.bring 1 rfl
                  have hS104 := hS103.bring 1 rfl
                  obtain rfl := Option.some.inj h
                  exact we_skip (post_end (rs := []) (ans := []) (vs := []) (l := []) rfl (by kernel_rfl) trivial ⟨rfl, hRz3, hS104⟩)
            · rw [if_neg hc24] at h
              refine ge_known (t := 195) (b := decide (x1 < z18)) (c := false) (by kernel_rfl) (decide_eq_false hc24) ?_
              refine ge_batch [4, 5, 6, 7] (ans := []) (vs := [(199, .bool false), (198, undef), (197, undef), (196, undef)]) (l := []) (by kernel_rfl) trivial ?_
              refine ge_nil fun a hF => hK46 _ _ ?_ a hF
              refine we_false (by kernel_rfl) ?_
              refine we_skip fun a hF => hK45 _ _ ?_ a hF
              refine we_seq fun K49 hK49 => ?_
              refine we_region [(0, 0), (1, 0), (2, 0), (3, 0), (4, 0), (5, 0), (6, 0), (7, 0)] rfl ?_
              refine ge_batch [0, 1, 2, 3] (ans := []) (vs := [(209, .bool (decide ((IntKind.i64.wrap (Int.fdiv (IntKind.u64.wrap (IntKind.i64.wrap (x1 + x3))) (2 ^ 1))) < (IntKind.i64.wrap ((IntKind.i64.wrap ((IntKind.i64.wrap (Int.fdiv (IntKind.u64.wrap (IntKind.i64.wrap (x1 + x3))) (2 ^ 1))) + x2)) - z18))))), (208, .bool (decide ((IntKind.i64.wrap (Int.fdiv (IntKind.u64.wrap (IntKind.i64.wrap (x1 + x3))) (2 ^ 1))) < (IntKind.i64.wrap ((IntKind.i64.wrap ((IntKind.i64.wrap (Int.fdiv (IntKind.u64.wrap (IntKind.i64.wrap (x1 + x3))) (2 ^ 1))) + x2)) - z18))))), (207, .int .i64 (IntKind.i64.wrap ((IntKind.i64.wrap ((IntKind.i64.wrap (Int.fdiv (IntKind.u64.wrap (IntKind.i64.wrap (x1 + x3))) (2 ^ 1))) + x2)) - z18))), (206, .int .i64 (IntKind.i64.wrap (Int.fdiv (IntKind.u64.wrap (IntKind.i64.wrap (x1 + x3))) (2 ^ 1))))]) (l := []) (by kernel_rfl) trivial ?_
              by_cases hc30 : (IntKind.i64.wrap (Int.fdiv (IntKind.u64.wrap (IntKind.i64.wrap (x1 + x3))) (2 ^ 1))) < (IntKind.i64.wrap ((IntKind.i64.wrap ((IntKind.i64.wrap (Int.fdiv (IntKind.u64.wrap (IntKind.i64.wrap (x1 + x3))) (2 ^ 1))) + x2)) - z18))
              · rw [if_pos hc30] at h
                refine ge_known (t := 209) (b := decide ((IntKind.i64.wrap (Int.fdiv (IntKind.u64.wrap (IntKind.i64.wrap (x1 + x3))) (2 ^ 1))) < (IntKind.i64.wrap ((IntKind.i64.wrap ((IntKind.i64.wrap (Int.fdiv (IntKind.u64.wrap (IntKind.i64.wrap (x1 + x3))) (2 ^ 1))) + x2)) - z18)))) (c := true) (by kernel_rfl) (decide_eq_true hc30) ?_
                refine ge_batch [4, 5, 6, 7] (ans := []) (vs := [(213, .bool (decide ((IntKind.i64.wrap ((IntKind.i64.wrap ((IntKind.i64.wrap (Int.fdiv (IntKind.u64.wrap (IntKind.i64.wrap (x1 + x3))) (2 ^ 1))) + x2)) - z18)) < x3))), (212, .bool (decide ((IntKind.i64.wrap ((IntKind.i64.wrap ((IntKind.i64.wrap (Int.fdiv (IntKind.u64.wrap (IntKind.i64.wrap (x1 + x3))) (2 ^ 1))) + x2)) - z18)) < x3))), (211, .int .i64 x3), (210, .int .i64 (IntKind.i64.wrap ((IntKind.i64.wrap ((IntKind.i64.wrap (Int.fdiv (IntKind.u64.wrap (IntKind.i64.wrap (x1 + x3))) (2 ^ 1))) + x2)) - z18)))]) (l := []) (by kernel_rfl) trivial ?_
                refine ge_nil fun a hF => hK49 _ _ ?_ a hF
                by_cases hc31 : (IntKind.i64.wrap ((IntKind.i64.wrap ((IntKind.i64.wrap (Int.fdiv (IntKind.u64.wrap (IntKind.i64.wrap (x1 + x3))) (2 ^ 1))) + x2)) - z18)) < x3
                · rw [if_pos hc31] at h
                  refine we_known (t := 213) (b := decide ((IntKind.i64.wrap ((IntKind.i64.wrap ((IntKind.i64.wrap (Int.fdiv (IntKind.u64.wrap (IntKind.i64.wrap (x1 + x3))) (2 ^ 1))) + x2)) - z18)) < x3)) (v := true) (by kernel_rfl) (decide_eq_true hc31) ?_
                  refine we_true (by kernel_rfl) ?_
                  refine we_region [(0, 0), (1, 0), (2, 0), (3, 0), (4, 0), (5, 2)] rfl ?_
                  refine ge_batch [0, 1, 2, 3, 4] (ans := []) (vs := [(218, .func (.func 79) #[] #[]), (217, .int .i64 x3), (216, .int .i64 (IntKind.i64.wrap ((IntKind.i64.wrap ((IntKind.i64.wrap (Int.fdiv (IntKind.u64.wrap (IntKind.i64.wrap (x1 + x3))) (2 ^ 1))) + x2)) - z18))), (215, .int .i64 (IntKind.i64.wrap (Int.fdiv (IntKind.u64.wrap (IntKind.i64.wrap (x1 + x3))) (2 ^ 1)))), (214, (.slice A0 m8.length c0))]) (l := []) (by kernel_rfl) trivial ?_
                  rcases hq15 : recf m8 (IntKind.i64.wrap (Int.fdiv (IntKind.u64.wrap (IntKind.i64.wrap (x1 + x3))) (2 ^ 1))) (IntKind.i64.wrap ((IntKind.i64.wrap ((IntKind.i64.wrap (Int.fdiv (IntKind.u64.wrap (IntKind.i64.wrap (x1 + x3))) (2 ^ 1))) + x2)) - z18)) x3 with _ | r5
                  · rw [hq15] at h; cases h
                  rw [hq15] at h
                  simp only [] at h
                  have hS106 : St w0 w15 [Own.of (.slice A0 m8.length c0) 53 m8, Own.all [Own.all LT]] := hS83.packN 1
                  refine ge_call2 (m := 0) (d := some 219) (f := 106) (args := #[.slice A0 m8.length c0, .int .i64 (IntKind.i64.wrap (Int.fdiv (IntKind.u64.wrap (IntKind.i64.wrap (x1 + x3))) (2 ^ 1))), .int .i64 (IntKind.i64.wrap ((IntKind.i64.wrap ((IntKind.i64.wrap (Int.fdiv (IntKind.u64.wrap (IntKind.i64.wrap (x1 + x3))) (2 ^ 1))) + x2)) - z18)), .int .i64 x3, .func (.func 79) #[] #[]]) (by kernel_rfl) (hrec m8 A0 c0 (IntKind.i64.wrap (Int.fdiv (IntKind.u64.wrap (IntKind.i64.wrap (x1 + x3))) (2 ^ 1))) (IntKind.i64.wrap ((IntKind.i64.wrap ((IntKind.i64.wrap (Int.fdiv (IntKind.u64.wrap (IntKind.i64.wrap (x1 + x3))) (2 ^ 1))) + x2)) - z18)) x3 _ _ _ hS106 _ hq15) ?_
                  rintro _ w19 ⟨rfl, hE9, hS105⟩
                  refine ⟨_, rfl, ?_⟩
                  have hS107 : St w0 w19 [Own.of (.slice A0 r5.length c0) 53 r5, Own.all LT] := hS105.unpack [Own.of (.slice A0 r5.length c0) 53 r5]
                  refine ge_same (t := 0) (v := (.slice A0 m8.length c0)) (v' := (.slice A0 r5.length c0)) (by kernel_rfl) (by rw [show m8.length = r5.length from hE9]) ?_
                  refine ge_same (t := 214) (v := (.slice A0 m8.length c0)) (v' := (.slice A0 r5.length c0)) (by kernel_rfl) (by rw [show m8.length = r5.length from hE9]) ?_
                  have hLio10 : l0.length = r5.length := Eq.trans hRz3 hE9
                  have hS108 := hS107.bring 1 rfl
                  have hS109 := hS108.bring 1 rfl
                  obtain rfl := Option.some.inj h
                  exact ge_nil (post_end (rs := []) (ans := []) (vs := []) (l := []) rfl (by kernel_rfl) trivial ⟨rfl, hLio10, hS109⟩)
                · rw [if_neg hc31] at h
                  refine we_known (t := 213) (b := decide ((IntKind.i64.wrap ((IntKind.i64.wrap ((IntKind.i64.wrap (Int.fdiv (IntKind.u64.wrap (IntKind.i64.wrap (x1 + x3))) (2 ^ 1))) + x2)) - z18)) < x3)) (v := false) (by kernel_rfl) (decide_eq_false hc31) ?_
                  refine we_false (by kernel_rfl) ?_
                  have hS110 := hS83.bring 1 rfl
                  have hS111 := hS110.bring 1 rfl
                  obtain rfl := Option.some.inj h
                  exact we_skip (post_end (rs := []) (ans := []) (vs := []) (l := []) rfl (by kernel_rfl) trivial ⟨rfl, hRz3, hS111⟩)
              · rw [if_neg hc30] at h
                refine ge_known (t := 209) (b := decide ((IntKind.i64.wrap (Int.fdiv (IntKind.u64.wrap (IntKind.i64.wrap (x1 + x3))) (2 ^ 1))) < (IntKind.i64.wrap ((IntKind.i64.wrap ((IntKind.i64.wrap (Int.fdiv (IntKind.u64.wrap (IntKind.i64.wrap (x1 + x3))) (2 ^ 1))) + x2)) - z18)))) (c := false) (by kernel_rfl) (decide_eq_false hc30) ?_
                refine ge_batch [4, 5, 6, 7] (ans := []) (vs := [(213, .bool false), (212, undef), (211, undef), (210, undef)]) (l := []) (by kernel_rfl) trivial ?_
                refine ge_nil fun a hF => hK49 _ _ ?_ a hF
                refine we_false (by kernel_rfl) ?_
                have hS112 := hS83.bring 1 rfl
                have hS113 := hS112.bring 1 rfl
                obtain rfl := Option.some.inj h
                exact we_skip (post_end (rs := []) (ans := []) (vs := []) (l := []) rfl (by kernel_rfl) trivial ⟨rfl, hRz3, hS113⟩)
          · rw [hq11] at h
            simp only [] at h
            refine we_keep (e' := [(0, (.slice A0 l0.length c0)), (1, .int .i64 x1), (2, .int .i64 x2), (3, .int .i64 x3), (4, .func (.func 79) #[] #[]), (18, .int .i64 (IntKind.i64.wrap (Int.fdiv (IntKind.u64.wrap (IntKind.i64.wrap (x1 + x3))) (2 ^ 1)))), (19, .int .i64 (IntKind.i64.wrap ((IntKind.i64.wrap (Int.fdiv (IntKind.u64.wrap (IntKind.i64.wrap (x1 + x3))) (2 ^ 1))) + x2))), (20, .int .i64 z18), (24, .int .i64 (IntKind.i64.wrap ((IntKind.i64.wrap ((IntKind.i64.wrap (Int.fdiv (IntKind.u64.wrap (IntKind.i64.wrap (x1 + x3))) (2 ^ 1))) + x2)) - z18))), (175, .int .i64 (IntKind.i64.wrap ((IntKind.i64.wrap (Int.fdiv (IntKind.u64.wrap (IntKind.i64.wrap (x1 + x3))) (2 ^ 1))) + x2))), (176, .int .i64 z18), (177, .int .i64 (IntKind.i64.wrap ((IntKind.i64.wrap ((IntKind.i64.wrap (Int.fdiv (IntKind.u64.wrap (IntKind.i64.wrap (x1 + x3))) (2 ^ 1))) + x2)) - z18)))]) ⟨by kernel_rfl, by kernel_rfl, by kernel_rfl, by kernel_rfl, by kernel_rfl, by kernel_rfl, by kernel_rfl, by kernel_rfl, by kernel_rfl, by kernel_rfl, by kernel_rfl, by kernel_rfl, trivial⟩ (slices_symMergeCmpFunc_api_Come_p6 K w0 l0 A0 c0 x1 x2 x3 LT recf hrec hc1 hc9 z13 z14 z18 _ hq11 _ hS73 _ ?_)
            rintro _ a w1 ⟨_, rfl, hb⟩
            obtain rfl := Option.some.inj h
            exact hb
        · rw [hq9] at h
          simp only [] at h
          refine we_iter (A := slices_symMergeCmpFunc_api_Come.A5 K w0 l0 A0 c0 x1 x2 x3 LT recf hrec hc1 hc9 z13 z14) (B := slices_symMergeCmpFunc_api_Come.B5 K w0 l0 A0 c0 x1 x2 x3 LT recf hrec hc1 hc9 z13 z14) hq9 (fun a hF => ⟨hS63, hF.weaken ⟨by kernel_rfl, by kernel_rfl, by kernel_rfl, by kernel_rfl, by kernel_rfl, by kernel_rfl, by kernel_rfl, by kernel_rfl, by kernel_rfl, by kernel_rfl, trivial⟩⟩) (fun s o hf a w hA Q hQ => slices_symMergeCmpFunc_api_Come_r5 K w0 l0 A0 c0 x1 x2 x3 LT recf hrec hc1 hc9 z13 z14 s o hf a w hA Q hQ) ?_
          rintro _ a w1 _ ⟨rfl, hb⟩
          obtain rfl := Option.some.inj h
          exact hb
      · rw [hq7] at h
        simp only [] at h
        refine we_keep (e' := [(0, (.slice A0 l0.length c0)), (1, .int .i64 x1), (2, .int .i64 x2), (3, .int .i64 x3), (4, .func (.func 79) #[] #[]), (18, .int .i64 (IntKind.i64.wrap (Int.fdiv (IntKind.u64.wrap (IntKind.i64.wrap (x1 + x3))) (2 ^ 1)))), (19, .int .i64 (IntKind.i64.wrap ((IntKind.i64.wrap (Int.fdiv (IntKind.u64.wrap (IntKind.i64.wrap (x1 + x3))) (2 ^ 1))) + x2))), (20, .int .i64 0), (21, .int .i64 0), (25, .int .i64 x2), (26, .int .i64 x1), (27, .int .i64 (IntKind.i64.wrap (x2 - x1))), (28, .bool false), (77, .int .i64 x3), (78, .int .i64 x2), (79, .int .i64 (IntKind.i64.wrap (x3 - x2))), (80, .bool false), (129, .int .i64 x1), (130, .int .i64 x3), (131, .int .i64 (IntKind.i64.wrap (x1 + x3))), (132, .int .u64 (IntKind.u64.wrap (IntKind.i64.wrap (x1 + x3)))), (133, .int .u64 (Int.fdiv (IntKind.u64.wrap (IntKind.i64.wrap (x1 + x3))) (2 ^ 1))), (134, .int .i64 (IntKind.i64.wrap (Int.fdiv (IntKind.u64.wrap (IntKind.i64.wrap (x1 + x3))) (2 ^ 1)))), (135, .int .i64 (IntKind.i64.wrap (Int.fdiv (IntKind.u64.wrap (IntKind.i64.wrap (x1 + x3))) (2 ^ 1)))), (136, .int .i64 x2), (137, .int .i64 (IntKind.i64.wrap ((IntKind.i64.wrap (Int.fdiv (IntKind.u64.wrap (IntKind.i64.wrap (x1 + x3))) (2 ^ 1))) + x2)))]) ⟨by kernel_rfl, by kernel_rfl, by kernel_rfl, by kernel_rfl, by kernel_rfl, by kernel_rfl, by kernel_rfl, by kernel_rfl, by kernel_rfl, by kernel_rfl, by kernel_rfl, by kernel_rfl, by kernel_rfl, by kernel_rfl, by kernel_rfl, by kernel_rfl, by kernel_rfl, by kernel_rfl, by kernel_rfl, by kernel_rfl, by kernel_rfl, by kernel_rfl, by kernel_rfl, by kernel_rfl, by kernel_rfl, by kernel_rfl, trivial⟩ (slices_symMergeCmpFunc_api_Come_p4 K w0 l0 A0 c0 x1 x2 x3 LT recf hrec hc1 hc9 _ hq7 _ hS _ ?_)
        rintro _ a w1 ⟨_, rfl, hb⟩
        obtain rfl := Option.some.inj h
        exact hb
def slices_symMergeCmpFunc_api_Come.rec (K : Nat) : Nat → (List SCome) → Int → Int → Int → Option (List SCome)
  | 0 => fun _ _ _ _ => none
  | n + 1 => fun l0 x1 x2 x3 => slices_symMergeCmpFunc_api_Come.b K (slices_symMergeCmpFunc_api_Come.rec K n) l0 x1 x2 x3
def slices_symMergeCmpFunc_api_Come.f (K : Nat) (l0 : List SCome) (x1 : Int) (x2 : Int) (x3 : Int) : Option (List SCome) := slices_symMergeCmpFunc_api_Come.rec K K l0 x1 x2 x3
theorem slices_symMergeCmpFunc_api_Come_ok (K : Nat) (l0 : List SCome) (A0 : Option Addr) (c0 : Nat) (x1 : Int) (x2 : Int) (x3 : Int) (w0 wE : World) (LT : List Own) (hS : St w0 wE [Own.of (.slice A0 l0.length c0) 53 l0, Own.all LT]) (r : List SCome) (h : slices_symMergeCmpFunc_api_Come.f K l0 x1 x2 x3 = some r) :
    Calls Tryd.prog 106 #[(.slice A0 l0.length c0), .int .i64 x1, .int .i64 x2, .int .i64 x3, .func (.func 79) #[] #[]] wE (slices_symMergeCmpFunc_api_Come.Post w0 l0 A0 c0 x1 x2 x3 LT r) := by
  have key : ∀ (n : Nat) (l0 : List SCome) (A0 : Option Addr) (c0 : Nat) (x1 : Int) (x2 : Int) (x3 : Int) (w0 wE : World) (LT : List Own) (hS : St w0 wE [Own.of (.slice A0 l0.length c0) 53 l0, Own.all LT]) (r : List SCome) (h : slices_symMergeCmpFunc_api_Come.rec K n l0 x1 x2 x3 = some r), Calls Tryd.prog 106 #[(.slice A0 l0.length c0), .int .i64 x1, .int .i64 x2, .int .i64 x3, .func (.func 79) #[] #[]] wE (slices_symMergeCmpFunc_api_Come.Post w0 l0 A0 c0 x1 x2 x3 LT r) := by
    intro n
    induction n with
    | zero => intros; rename_i h; cases h
    | succ n ih => exact fun l0 A0 c0 x1 x2 x3 w0 wE LT hS  r h => slices_symMergeCmpFunc_api_Come_step K (slices_symMergeCmpFunc_api_Come.rec K n) ih l0 A0 c0 x1 x2 x3 w0 wE LT hS  r h
  exact key K l0 A0 c0 x1 x2 x3 w0 wE LT hS  r h

/-! slices.stableCmpFunc[punctual/api.Come] -/
abbrev slices_stableCmpFunc_api_Come.Post (w0 : World) (l0 : List SCome) (A0 : Option Addr) (c0 : Nat) (x1 : Int) (LT : List Own) (r : List SCome) (e : Ending) (w : World) : Prop := e = .returned (.tuple #[]) ∧ l0.length = r.length ∧ St w0 w [Own.of (.slice A0 r.length c0) 53 r, Own.all LT]
def slices_stableCmpFunc_api_Come.r0 (K : Nat) (x1 : Int) : Int × Int × (List SCome) → Option ((Int × Int × (List SCome)) ⊕ ((Int × (List SCome)) ⊕ (List SCome)))
  | (z1, z2, m1) =>
    if z2 ≤ x1 then
      match slices_insertionSortCmpFunc_api_Come.f K m1 z1 z2 with
      | none => none
      | some r1 =>
        some (.inl (z2, IntKind.i64.wrap (z2 + 20), r1))
    else
      some (.inr (.inl (z1, m1)))
def slices_stableCmpFunc_api_Come.r2 (K : Nat) (x1 : Int) (z5 : Int) : Int × Int × (List SCome) → Option ((Int × Int × (List SCome)) ⊕ ((Int × (List SCome)) ⊕ (List SCome)))
  | (z6, z7, m6) =>
    if z7 ≤ x1 then
      match slices_symMergeCmpFunc_api_Come.f K m6 z6 (IntKind.i64.wrap (z6 + z5)) z7 with
      | none => none
      | some r3 =>
        some (.inl (z7, IntKind.i64.wrap (z7 + (IntKind.i64.wrap (2 * z5))), r3))
    else
      some (.inr (.inl (z6, m6)))
def slices_stableCmpFunc_api_Come.r1 (K : Nat) (x1 : Int) (r2 : List SCome) : Int × (List SCome) → Option ((Int × (List SCome)) ⊕ ((List SCome) ⊕ (List SCome)))
  | (z5, m4) =>
    if z5 < x1 then
      match iter (slices_stableCmpFunc_api_Come.r2 K x1 z5) K (0, IntKind.i64.wrap (2 * z5), m4) with
      | none => none
      | some (.inl (z9, m8)) =>
        if (IntKind.i64.wrap (z9 + z5)) < x1 then
          match slices_symMergeCmpFunc_api_Come.f K m8 z9 (IntKind.i64.wrap (z9 + z5)) x1 with
          | none => none
          | some r4 =>
            some (.inl (IntKind.i64.wrap (z5 * 2), r4))
        else
          some (.inl (IntKind.i64.wrap (z5 * 2), m8))
      | some (.inr rr1) =>
        some (.inr (.inr rr1))
    else
      some (.inr (.inl m4))
def slices_stableCmpFunc_api_Come.f (K : Nat) (l0 : List SCome) (x1 : Int) : Option (List SCome) :=
  match iter (slices_stableCmpFunc_api_Come.r0 K x1) K (0, 20, l0) with
  | none => none
  | some (.inl (z4, m3)) =>
    match slices_insertionSortCmpFunc_api_Come.f K m3 z4 x1 with
    | none => none
    | some r2 =>
      match iter (slices_stableCmpFunc_api_Come.r1 K x1 r2) K (20, r2) with
      | none => none
      | some (.inl m9) =>
        some m9
      | some (.inr rr2) =>
        some rr2
  | some (.inr rr3) =>
    some rr3
abbrev slices_stableCmpFunc_api_Come.A0 (K : Nat) (w0 : World) (l0 : List SCome) (A0 : Option Addr) (c0 : Nat) (x1 : Int) (LT : List Own) : (Int × Int × (List SCome)) → Act → World → Prop := fun (s : Int × Int × (List SCome)) a w => l0.length = s.2.2.length ∧ St w0 w [Own.of (.slice A0 s.2.2.length c0) 53 s.2.2, Own.all LT] ∧ Frm 63 a [(0, (.slice A0 s.2.2.length c0)), (1, .int .i64 x1), (2, .func (.func 79) #[] #[]), (6, .int .i64 20), (7, .int .i64 s.1), (8, .int .i64 s.2.1)]
abbrev slices_stableCmpFunc_api_Come.B0 (K : Nat) (w0 : World) (l0 : List SCome) (A0 : Option Addr) (c0 : Nat) (x1 : Int) (LT : List Own) : ((Int × (List SCome)) ⊕ (List SCome)) → Exit → Act → World → Prop := Exits 0 (fun (s : Int × (List SCome)) a w => l0.length = s.2.length ∧ St w0 w [Own.of (.slice A0 s.2.length c0) 53 s.2, Own.all LT] ∧ Frm 63 a [(0, (.slice A0 s.2.length c0)), (1, .int .i64 x1), (2, .func (.func 79) #[] #[]), (6, .int .i64 20), (7, .int .i64 s.1)]) (Rets Tryd.prog Tryd.f98 (slices_stableCmpFunc_api_Come.Post w0 l0 A0 c0 x1 LT))
theorem slices_stableCmpFunc_api_Come_r0 (K : Nat) (w0 : World) (l0 : List SCome) (A0 : Option Addr) (c0 : Nat) (x1 : Int) (LT : List Own) (s : Int × Int × (List SCome)) (o : (Int × Int × (List SCome)) ⊕ ((Int × (List SCome)) ⊕ (List SCome))) (h : slices_stableCmpFunc_api_Come.r0 K x1 s = some o) (a : Act) (w : World) (hA : slices_stableCmpFunc_api_Come.A0 K w0 l0 A0 c0 x1 LT s a w) (Q : Exit → Act → World → Prop) (hQ : ∀ x a w, Outs (slices_stableCmpFunc_api_Come.A0 K w0 l0 A0 c0 x1 LT) (slices_stableCmpFunc_api_Come.B0 K w0 l0 A0 c0 x1 LT) o x a w → Q x a w) : (subF Tryd.f98 [1, 1, 0, 0, 0]).wp Tryd.prog Q a w := by
  obtain ⟨z1, z2, m1⟩ := s
  obtain ⟨hLio1, hS, hF⟩ := hA
  replace hS : St w0 w [Own.of (.slice A0 m1.length c0) 53 m1, Own.all LT] := hS
  simp only [slices_stableCmpFunc_api_Come.r0] at h
  refine (?_ : WE Tryd.prog 63 (subF Tryd.f98 [1, 1, 0, 0, 0]) Q [(0, (.slice A0 m1.length c0)), (1, .int .i64 x1), (2, .func (.func 79) #[] #[]), (6, .int .i64 20), (7, .int .i64 z1), (8, .int .i64 z2)] w) a hF
  clear hF a
  refine we_seq fun K4 hK4 => ?_
  refine we_seq fun K5 hK5 => ?_
  refine we_region [(0, 0), (1, 0), (2, 0)] rfl ?_
  refine ge_batch [0, 1, 2] (ans := []) (vs := [(13, .bool (decide (z2 ≤ x1))), (12, .int .i64 x1), (11, .int .i64 z2)]) (l := []) (by kernel_rfl) trivial ?_
  refine ge_nil fun a hF => hK5 _ _ ?_ a hF
  by_cases hc1 : z2 ≤ x1
  · rw [if_pos hc1] at h
    refine we_known (t := 13) (b := decide (z2 ≤ x1)) (v := true) (by kernel_rfl) (decide_eq_true hc1) ?_
    refine we_true (by kernel_rfl) ?_
    refine we_skip fun a hF => hK4 _ _ ?_ a hF
    refine we_block ?_
    refine we_seq fun K6 hK6 => ?_
    refine we_region [(0, 0), (1, 0), (2, 0), (3, 0), (4, 2)] rfl ?_
    refine ge_batch [0, 1, 2, 3] (ans := []) (vs := [(17, .func (.func 79) #[] #[]), (16, .int .i64 z2), (15, .int .i64 z1), (14, (.slice A0 m1.length c0))]) (l := []) (by kernel_rfl) trivial ?_
    rcases hq1 : slices_insertionSortCmpFunc_api_Come.f K m1 z1 z2 with _ | r1
    · rw [hq1] at h; cases h
    rw [hq1] at h
    simp only [] at h
    have hS4 : St w0 w [Own.of (.slice A0 m1.length c0) 53 m1, Own.all [Own.all LT]] := hS.packN 1
    refine ge_call2 (m := 0) (d := some 18) (f := 105) (args := #[.slice A0 m1.length c0, .int .i64 z1, .int .i64 z2, .func (.func 79) #[] #[]]) (by kernel_rfl) (slices_insertionSortCmpFunc_api_Come_ok K m1 A0 c0 z1 z2 _ _ _ hS4 _ hq1) ?_
    rintro _ w1 ⟨rfl, hE1, hS3⟩
    refine ⟨_, rfl, ?_⟩
    have hS5 : St w0 w1 [Own.of (.slice A0 r1.length c0) 53 r1, Own.all LT] := hS3.unpack [Own.of (.slice A0 r1.length c0) 53 r1]
    refine ge_same (t := 0) (v := (.slice A0 m1.length c0)) (v' := (.slice A0 r1.length c0)) (by kernel_rfl) (by rw [show m1.length = r1.length from hE1]) ?_
    refine ge_same (t := 14) (v := (.slice A0 m1.length c0)) (v' := (.slice A0 r1.length c0)) (by kernel_rfl) (by rw [show m1.length = r1.length from hE1]) ?_
    have hLio3 : l0.length = r1.length := Eq.trans hLio1 hE1
    refine ge_nil fun a hF => hK6 _ _ ?_ a hF
    refine we_seq fun K7 hK7 => ?_
    refine we_region [(0, 0), (1, 0)] rfl ?_
    refine ge_batch [0, 1] (ans := []) (vs := [(7, .int .i64 z2), (19, .int .i64 z2)]) (l := []) (by kernel_rfl) trivial ?_
    refine ge_nil fun a hF => hK7 _ _ ?_ a hF
    refine we_region [(0, 0), (1, 0), (2, 0), (3, 0)] rfl ?_
    refine ge_batch [0, 1, 2, 3] (ans := []) (vs := [(8, .int .i64 (IntKind.i64.wrap (z2 + 20))), (22, .int .i64 (IntKind.i64.wrap (z2 + 20))), (21, .int .i64 20), (20, .int .i64 z2)]) (l := []) (by kernel_rfl) trivial ?_
    have hS6 := hS5.bring 1 rfl
    have hS7 := hS6.bring 1 rfl
    obtain rfl := Option.some.inj h
    exact ge_nil fun a hF => hQ _ _ _ (Outs.again ⟨hLio3, hS7, hF.weaken ⟨by kernel_rfl, by kernel_rfl, by kernel_rfl, by kernel_rfl, by kernel_rfl, by kernel_rfl, trivial⟩⟩)
  · rw [if_neg hc1] at h
    refine we_known (t := 13) (b := decide (z2 ≤ x1)) (v := false) (by kernel_rfl) (decide_eq_false hc1) ?_
    refine we_false (by kernel_rfl) ?_
    have hS8 := hS.bring 1 rfl
    have hS9 := hS8.bring 1 rfl
    obtain rfl := Option.some.inj h
    exact we_exit fun a hF => hQ _ _ _ (Outs.out nofun (Exits.here ⟨hLio1, hS9, hF.weaken ⟨by kernel_rfl, by kernel_rfl, by kernel_rfl, by kernel_rfl, by kernel_rfl, trivial⟩⟩))
abbrev slices_stableCmpFunc_api_Come.A2 (K : Nat) (w0 : World) (l0 : List SCome) (A0 : Option Addr) (c0 : Nat) (x1 : Int) (LT : List Own) (z4 : Int) (m3 : List SCome) (hRz1 : l0.length = m3.length) (r2 : List SCome) (hLio4 : l0.length = r2.length) (z5 : Int) (m4 : List SCome) (hLio5 : l0.length = m4.length) (hc2 : z5 < x1) : (Int × Int × (List SCome)) → Act → World → Prop := fun (s : Int × Int × (List SCome)) a w => l0.length = s.2.2.length ∧ St w0 w [Own.of (.slice A0 s.2.2.length c0) 53 s.2.2, Own.all LT] ∧ Frm 63 a [(0, (.slice A0 s.2.2.length c0)), (1, .int .i64 x1), (2, .func (.func 79) #[] #[]), (6, .int .i64 z5), (7, .int .i64 s.1), (8, .int .i64 s.2.1)]
abbrev slices_stableCmpFunc_api_Come.B2 (K : Nat) (w0 : World) (l0 : List SCome) (A0 : Option Addr) (c0 : Nat) (x1 : Int) (LT : List Own) (z4 : Int) (m3 : List SCome) (hRz1 : l0.length = m3.length) (r2 : List SCome) (hLio4 : l0.length = r2.length) (z5 : Int) (m4 : List SCome) (hLio5 : l0.length = m4.length) (hc2 : z5 < x1) : ((Int × (List SCome)) ⊕ (List SCome)) → Exit → Act → World → Prop := Exits 4 (fun (s : Int × (List SCome)) a w => l0.length = s.2.length ∧ St w0 w [Own.of (.slice A0 s.2.length c0) 53 s.2, Own.all LT] ∧ Frm 63 a [(0, (.slice A0 s.2.length c0)), (1, .int .i64 x1), (2, .func (.func 79) #[] #[]), (6, .int .i64 z5), (7, .int .i64 s.1)]) (Rets Tryd.prog Tryd.f98 (slices_stableCmpFunc_api_Come.Post w0 l0 A0 c0 x1 LT))
theorem slices_stableCmpFunc_api_Come_r2 (K : Nat) (w0 : World) (l0 : List SCome) (A0 : Option Addr) (c0 : Nat) (x1 : Int) (LT : List Own) (z4 : Int) (m3 : List SCome) (hRz1 : l0.length = m3.length) (r2 : List SCome) (hLio4 : l0.length = r2.length) (z5 : Int) (m4 : List SCome) (hLio5 : l0.length = m4.length) (hc2 : z5 < x1) (s : Int × Int × (List SCome)) (o : (Int × Int × (List SCome)) ⊕ ((Int × (List SCome)) ⊕ (List SCome))) (h : slices_stableCmpFunc_api_Come.r2 K x1 z5 s = some o) (a : Act) (w : World) (hA : slices_stableCmpFunc_api_Come.A2 K w0 l0 A0 c0 x1 LT z4 m3 hRz1 r2 hLio4 z5 m4 hLio5 hc2 s a w) (Q : Exit → Act → World → Prop) (hQ : ∀ x a w, Outs (slices_stableCmpFunc_api_Come.A2 K w0 l0 A0 c0 x1 LT z4 m3 hRz1 r2 hLio4 z5 m4 hLio5 hc2) (slices_stableCmpFunc_api_Come.B2 K w0 l0 A0 c0 x1 LT z4 m3 hRz1 r2 hLio4 z5 m4 hLio5 hc2) o x a w → Q x a w) : (subF Tryd.f98 [1, 1, 1, 1, 0, 0, 1, 0, 1, 0, 0, 0]).wp Tryd.prog Q a w := by
  obtain ⟨z6, z7, m6⟩ := s
  obtain ⟨hLio7, hS, hF⟩ := hA
  replace hS : St w0 w [Own.of (.slice A0 m6.length c0) 53 m6, Own.all LT] := hS
  simp only [slices_stableCmpFunc_api_Come.r2] at h
  refine (?_ : WE Tryd.prog 63 (subF Tryd.f98 [1, 1, 1, 1, 0, 0, 1, 0, 1, 0, 0, 0]) Q [(0, (.slice A0 m6.length c0)), (1, .int .i64 x1), (2, .func (.func 79) #[] #[]), (6, .int .i64 z5), (7, .int .i64 z6), (8, .int .i64 z7)] w) a hF
  clear hF a
  refine we_seq fun K13 hK13 => ?_
  refine we_seq fun K14 hK14 => ?_
  refine we_region [(0, 0), (1, 0), (2, 0)] rfl ?_
  refine ge_batch [0, 1, 2] (ans := []) (vs := [(35, .bool (decide (z7 ≤ x1))), (34, .int .i64 x1), (33, .int .i64 z7)]) (l := []) (by kernel_rfl) trivial ?_
  refine ge_nil fun a hF => hK14 _ _ ?_ a hF
  by_cases hc3 : z7 ≤ x1
  · rw [if_pos hc3] at h
    refine we_known (t := 35) (b := decide (z7 ≤ x1)) (v := true) (by kernel_rfl) (decide_eq_true hc3) ?_
    refine we_true (by kernel_rfl) ?_
    refine we_skip fun a hF => hK13 _ _ ?_ a hF
    refine we_block ?_
    refine we_seq fun K15 hK15 => ?_
    refine we_region [(0, 0), (1, 0), (2, 0), (3, 0), (4, 0), (5, 0), (6, 0), (7, 2)] rfl ?_
    refine ge_batch [0, 1, 2, 3, 4, 5, 6] (ans := []) (vs := [(42, .func (.func 79) #[] #[]), (41, .int .i64 z7), (40, .int .i64 (IntKind.i64.wrap (z6 + z5))), (39, .int .i64 z5), (38, .int .i64 z6), (37, .int .i64 z6), (36, (.slice A0 m6.length c0))]) (l := []) (by kernel_rfl) trivial ?_
    rcases hq4 : slices_symMergeCmpFunc_api_Come.f K m6 z6 (IntKind.i64.wrap (z6 + z5)) z7 with _ | r3
    · rw [hq4] at h; cases h
    rw [hq4] at h
    simp only [] at h
    have hS19 : St w0 w [Own.of (.slice A0 m6.length c0) 53 m6, Own.all [Own.all LT]] := hS.packN 1
    refine ge_call2 (m := 0) (d := some 43) (f := 106) (args := #[.slice A0 m6.length c0, .int .i64 z6, .int .i64 (IntKind.i64.wrap (z6 + z5)), .int .i64 z7, .func (.func 79) #[] #[]]) (by kernel_rfl) (slices_symMergeCmpFunc_api_Come_ok K m6 A0 c0 z6 (IntKind.i64.wrap (z6 + z5)) z7 _ _ _ hS19 _ hq4) ?_
    rintro _ w4 ⟨rfl, hE3, hS18⟩
    refine ⟨_, rfl, ?_⟩
    have hS20 : St w0 w4 [Own.of (.slice A0 r3.length c0) 53 r3, Own.all LT] := hS18.unpack [Own.of (.slice A0 r3.length c0) 53 r3]
    refine ge_same (t := 0) (v := (.slice A0 m6.length c0)) (v' := (.slice A0 r3.length c0)) (by kernel_rfl) (by rw [show m6.length = r3.length from hE3]) ?_
    refine ge_same (t := 36) (v := (.slice A0 m6.length c0)) (v' := (.slice A0 r3.length c0)) (by kernel_rfl) (by rw [show m6.length = r3.length from hE3]) ?_
    have hLio9 : l0.length = r3.length := Eq.trans hLio7 hE3
    refine ge_nil fun a hF => hK15 _ _ ?_ a hF
    refine we_seq fun K16 hK16 => ?_
    refine we_region [(0, 0), (1, 0)] rfl ?_
    refine ge_batch [0, 1] (ans := []) (vs := [(7, .int .i64 z7), (44, .int .i64 z7)]) (l := []) (by kernel_rfl) trivial ?_
    refine ge_nil fun a hF => hK16 _ _ ?_ a hF
    refine we_region [(0, 0), (1, 0), (2, 0), (3, 0), (4, 0)] rfl ?_
    refine ge_batch [0, 1, 2, 3, 4] (ans := []) (vs := [(8, .int .i64 (IntKind.i64.wrap (z7 + (IntKind.i64.wrap (2 * z5))))), (48, .int .i64 (IntKind.i64.wrap (z7 + (IntKind.i64.wrap (2 * z5))))), (47, .int .i64 (IntKind.i64.wrap (2 * z5))), (46, .int .i64 z5), (45, .int .i64 z7)]) (l := []) (by kernel_rfl) trivial ?_
    have hS21 := hS20.bring 1 rfl
    have hS22 := hS21.bring 1 rfl
    obtain rfl := Option.some.inj h
    exact ge_nil fun a hF => hQ _ _ _ (Outs.again ⟨hLio9, hS22, hF.weaken ⟨by kernel_rfl, by kernel_rfl, by kernel_rfl, by kernel_rfl, by kernel_rfl, by kernel_rfl, trivial⟩⟩)
  · rw [if_neg hc3] at h
    refine we_known (t := 35) (b := decide (z7 ≤ x1)) (v := false) (by kernel_rfl) (decide_eq_false hc3) ?_
    refine we_false (by kernel_rfl) ?_
    have hS23 := hS.bring 1 rfl
    have hS24 := hS23.bring 1 rfl
    obtain rfl := Option.some.inj h
    exact we_exit fun a hF => hQ _ _ _ (Outs.out nofun (Exits.here ⟨hLio7, hS24, hF.weaken ⟨by kernel_rfl, by kernel_rfl, by kernel_rfl, by kernel_rfl, by kernel_rfl, trivial⟩⟩))
abbrev slices_stableCmpFunc_api_Come.A1 (K : Nat) (w0 : World) (l0 : List SCome) (A0 : Option Addr) (c0 : Nat) (x1 : Int) (LT : List Own) (z4 : Int) (m3 : List SCome) (hRz1 : l0.length = m3.length) (r2 : List SCome) (hLio4 : l0.length = r2.length) : (Int × (List SCome)) → Act → World → Prop := fun (s : Int × (List SCome)) a w => l0.length = s.2.length ∧ St w0 w [Own.of (.slice A0 s.2.length c0) 53 s.2, Own.all LT] ∧ Frm 63 a [(0, (.slice A0 s.2.length c0)), (1, .int .i64 x1), (2, .func (.func 79) #[] #[]), (6, .int .i64 s.1)]
abbrev slices_stableCmpFunc_api_Come.B1 (K : Nat) (w0 : World) (l0 : List SCome) (A0 : Option Addr) (c0 : Nat) (x1 : Int) (LT : List Own) (z4 : Int) (m3 : List SCome) (hRz1 : l0.length = m3.length) (r2 : List SCome) (hLio4 : l0.length = r2.length) : ((List SCome) ⊕ (List SCome)) → Exit → Act → World → Prop := Exits 2 (fun (s : (List SCome)) a w => l0.length = s.length ∧ St w0 w [Own.of (.slice A0 s.length c0) 53 s, Own.all LT] ∧ Frm 63 a [(0, (.slice A0 s.length c0)), (2, .func (.func 79) #[] #[])]) (Rets Tryd.prog Tryd.f98 (slices_stableCmpFunc_api_Come.Post w0 l0 A0 c0 x1 LT))
theorem slices_stableCmpFunc_api_Come_r1 (K : Nat) (w0 : World) (l0 : List SCome) (A0 : Option Addr) (c0 : Nat) (x1 : Int) (LT : List Own) (z4 : Int) (m3 : List SCome) (hRz1 : l0.length = m3.length) (r2 : List SCome) (hLio4 : l0.length = r2.length) (s : Int × (List SCome)) (o : (Int × (List SCome)) ⊕ ((List SCome) ⊕ (List SCome))) (h : slices_stableCmpFunc_api_Come.r1 K x1 r2 s = some o) (a : Act) (w : World) (hA : slices_stableCmpFunc_api_Come.A1 K w0 l0 A0 c0 x1 LT z4 m3 hRz1 r2 hLio4 s a w) (Q : Exit → Act → World → Prop) (hQ : ∀ x a w, Outs (slices_stableCmpFunc_api_Come.A1 K w0 l0 A0 c0 x1 LT z4 m3 hRz1 r2 hLio4) (slices_stableCmpFunc_api_Come.B1 K w0 l0 A0 c0 x1 LT z4 m3 hRz1 r2 hLio4) o x a w → Q x a w) : (subF Tryd.f98 [1, 1, 1, 1, 0, 0]).wp Tryd.prog Q a w := by
  obtain ⟨z5, m4⟩ := s
  obtain ⟨hLio5, hS, hF⟩ := hA
  replace hS : St w0 w [Own.of (.slice A0 m4.length c0) 53 m4, Own.all LT] := hS
  simp only [slices_stableCmpFunc_api_Come.r1] at h
  refine (?_ : WE Tryd.prog 63 (subF Tryd.f98 [1, 1, 1, 1, 0, 0]) Q [(0, (.slice A0 m4.length c0)), (1, .int .i64 x1), (2, .func (.func 79) #[] #[]), (6, .int .i64 z5)] w) a hF
  clear hF a
  refine we_seq fun K9 hK9 => ?_
  refine we_seq fun K10 hK10 => ?_
  refine we_region [(0, 0), (1, 0), (2, 0)] rfl ?_
  refine ge_batch [0, 1, 2] (ans := []) (vs := [(30, .bool (decide (z5 < x1))), (29, .int .i64 x1), (28, .int .i64 z5)]) (l := []) (by kernel_rfl) trivial ?_
  refine ge_nil fun a hF => hK10 _ _ ?_ a hF
  by_cases hc2 : z5 < x1
  · rw [if_pos hc2] at h
    refine we_known (t := 30) (b := decide (z5 < x1)) (v := true) (by kernel_rfl) (decide_eq_true hc2) ?_
    refine we_true (by kernel_rfl) ?_
    refine we_skip fun a hF => hK9 _ _ ?_ a hF
    refine we_block ?_
    refine we_seq fun K11 hK11 => ?_
    refine we_region [(0, 0), (1, 0), (2, 0), (3, 0)] rfl ?_
    refine ge_batch [0, 1, 2, 3] (ans := []) (vs := [(8, .int .i64 (IntKind.i64.wrap (2 * z5))), (7, .int .i64 0), (32, .int .i64 (IntKind.i64.wrap (2 * z5))), (31, .int .i64 z5)]) (l := []) (by kernel_rfl) trivial ?_
    refine ge_nil fun a hF => hK11 _ _ ?_ a hF
    refine we_seq fun K12 hK12 => ?_
    refine we_block ?_
    have hS16 := hS.bring 1 rfl
    have hS17 := hS16.bring 1 rfl
    rcases hq5 : iter (slices_stableCmpFunc_api_Come.r2 K x1 z5) K (0, IntKind.i64.wrap (2 * z5), m4) with _ | (⟨z9, m8⟩ | rr1)
    · rw [hq5] at h; cases h
    · rw [hq5] at h
      simp only [] at h
      refine we_iter (A := slices_stableCmpFunc_api_Come.A2 K w0 l0 A0 c0 x1 LT z4 m3 hRz1 r2 hLio4 z5 m4 hLio5 hc2) (B := slices_stableCmpFunc_api_Come.B2 K w0 l0 A0 c0 x1 LT z4 m3 hRz1 r2 hLio4 z5 m4 hLio5 hc2) hq5 (fun a hF => ⟨hLio5, hS17, hF.weaken ⟨by kernel_rfl, by kernel_rfl, by kernel_rfl, by kernel_rfl, by kernel_rfl, by kernel_rfl, trivial⟩⟩) (fun s o hf a w hA Q hQ => slices_stableCmpFunc_api_Come_r2 K w0 l0 A0 c0 x1 LT z4 m3 hRz1 r2 hLio4 z5 m4 hLio5 hc2 s o hf a w hA Q hQ) ?_
      rintro _ a w5 _ ⟨rfl, hRz2, hS25, hF⟩
      replace hS25 : St w0 w5 [Own.of (.slice A0 m8.length c0) 53 m8, Own.all LT] := hS25
      refine hK12 [(0, (.slice A0 m8.length c0)), (1, .int .i64 x1), (2, .func (.func 79) #[] #[]), (6, .int .i64 z5), (7, .int .i64 z9)] w5 ?_ a hF
      refine we_seq fun K17 hK17 => ?_
      refine we_seq fun K18 hK18 => ?_
      refine we_region [(0, 0), (1, 0), (2, 0), (3, 0)] rfl ?_
      refine ge_batch [0, 1, 2, 3] (ans := []) (vs := [(9, .int .i64 (IntKind.i64.wrap (z9 + z5))), (51, .int .i64 (IntKind.i64.wrap (z9 + z5))), (50, .int .i64 z5), (49, .int .i64 z9)]) (l := []) (by kernel_rfl) trivial ?_
      refine ge_nil fun a hF => hK18 _ _ ?_ a hF
      refine we_seq fun K19 hK19 => ?_
      refine we_region [(0, 0), (1, 0), (2, 0)] rfl ?_
      refine ge_batch [0, 1, 2] (ans := []) (vs := [(54, .bool (decide ((IntKind.i64.wrap (z9 + z5)) < x1))), (53, .int .i64 x1), (52, .int .i64 (IntKind.i64.wrap (z9 + z5)))]) (l := []) (by kernel_rfl) trivial ?_
      refine ge_nil fun a hF => hK19 _ _ ?_ a hF
      by_cases hc4 : (IntKind.i64.wrap (z9 + z5)) < x1
      · rw [if_pos hc4] at h
        refine we_known (t := 54) (b := decide ((IntKind.i64.wrap (z9 + z5)) < x1)) (v := true) (by kernel_rfl) (decide_eq_true hc4) ?_
        refine we_true (by kernel_rfl) ?_
        refine we_region [(0, 0), (1, 0), (2, 0), (3, 0), (4, 0), (5, 2)] rfl ?_
        refine ge_batch [0, 1, 2, 3, 4] (ans := []) (vs := [(59, .func (.func 79) #[] #[]), (58, .int .i64 x1), (57, .int .i64 (IntKind.i64.wrap (z9 + z5))), (56, .int .i64 z9), (55, (.slice A0 m8.length c0))]) (l := []) (by kernel_rfl) trivial ?_
        rcases hq6 : slices_symMergeCmpFunc_api_Come.f K m8 z9 (IntKind.i64.wrap (z9 + z5)) x1 with _ | r4
        · rw [hq6] at h; cases h
        rw [hq6] at h
        simp only [] at h
        have hS27 : St w0 w5 [Own.of (.slice A0 m8.length c0) 53 m8, Own.all [Own.all LT]] := hS25.packN 1
        refine ge_call2 (m := 0) (d := some 60) (f := 106) (args := #[.slice A0 m8.length c0, .int .i64 z9, .int .i64 (IntKind.i64.wrap (z9 + z5)), .int .i64 x1, .func (.func 79) #[] #[]]) (by kernel_rfl) (slices_symMergeCmpFunc_api_Come_ok K m8 A0 c0 z9 (IntKind.i64.wrap (z9 + z5)) x1 _ _ _ hS27 _ hq6) ?_
        rintro _ w6 ⟨rfl, hE4, hS26⟩
        refine ⟨_, rfl, ?_⟩
        have hS28 : St w0 w6 [Own.of (.slice A0 r4.length c0) 53 r4, Own.all LT] := hS26.unpack [Own.of (.slice A0 r4.length c0) 53 r4]
        refine ge_same (t := 0) (v := (.slice A0 m8.length c0)) (v' := (.slice A0 r4.length c0)) (by kernel_rfl) (by rw [show m8.length = r4.length from hE4]) ?_
        refine ge_same (t := 55) (v := (.slice A0 m8.length c0)) (v' := (.slice A0 r4.length c0)) (by kernel_rfl) (by rw [show m8.length = r4.length from hE4]) ?_
        have hLio10 : l0.length = r4.length := Eq.trans hRz2 hE4
        refine ge_nil fun a hF => hK17 _ _ ?_ a hF
        refine we_region [(0, 0), (1, 0), (2, 0)] rfl ?_
        refine ge_batch [0, 1, 2] (ans := []) (vs := [(6, .int .i64 (IntKind.i64.wrap (z5 * 2))), (62, .int .i64 (IntKind.i64.wrap (z5 * 2))), (61, .int .i64 z5)]) (l := []) (by kernel_rfl) trivial ?_
        have hS29 := hS28.bring 1 rfl
        have hS30 := hS29.bring 1 rfl
        obtain rfl := Option.some.inj h
        exact ge_nil fun a hF => hQ _ _ _ (Outs.again ⟨hLio10, hS30, hF.weaken ⟨by kernel_rfl, by kernel_rfl, by kernel_rfl, by kernel_rfl, trivial⟩⟩)
      · rw [if_neg hc4] at h
        refine we_known (t := 54) (b := decide ((IntKind.i64.wrap (z9 + z5)) < x1)) (v := false) (by kernel_rfl) (decide_eq_false hc4) ?_
        refine we_false (by kernel_rfl) ?_
        refine we_skip fun a hF => hK17 _ _ ?_ a hF
        refine we_region [(0, 0), (1, 0), (2, 0)] rfl ?_
        refine ge_batch [0, 1, 2] (ans := []) (vs := [(6, .int .i64 (IntKind.i64.wrap (z5 * 2))), (62, .int .i64 (IntKind.i64.wrap (z5 * 2))), (61, .int .i64 z5)]) (l := []) (by kernel_rfl) trivial ?_
        have hS31 := hS25.bring 1 rfl
        have hS32 := hS31.bring 1 rfl
        obtain rfl := Option.some.inj h
        exact ge_nil fun a hF => hQ _ _ _ (Outs.again ⟨hRz2, hS32, hF.weaken ⟨by kernel_rfl, by kernel_rfl, by kernel_rfl, by kernel_rfl, trivial⟩⟩)
    · rw [hq5] at h
      simp only [] at h
      refine we_iter (A := slices_stableCmpFunc_api_Come.A2 K w0 l0 A0 c0 x1 LT z4 m3 hRz1 r2 hLio4 z5 m4 hLio5 hc2) (B := slices_stableCmpFunc_api_Come.B2 K w0 l0 A0 c0 x1 LT z4 m3 hRz1 r2 hLio4 z5 m4 hLio5 hc2) hq5 (fun a hF => ⟨hLio5, hS17, hF.weaken ⟨by kernel_rfl, by kernel_rfl, by kernel_rfl, by kernel_rfl, by kernel_rfl, by kernel_rfl, trivial⟩⟩) (fun s o hf a w hA Q hQ => slices_stableCmpFunc_api_Come_r2 K w0 l0 A0 c0 x1 LT z4 m3 hRz1 r2 hLio4 z5 m4 hLio5 hc2 s o hf a w hA Q hQ) ?_
      rintro _ a w1 _ ⟨rfl, hb⟩
      obtain rfl := Option.some.inj h
      exact hQ _ _ _ (Outs.out nofun (Exits.on ⟨rfl, hb⟩))
  · rw [if_neg hc2] at h
    refine we_known (t := 30) (b := decide (z5 < x1)) (v := false) (by kernel_rfl) (decide_eq_false hc2) ?_
    refine we_false (by kernel_rfl) ?_
    have hS33 := hS.bring 1 rfl
    have hS34 := hS33.bring 1 rfl
    obtain rfl := Option.some.inj h
    exact we_exit fun a hF => hQ _ _ _ (Outs.out nofun (Exits.here ⟨hLio5, hS34, hF.weaken ⟨by kernel_rfl, by kernel_rfl, trivial⟩⟩))
theorem slices_stableCmpFunc_api_Come_ok (K : Nat) (l0 : List SCome) (A0 : Option Addr) (c0 : Nat) (x1 : Int) (w0 wE : World) (LT : List Own) (hS : St w0 wE [Own.of (.slice A0 l0.length c0) 53 l0, Own.all LT]) (r : List SCome) (h : slices_stableCmpFunc_api_Come.f K l0 x1 = some r) :
    Calls Tryd.prog 98 #[(.slice A0 l0.length c0), .int .i64 x1, .func (.func 79) #[] #[]] wE (slices_stableCmpFunc_api_Come.Post w0 l0 A0 c0 x1 LT r) := by
  unfold slices_stableCmpFunc_api_Come.f at h
  refine calls_enter (n := 63) (args := [(.slice A0 l0.length c0), .int .i64 x1, .func (.func 79) #[] #[]]) (fn := Tryd.f98) rfl rfl rfl rfl ?_
  show WE _ _ _ _ [(0, (.slice A0 l0.length c0)), (1, .int .i64 x1), (2, .func (.func 79) #[] #[])] _
  refine we_seq fun K1 hK1 => ?_
  refine we_region [(0, 0)] rfl ?_
  refine ge_batch [0] (ans := []) (vs := [(6, .int .i64 20)]) (l := []) (by kernel_rfl) trivial ?_
  refine ge_nil fun a hF => hK1 _ _ ?_ a hF
  refine we_seq fun K2 hK2 => ?_
  refine we_region [(0, 0), (1, 0), (2, 0)] rfl ?_
  refine ge_batch [0, 1, 2] (ans := []) (vs := [(8, .int .i64 20), (7, .int .i64 0), (10, .int .i64 20)]) (l := []) (by kernel_rfl) trivial ?_
  refine ge_nil fun a hF => hK2 _ _ ?_ a hF
  refine we_seq fun K3 hK3 => ?_
  refine we_block ?_
  have hS1 := hS.bring 1 rfl
  have hS2 := hS1.bring 1 rfl
  rcases hq2 : iter (slices_stableCmpFunc_api_Come.r0 K x1) K (0, 20, l0) with _ | (⟨z4, m3⟩ | rr3)
  · rw [hq2] at h; cases h
  · rw [hq2] at h
    simp only [] at h
    refine we_iter (A := slices_stableCmpFunc_api_Come.A0 K w0 l0 A0 c0 x1 LT) (B := slices_stableCmpFunc_api_Come.B0 K w0 l0 A0 c0 x1 LT) hq2 (fun a hF => ⟨rfl, hS2, hF.weaken ⟨by kernel_rfl, by kernel_rfl, by kernel_rfl, by kernel_rfl, by kernel_rfl, by kernel_rfl, trivial⟩⟩) (fun s o hf a w hA Q hQ => slices_stableCmpFunc_api_Come_r0 K w0 l0 A0 c0 x1 LT s o hf a w hA Q hQ) ?_
    rintro _ a w2 _ ⟨rfl, hRz1, hS10, hF⟩
    replace hS10 : St w0 w2 [Own.of (.slice A0 m3.length c0) 53 m3, Own.all LT] := hS10
    refine hK3 [(0, (.slice A0 m3.length c0)), (1, .int .i64 x1), (2, .func (.func 79) #[] #[]), (6, .int .i64 20), (7, .int .i64 z4)] w2 ?_ a hF
    refine we_seq fun K8 hK8 => ?_
    refine we_region [(0, 0), (1, 0), (2, 0), (3, 0), (4, 2)] rfl ?_
    refine ge_batch [0, 1, 2, 3] (ans := []) (vs := [(26, .func (.func 79) #[] #[]), (25, .int .i64 x1), (24, .int .i64 z4), (23, (.slice A0 m3.length c0))]) (l := []) (by kernel_rfl) trivial ?_
    rcases hq3 : slices_insertionSortCmpFunc_api_Come.f K m3 z4 x1 with _ | r2
    · rw [hq3] at h; cases h
    rw [hq3] at h
    simp only [] at h
    have hS12 : St w0 w2 [Own.of (.slice A0 m3.length c0) 53 m3, Own.all [Own.all LT]] := hS10.packN 1
    refine ge_call2 (m := 0) (d := some 27) (f := 105) (args := #[.slice A0 m3.length c0, .int .i64 z4, .int .i64 x1, .func (.func 79) #[] #[]]) (by kernel_rfl) (slices_insertionSortCmpFunc_api_Come_ok K m3 A0 c0 z4 x1 _ _ _ hS12 _ hq3) ?_
    rintro _ w3 ⟨rfl, hE2, hS11⟩
    refine ⟨_, rfl, ?_⟩
    have hS13 : St w0 w3 [Own.of (.slice A0 r2.length c0) 53 r2, Own.all LT] := hS11.unpack [Own.of (.slice A0 r2.length c0) 53 r2]
    refine ge_same (t := 0) (v := (.slice A0 m3.length c0)) (v' := (.slice A0 r2.length c0)) (by kernel_rfl) (by rw [show m3.length = r2.length from hE2]) ?_
    refine ge_same (t := 23) (v := (.slice A0 m3.length c0)) (v' := (.slice A0 r2.length c0)) (by kernel_rfl) (by rw [show m3.length = r2.length from hE2]) ?_
    have hLio4 : l0.length = r2.length := Eq.trans hRz1 hE2
    refine ge_nil fun a hF => hK8 _ _ ?_ a hF
    refine we_block ?_
    have hS14 := hS13.bring 1 rfl
    have hS15 := hS14.bring 1 rfl
    rcases hq7 : iter (slices_stableCmpFunc_api_Come.r1 K x1 r2) K (20, r2) with _ | (m9 | rr2)
    · rw [hq7] at h; cases h
    · rw [hq7] at h
      simp only [] at h
      refine we_iter (A := slices_stableCmpFunc_api_Come.A1 K w0 l0 A0 c0 x1 LT z4 m3 hRz1 r2 hLio4) (B := slices_stableCmpFunc_api_Come.B1 K w0 l0 A0 c0 x1 LT z4 m3 hRz1 r2 hLio4) hq7 (fun a hF => ⟨hLio4, hS15, hF.weaken ⟨by kernel_rfl, by kernel_rfl, by kernel_rfl, by kernel_rfl, trivial⟩⟩) (fun s o hf a w hA Q hQ => slices_stableCmpFunc_api_Come_r1 K w0 l0 A0 c0 x1 LT z4 m3 hRz1 r2 hLio4 s o hf a w hA Q hQ) ?_
      rintro _ a w7 _ ⟨rfl, hRz3, hS35, hF⟩
      replace hS35 : St w0 w7 [Own.of (.slice A0 m9.length c0) 53 m9, Own.all LT] := hS35
      have hS36 := hS35.bring 1 rfl
      have hS37 := hS36.bring 1 rfl
      obtain rfl := Option.some.inj h
      exact (post_end (rs := []) (ans := []) (vs := []) (l := []) rfl (by kernel_rfl) trivial ⟨rfl, hRz3, hS37⟩) a hF
    · rw [hq7] at h
      simp only [] at h
      refine we_iter (A := slices_stableCmpFunc_api_Come.A1 K w0 l0 A0 c0 x1 LT z4 m3 hRz1 r2 hLio4) (B := slices_stableCmpFunc_api_Come.B1 K w0 l0 A0 c0 x1 LT z4 m3 hRz1 r2 hLio4) hq7 (fun a hF => ⟨hLio4, hS15, hF.weaken ⟨by kernel_rfl, by kernel_rfl, by kernel_rfl, by kernel_rfl, trivial⟩⟩) (fun s o hf a w hA Q hQ => slices_stableCmpFunc_api_Come_r1 K w0 l0 A0 c0 x1 LT z4 m3 hRz1 r2 hLio4 s o hf a w hA Q hQ) ?_
      rintro _ a w1 _ ⟨rfl, hb⟩
      obtain rfl := Option.some.inj h
      exact hb
  · rw [hq2] at h
    simp only [] at h
    refine we_iter (A := slices_stableCmpFunc_api_Come.A0 K w0 l0 A0 c0 x1 LT) (B := slices_stableCmpFunc_api_Come.B0 K w0 l0 A0 c0 x1 LT) hq2 (fun a hF => ⟨rfl, hS2, hF.weaken ⟨by kernel_rfl, by kernel_rfl, by kernel_rfl, by kernel_rfl, by kernel_rfl, by kernel_rfl, trivial⟩⟩) (fun s o hf a w hA Q hQ => slices_stableCmpFunc_api_Come_r0 K w0 l0 A0 c0 x1 LT s o hf a w hA Q hQ) ?_
    rintro _ a w1 _ ⟨rfl, hb⟩
    obtain rfl := Option.some.inj h
    exact hb

/-! slices.SortStableFunc[[]punctual/api.Come,punctual/api.Come] -/
abbrev slices_SortStableFunc_api_Come_api_Come.Post (w0 : World) (l0 : List SCome) (A0 : Option Addr) (c0 : Nat) (LT : List Own) (r : List SCome) (e : Ending) (w : World) : Prop := e = .returned (.tuple #[]) ∧ l0.length = r.length ∧ St w0 w [Own.of (.slice A0 r.length c0) 53 r, Own.all LT]
def slices_SortStableFunc_api_Come_api_Come.f (K : Nat) (l0 : List SCome) : Option (List SCome) :=
  match slices_stableCmpFunc_api_Come.f K l0 (l0.length : Int) with
  | none => none
  | some r1 =>
    some r1
theorem slices_SortStableFunc_api_Come_api_Come_ok (K : Nat) (l0 : List SCome) (A0 : Option Addr) (c0 : Nat) (w0 wE : World) (LT : List Own) (hS : St w0 wE [Own.of (.slice A0 l0.length c0) 53 l0, Own.all LT]) (r : List SCome) (h : slices_SortStableFunc_api_Come_api_Come.f K l0 = some r) :
    Calls Tryd.prog 78 #[(.slice A0 l0.length c0), .func (.func 79) #[] #[]] wE (slices_SortStableFunc_api_Come_api_Come.Post w0 l0 A0 c0 LT r) := by
  unfold slices_SortStableFunc_api_Come_api_Come.f at h
  refine calls_enter (n := 9) (args := [(.slice A0 l0.length c0), .func (.func 79) #[] #[]]) (fn := Tryd.f78) rfl rfl rfl rfl ?_
  show WE _ _ _ _ [(0, (.slice A0 l0.length c0)), (1, .func (.func 79) #[] #[])] _
  refine we_region [(0, 0), (1, 0), (2, 0), (3, 0), (4, 2)] rfl ?_
  refine ge_batch [0, 1, 2, 3] (ans := []) (vs := [(7, .func (.func 79) #[] #[]), (6, .int .i64 (l0.length : Int)), (5, (.slice A0 l0.length c0)), (4, (.slice A0 l0.length c0))]) (l := []) (by kernel_rfl) trivial ?_
  rcases hq1 : slices_stableCmpFunc_api_Come.f K l0 (l0.length : Int) with _ | r1
  · rw [hq1] at h; cases h
  rw [hq1] at h
  simp only [] at h
  have hS2 : St w0 wE [Own.of (.slice A0 l0.length c0) 53 l0, Own.all [Own.all LT]] := hS.packN 1
  refine ge_call2 (m := 0) (d := some 8) (f := 98) (args := #[.slice A0 l0.length c0, .int .i64 (l0.length : Int), .func (.func 79) #[] #[]]) (by kernel_rfl) (slices_stableCmpFunc_api_Come_ok K l0 A0 c0 (l0.length : Int) _ _ _ hS2 _ hq1) ?_
  rintro _ w1 ⟨rfl, hE1, hS1⟩
  refine ⟨_, rfl, ?_⟩
  have hS3 : St w0 w1 [Own.of (.slice A0 r1.length c0) 53 r1, Own.all LT] := hS1.unpack [Own.of (.slice A0 r1.length c0) 53 r1]
  refine ge_same (t := 0) (v := (.slice A0 l0.length c0)) (v' := (.slice A0 r1.length c0)) (by kernel_rfl) (by rw [show l0.length = r1.length from hE1]) ?_
  refine ge_same (t := 4) (v := (.slice A0 l0.length c0)) (v' := (.slice A0 r1.length c0)) (by kernel_rfl) (by rw [show l0.length = r1.length from hE1]) ?_
  refine ge_same (t := 5) (v := (.slice A0 l0.length c0)) (v' := (.slice A0 r1.length c0)) (by kernel_rfl) (by rw [show l0.length = r1.length from hE1]) ?_
  have hLio1 : l0.length = r1.length := Eq.trans rfl hE1
  have hS4 := hS3.bring 1 rfl
  have hS5 := hS4.bring 1 rfl
  obtain rfl := Option.some.inj h
  exact ge_nil (post_end (rs := []) (ans := []) (vs := []) (l := []) rfl (by kernel_rfl) trivial ⟨rfl, hLio1, hS5⟩)

/-! punctual/tasks.Comes -/
abbrev tasks_Comes.Post (w0 : World) (r : (List SCome) × SFault) (e : Ending) (w : World) : Prop := ∃ (v0 : Value), e = .returned (.tuple #[v0, .agg #[.int .i64 r.2.Code, .int .i64 r.2.At]]) ∧ St w0 w [Own.of v0 53 r.1]
def tasks_Comes.p0 (x1 : Int) : Option (Unit ⊕ ((List SCome) × SFault)) :=
    if x1 < 0 then
      some (.inr (([] : List SCome), (⟨3, 0⟩ : SFault)))
    else
      if x1 > 20000 then
        some (.inr (([] : List SCome), (⟨3, 0⟩ : SFault)))
      else
        some (.inl ())
def tasks_Comes.r2 (x1 : Int) (i1 : Nat) (e1 : STask) : (List SCome) × Int → Option (((List SCome) × Int) ⊕ ((List SCome) ⊕ ((List SCome) × SFault)))
  | (m3, z1) =>
    if z1 < x1 then
      if m3.length < 8796093022208 then
        if ((m3 ++ [(⟨(i1 : Int), z1⟩ : SCome)]).length : Int) > 4000 then
          some (.inr (.inr (([] : List SCome), (⟨2, 0⟩ : SFault))))
        else
          some (.inl ((m3 ++ [(⟨(i1 : Int), z1⟩ : SCome)]), IntKind.i64.wrap (z1 + e1.T)))
      else
        none
    else
      some (.inr (.inl m3))
def tasks_Comes.r1 (K : Nat) (l0 : List STask) (x1 : Int) : (List SCome) × Nat → Option (((List SCome) × Nat) ⊕ ((List SCome) ⊕ ((List SCome) × SFault)))
  | (m1, i1) =>
    if (i1 : Int) < (l0.length : Int) then
      match l0[i1]? with
      | none => none
      | some e1 =>
        match iter (tasks_Comes.r2 x1 i1 e1) K (m1, e1.O) with
        | none => none
        | some (.inl m5) =>
          some (.inl (m5, (i1 + 1)))
        | some (.inr rr1) =>
          some (.inr (.inr rr1))
    else
      some (.inr (.inl m1))
def tasks_Comes.f (K : Nat) (l0 : List STask) (x1 : Int) : Option ((List SCome) × SFault) :=
  match tasks_Check.f K l0 with
  | none => none
  | some r1 =>
    if r1.Code = 0 then
      match tasks_Comes.p0 x1 with
      | none => none
      | some (.inl _) =>
        match iter (tasks_Comes.r1 K l0 x1) K (([] : List SCome), 0) with
        | none => none
        | some (.inl m6) =>
          match slices_SortStableFunc_api_Come_api_Come.f K m6 with
          | none => none
          | some r2 =>
            some (r2, (⟨0, 0⟩ : SFault))
        | some (.inr rr2) =>
          some rr2
      | some (.inr rr3) =>
        some rr3
    else
      some (([] : List SCome), r1)
abbrev tasks_Comes.A0 (K : Nat) (w0 : World) (l0 : List STask) (A0 : Option Addr) (c0 : Nat) (x1 : Int) (hR0 : RdL w0 A0 l0) (hL0 : l0.length ≤ c0) (b1 : Nat) (r1 : SFault) (b2 : Nat) (hc1 : r1.Code = 0) : Unit → Act → World → Prop := fun (s : Unit) a w => St w0 w [Own.blk b1 (.cells #[.int .i64 0, .int .i64 0] 26 (0, 0))] ∧ Frm 55 a [(0, .slice A0 l0.length c0), (1, .int .i64 x1), (5, .pointer (some ⟨b1, 0, none⟩))]
abbrev tasks_Comes.B0 (K : Nat) (w0 : World) (l0 : List STask) (A0 : Option Addr) (c0 : Nat) (x1 : Int) (hR0 : RdL w0 A0 l0) (hL0 : l0.length ≤ c0) (b1 : Nat) (r1 : SFault) (b2 : Nat) (hc1 : r1.Code = 0) : ((List SCome) × SFault) → Exit → Act → World → Prop := Rets Tryd.prog Tryd.f44 (tasks_Comes.Post w0)
theorem tasks_Comes_p0 (K : Nat) (w0 : World) (l0 : List STask) (A0 : Option Addr) (c0 : Nat) (x1 : Int) (hR0 : RdL w0 A0 l0) (hL0 : l0.length ≤ c0) (b1 : Nat) (r1 : SFault) (b2 : Nat) (hc1 : r1.Code = 0) (o : Unit ⊕ ((List SCome) × SFault)) (h : tasks_Comes.p0 x1 = some o) (w : World) (hS : St w0 w [Own.blk b2 (.cells #[.int .i64 r1.Code, .int .i64 r1.At] 26 (0, 0)), Own.blk b1 (.cells #[.int .i64 0, .int .i64 0] 26 (0, 0))]) (Q : Exit → Act → World → Prop) (hQ : ∀ x a w, Outs (tasks_Comes.A0 K w0 l0 A0 c0 x1 hR0 hL0 b1 r1 b2 hc1) (tasks_Comes.B0 K w0 l0 A0 c0 x1 hR0 hL0 b1 r1 b2 hc1) o x a w → Q x a w) : WE Tryd.prog 55 (subF Tryd.f44 [1, 1, 0]) Q [(0, .slice A0 l0.length c0), (1, .int .i64 x1), (4, .slice none 0 0), (5, .pointer (some ⟨b1, 0, none⟩)), (6, .pointer (some ⟨b2, 0, none⟩)), (11, .slice A0 l0.length c0), (12, .agg #[.int .i64 r1.Code, .int .i64 r1.At]), (13, .pointer (some ⟨b2, 0, none⟩)), (14, .int .i64 r1.Code), (15, .bool false)] w := by
  simp only [tasks_Comes.p0] at h
  refine we_seq fun K6 hK6 => ?_
  refine we_region [(0, 0), (1, 0), (2, 0), (3, 0), (4, 0), (5, 0)] rfl ?_
  refine ge_batch [0, 1, 2] (ans := []) (vs := [(19, .bool (decide (x1 < 0))), (18, .bool (decide (x1 < 0))), (17, .int .i64 x1)]) (l := []) (by kernel_rfl) trivial ?_
  by_cases hc2 : x1 < 0
  · rw [if_pos hc2] at h
    refine ge_known (t := 19) (b := decide (x1 < 0)) (c := true) (by kernel_rfl) (decide_eq_true hc2) ?_
    refine ge_batch [3, 4, 5] (ans := []) (vs := [(22, .bool true), (21, undef), (20, undef)]) (l := []) (by kernel_rfl) trivial ?_
    refine ge_nil fun a hF => hK6 _ _ ?_ a hF
    refine we_true (by kernel_rfl) ?_
    refine we_seq fun K7 hK7 => ?_
    refine we_region [(0, 0), (1, 0), (2, 2)] rfl ?_
    refine ge_batch [0, 1] (ans := []) (vs := [(4, .slice none 0 0), (23, .agg #[.int .i64 3, .int .i64 0])]) (l := []) (by kernel_rfl) trivial ?_
    have hS7 := hS.bring 1 rfl
    refine ge_set (b := b1) (j := 0) (cs := #[.int .i64 0, .int .i64 0]) (t := 26) (vs := [.int .i64 3, .int .i64 0]) hS7 (by kernel_rfl) rfl rfl fun w5 hS8 => ?_
    have hS9 : St w0 w5 [Own.blk b1 (.cells #[.int .i64 3, .int .i64 0] 26 (0, 0)), Own.blk b2 (.cells #[.int .i64 r1.Code, .int .i64 r1.At] 26 (0, 0))] := hS8
    refine ge_nil fun a hF => hK7 _ _ ?_ a hF
    have hS10 := hS9.nil (α := SCome) 53
    have hS11 := hS10.takeN 1
    obtain rfl := Option.some.inj h
    exact we_ret fun a hF => hQ _ _ _ (Outs.out nofun ⟨rfl, (post_ret (rs := [.tmp 4, .cell 5 26]) (ans := [.val (.int .i64 3), .val (.int .i64 0)]) (vs := [(.slice none 0 0), .agg #[.int .i64 3, .int .i64 0]]) (l := [.loaded ⟨b1, 0, none⟩ (.int .i64 3), .loaded ⟨b1, 1, none⟩ (.int .i64 0)]) rfl (by kernel_rfl) ⟨hS10.cell 1 rfl rfl, hS10.cell 1 rfl rfl, trivial⟩ ⟨(.slice none 0 0), rfl, hS11⟩) a hF⟩)
  · rw [if_neg hc2] at h
    refine ge_known (t := 19) (b := decide (x1 < 0)) (c := false) (by kernel_rfl) (decide_eq_false hc2) ?_
    refine ge_batch [3, 4, 5] (ans := []) (vs := [(22, .bool (decide (x1 > 20000))), (21, .bool (decide (x1 > 20000))), (20, .int .i64 x1)]) (l := []) (by kernel_rfl) trivial ?_
    refine ge_nil fun a hF => hK6 _ _ ?_ a hF
    by_cases hc3 : x1 > 20000
    · rw [if_pos hc3] at h
      refine we_known (t := 22) (b := decide (x1 > 20000)) (v := true) (by kernel_rfl) (decide_eq_true hc3) ?_
      refine we_true (by kernel_rfl) ?_
      refine we_seq fun K8 hK8 => ?_
      refine we_region [(0, 0), (1, 0), (2, 2)] rfl ?_
      refine ge_batch [0, 1] (ans := []) (vs := [(4, .slice none 0 0), (23, .agg #[.int .i64 3, .int .i64 0])]) (l := []) (by kernel_rfl) trivial ?_
      have hS12 := hS.bring 1 rfl
      refine ge_set (b := b1) (j := 0) (cs := #[.int .i64 0, .int .i64 0]) (t := 26) (vs := [.int .i64 3, .int .i64 0]) hS12 (by kernel_rfl) rfl rfl fun w6 hS13 => ?_
      have hS14 : St w0 w6 [Own.blk b1 (.cells #[.int .i64 3, .int .i64 0] 26 (0, 0)), Own.blk b2 (.cells #[.int .i64 r1.Code, .int .i64 r1.At] 26 (0, 0))] := hS13
      refine ge_nil fun a hF => hK8 _ _ ?_ a hF
      have hS15 := hS14.nil (α := SCome) 53
      have hS16 := hS15.takeN 1
      obtain rfl := Option.some.inj h
      exact we_ret fun a hF => hQ _ _ _ (Outs.out nofun ⟨rfl, (post_ret (rs := [.tmp 4, .cell 5 26]) (ans := [.val (.int .i64 3), .val (.int .i64 0)]) (vs := [(.slice none 0 0), .agg #[.int .i64 3, .int .i64 0]]) (l := [.loaded ⟨b1, 0, none⟩ (.int .i64 3), .loaded ⟨b1, 1, none⟩ (.int .i64 0)]) rfl (by kernel_rfl) ⟨hS15.cell 1 rfl rfl, hS15.cell 1 rfl rfl, trivial⟩ ⟨(.slice none 0 0), rfl, hS16⟩) a hF⟩)
    · rw [if_neg hc3] at h
      refine we_known (t := 22) (b := decide (x1 > 20000)) (v := false) (by kernel_rfl) (decide_eq_false hc3) ?_
      refine we_false (by kernel_rfl) ?_
      have hS17 := hS.bring 1 rfl
      have hS18 := hS17.takeN 1
      obtain rfl := Option.some.inj h
      exact we_skip fun a hF => hQ _ _ _ (Outs.again ⟨hS18, hF.weaken ⟨by kernel_rfl, by kernel_rfl, by kernel_rfl, trivial⟩⟩)
abbrev tasks_Comes.A2 (K : Nat) (w0 : World) (l0 : List STask) (A0 : Option Addr) (c0 : Nat) (x1 : Int) (hR0 : RdL w0 A0 l0) (hL0 : l0.length ≤ c0) (b1 : Nat) (r1 : SFault) (b2 : Nat) (hc1 : r1.Code = 0) (m1 : List SCome) (i1 : Nat) (hc4 : (i1 : Int) < (l0.length : Int)) (e1 : STask) (hx3 : l0[i1]? = some e1) (b3 : Nat) (Z1 : Option Addr) (cz1 : Nat) : ((List SCome) × Int) → Act → World → Prop := fun (s : (List SCome) × Int) a w => ∃ (v3 : Value), St w0 w [Own.blk b3 (.cells #[.string e1.Name, .int .i64 e1.C, .int .i64 e1.T, .int .i64 e1.D, .int .i64 e1.J, .int .i64 e1.O, .int .i64 e1.P] 46 (0, 0)), Own.blk b1 (.cells #[.int .i64 0, .int .i64 0] 26 (0, 0)), Own.of v3 53 s.1] ∧ Frm 55 a [(1, .int .i64 x1), (5, .pointer (some ⟨b1, 0, none⟩)), (7, v3), (8, .int .i64 (i1 : Int)), (9, .pointer (some ⟨b3, 0, none⟩)), (10, .int .i64 s.2), (24, .slice A0 l0.length c0), (25, .int .i64 (l0.length : Int)), (26, .int .i64 (i1 : Int))]
abbrev tasks_Comes.B2 (K : Nat) (w0 : World) (l0 : List STask) (A0 : Option Addr) (c0 : Nat) (x1 : Int) (hR0 : RdL w0 A0 l0) (hL0 : l0.length ≤ c0) (b1 : Nat) (r1 : SFault) (b2 : Nat) (hc1 : r1.Code = 0) (m1 : List SCome) (i1 : Nat) (hc4 : (i1 : Int) < (l0.length : Int)) (e1 : STask) (hx3 : l0[i1]? = some e1) (b3 : Nat) (Z1 : Option Addr) (cz1 : Nat) : ((List SCome) ⊕ ((List SCome) × SFault)) → Exit → Act → World → Prop := Exits 2 (fun (s : (List SCome)) a w => ∃ (v4 : Value), St w0 w [Own.blk b1 (.cells #[.int .i64 0, .int .i64 0] 26 (0, 0)), Own.of v4 53 s] ∧ Frm 55 a [(1, .int .i64 x1), (5, .pointer (some ⟨b1, 0, none⟩)), (7, v4), (24, .slice A0 l0.length c0), (25, .int .i64 (l0.length : Int)), (26, .int .i64 (i1 : Int))]) (Rets Tryd.prog Tryd.f44 (tasks_Comes.Post w0))
theorem tasks_Comes_r2 (K : Nat) (w0 : World) (l0 : List STask) (A0 : Option Addr) (c0 : Nat) (x1 : Int) (hR0 : RdL w0 A0 l0) (hL0 : l0.length ≤ c0) (b1 : Nat) (r1 : SFault) (b2 : Nat) (hc1 : r1.Code = 0) (m1 : List SCome) (i1 : Nat) (hc4 : (i1 : Int) < (l0.length : Int)) (e1 : STask) (hx3 : l0[i1]? = some e1) (b3 : Nat) (Z1 : Option Addr) (cz1 : Nat) (s : (List SCome) × Int) (o : ((List SCome) × Int) ⊕ ((List SCome) ⊕ ((List SCome) × SFault))) (h : tasks_Comes.r2 x1 i1 e1 s = some o) (a : Act) (w : World) (hA : tasks_Comes.A2 K w0 l0 A0 c0 x1 hR0 hL0 b1 r1 b2 hc1 m1 i1 hc4 e1 hx3 b3 Z1 cz1 s a w) (Q : Exit → Act → World → Prop) (hQ : ∀ x a w, Outs (tasks_Comes.A2 K w0 l0 A0 c0 x1 hR0 hL0 b1 r1 b2 hc1 m1 i1 hc4 e1 hx3 b3 Z1 cz1) (tasks_Comes.B2 K w0 l0 A0 c0 x1 hR0 hL0 b1 r1 b2 hc1 m1 i1 hc4 e1 hx3 b3 Z1 cz1) o x a w → Q x a w) : (subF Tryd.f44 [1, 1, 1, 1, 0, 1, 0, 0, 1, 1, 0, 0, 1, 1, 0, 0]).wp Tryd.prog Q a w := by
  obtain ⟨m3, z1⟩ := s
  obtain ⟨v3, hS, hF⟩ := hA
  replace hS : St w0 w [Own.blk b3 (.cells #[.string e1.Name, .int .i64 e1.C, .int .i64 e1.T, .int .i64 e1.D, .int .i64 e1.J, .int .i64 e1.O, .int .i64 e1.P] 46 (0, 0)), Own.blk b1 (.cells #[.int .i64 0, .int .i64 0] 26 (0, 0)), Own.of v3 53 m3] := hS
  simp only [tasks_Comes.r2] at h
  refine (?_ : WE Tryd.prog 55 (subF Tryd.f44 [1, 1, 1, 1, 0, 1, 0, 0, 1, 1, 0, 0, 1, 1, 0, 0]) Q [(1, .int .i64 x1), (5, .pointer (some ⟨b1, 0, none⟩)), (7, v3), (8, .int .i64 (i1 : Int)), (9, .pointer (some ⟨b3, 0, none⟩)), (10, .int .i64 z1), (24, .slice A0 l0.length c0), (25, .int .i64 (l0.length : Int)), (26, .int .i64 (i1 : Int))] w) a hF
  clear hF a
  refine we_seq fun K17 hK17 => ?_
  refine we_seq fun K18 hK18 => ?_
  refine we_region [(0, 0), (1, 0), (2, 0)] rfl ?_
  refine ge_batch [0, 1, 2] (ans := []) (vs := [(35, .bool (decide (z1 < x1))), (34, .int .i64 x1), (33, .int .i64 z1)]) (l := []) (by kernel_rfl) trivial ?_
  refine ge_nil fun a hF => hK18 _ _ ?_ a hF
  by_cases hc5 : z1 < x1
  · rw [if_pos hc5] at h
    refine we_known (t := 35) (b := decide (z1 < x1)) (v := true) (by kernel_rfl) (decide_eq_true hc5) ?_
    refine we_true (by kernel_rfl) ?_
    refine we_skip fun a hF => hK17 _ _ ?_ a hF
    refine we_seq fun K19 hK19 => ?_
    refine we_block ?_
    refine we_seq fun K20 hK20 => ?_
    refine we_region [(0, 0), (1, 0), (2, 0), (3, 0), (4, 1), (5, 2), (6, 0)] rfl ?_
    refine ge_batch [0, 1, 2, 3] (ans := []) (vs := [(43, .agg #[.int .i64 (i1 : Int), .int .i64 z1]), (42, .int .i64 z1), (41, .int .i64 (i1 : Int)), (40, v3)]) (l := []) (by kernel_rfl) trivial ?_
    refine ge_new (d := some 44) (o := .cells #[.int .i64 (i1 : Int), .int .i64 z1] 53) (v := fun b => .slice (some ⟨b, 0, none⟩) 1 1) hS (fun b => by kernel_rfl) fun b4 w10 hx5 hS28 => ?_
    have hS29 := hS28.bring 3 rfl
    by_cases hc6 : m3.length < 8796093022208
    · rw [if_pos hc6] at h
      refine ge_append (α := SCome) (m := 0) (d := 45) (t := 49) (el := 53) (bytes := 16) (c1 := 1) (b1 := b4) (x := (.tmp 40)) (y := (.tmp 44)) (ty := 49) (v := v3) (z := .agg #[.int .i64 0, .int .i64 0]) (l := m3) (u := (⟨(i1 : Int), z1⟩ : SCome)) (by kernel_rfl) (by kernel_rfl) (by kernel_rfl) (by kernel_rfl) (by kernel_rfl) rfl hS29 rfl (by omega) fun v5 w11 hS30 => ?_
      refine ge_batch [6] (ans := []) (vs := [(7, v5)]) (l := []) (by kernel_rfl) trivial ?_
      refine ge_nil fun a hF => hK20 _ _ ?_ a hF
      refine we_seq fun K21 hK21 => ?_
      refine we_region [(0, 0), (1, 0), (2, 0)] rfl ?_
      refine ge_batch [0] (ans := []) (vs := [(46, v5)]) (l := []) (by kernel_rfl) trivial ?_
      obtain ⟨Z2, cz2, rfl⟩ := hS30.open 0 rfl
      refine ge_batch [1, 2] (ans := []) (vs := [(48, .bool (decide (((m3 ++ [(⟨(i1 : Int), z1⟩ : SCome)]).length : Int) > 4000))), (47, .int .i64 ((m3 ++ [(⟨(i1 : Int), z1⟩ : SCome)]).length : Int))]) (l := []) (by kernel_rfl) trivial ?_
      refine ge_nil fun a hF => hK21 _ _ ?_ a hF
      by_cases hc7 : ((m3 ++ [(⟨(i1 : Int), z1⟩ : SCome)]).length : Int) > 4000
      · rw [if_pos hc7] at h
        refine we_known (t := 48) (b := decide (((m3 ++ [(⟨(i1 : Int), z1⟩ : SCome)]).length : Int) > 4000)) (v := true) (by kernel_rfl) (decide_eq_true hc7) ?_
        refine we_true (by kernel_rfl) ?_
        refine we_seq fun K22 hK22 => ?_
        refine we_region [(0, 0), (1, 0), (2, 2)] rfl ?_
        refine ge_batch [0, 1] (ans := []) (vs := [(4, .slice none 0 0), (49, .agg #[.int .i64 2, .int .i64 0])]) (l := []) (by kernel_rfl) trivial ?_
        have hS31 := hS30.bring 2 rfl
        refine ge_set (b := b1) (j := 0) (cs := #[.int .i64 0, .int .i64 0]) (t := 26) (vs := [.int .i64 2, .int .i64 0]) hS31 (by kernel_rfl) rfl rfl fun w12 hS32 => ?_
        have hS33 : St w0 w12 [Own.blk b1 (.cells #[.int .i64 2, .int .i64 0] 26 (0, 0)), Own.of (.slice Z2 (m3 ++ [(⟨(i1 : Int), z1⟩ : SCome)]).length cz2) 53 (m3 ++ [(⟨(i1 : Int), z1⟩ : SCome)]), Own.blk b3 (.cells #[.string e1.Name, .int .i64 e1.C, .int .i64 e1.T, .int .i64 e1.D, .int .i64 e1.J, .int .i64 e1.O, .int .i64 e1.P] 46 (0, 0))] := hS32
        refine ge_nil fun a hF => hK22 _ _ ?_ a hF
        have hS34 := hS33.nil (α := SCome) 53
        have hS35 := hS34.takeN 1
        obtain rfl := Option.some.inj h
        exact we_ret fun a hF => hQ _ _ _ (Outs.out nofun (Exits.on ⟨rfl, (post_ret (rs := [.tmp 4, .cell 5 26]) (ans := [.val (.int .i64 2), .val (.int .i64 0)]) (vs := [(.slice none 0 0), .agg #[.int .i64 2, .int .i64 0]]) (l := [.loaded ⟨b1, 0, none⟩ (.int .i64 2), .loaded ⟨b1, 1, none⟩ (.int .i64 0)]) rfl (by kernel_rfl) ⟨hS34.cell 1 rfl rfl, hS34.cell 1 rfl rfl, trivial⟩ ⟨(.slice none 0 0), rfl, hS35⟩) a hF⟩))
      · rw [if_neg hc7] at h
        refine we_known (t := 48) (b := decide (((m3 ++ [(⟨(i1 : Int), z1⟩ : SCome)]).length : Int) > 4000)) (v := false) (by kernel_rfl) (decide_eq_false hc7) ?_
        refine we_false (by kernel_rfl) ?_
        refine we_skip fun a hF => hK19 _ _ ?_ a hF
        refine we_region [(0, 0), (1, 0), (2, 0), (3, 0), (4, 0)] rfl ?_
        refine ge_batch [0, 1, 2, 3, 4] (ans := [.val (.int .i64 e1.T)]) (vs := [(10, .int .i64 (IntKind.i64.wrap (z1 + e1.T))), (39, .int .i64 (IntKind.i64.wrap (z1 + e1.T))), (38, .int .i64 e1.T), (37, .pointer (some ⟨b3, 2, none⟩)), (36, .int .i64 z1)]) (l := [.loaded ⟨b3, 2, none⟩ (.int .i64 e1.T)]) (by kernel_rfl) ⟨hS30.cell 1 rfl rfl, trivial⟩ ?_
        have hS36 := hS30.bring 2 rfl
        have hS37 := hS36.bring 2 rfl
        obtain rfl := Option.some.inj h
        exact ge_nil fun a hF => hQ _ _ _ (Outs.again ⟨(.slice Z2 (m3 ++ [(⟨(i1 : Int), z1⟩ : SCome)]).length cz2), hS37, hF.weaken ⟨by kernel_rfl, by kernel_rfl, by kernel_rfl, by kernel_rfl, by kernel_rfl, by kernel_rfl, by kernel_rfl, by kernel_rfl, by kernel_rfl, trivial⟩⟩)
    · rw [if_neg hc6] at h
      cases h
  · rw [if_neg hc5] at h
    refine we_known (t := 35) (b := decide (z1 < x1)) (v := false) (by kernel_rfl) (decide_eq_false hc5) ?_
    refine we_false (by kernel_rfl) ?_
    have hS38 := hS.bring 2 rfl
    have hS39 := hS38.bring 2 rfl
    have hS40 := hS39.takeN 2
    obtain rfl := Option.some.inj h
    exact we_exit fun a hF => hQ _ _ _ (Outs.out nofun (Exits.here ⟨v3, hS40, hF.weaken ⟨by kernel_rfl, by kernel_rfl, by kernel_rfl, by kernel_rfl, by kernel_rfl, by kernel_rfl, trivial⟩⟩))
abbrev tasks_Comes.A1 (K : Nat) (w0 : World) (l0 : List STask) (A0 : Option Addr) (c0 : Nat) (x1 : Int) (hR0 : RdL w0 A0 l0) (hL0 : l0.length ≤ c0) (b1 : Nat) (r1 : SFault) (b2 : Nat) (hc1 : r1.Code = 0) : ((List SCome) × Nat) → Act → World → Prop := fun (s : (List SCome) × Nat) a w => ∃ (v1 : Value), St w0 w [Own.blk b1 (.cells #[.int .i64 0, .int .i64 0] 26 (0, 0)), Own.of v1 53 s.1] ∧ Frm 55 a [(1, .int .i64 x1), (5, .pointer (some ⟨b1, 0, none⟩)), (7, v1), (24, .slice A0 l0.length c0), (25, .int .i64 (l0.length : Int)), (26, .int .i64 (s.2 : Int))]
abbrev tasks_Comes.B1 (K : Nat) (w0 : World) (l0 : List STask) (A0 : Option Addr) (c0 : Nat) (x1 : Int) (hR0 : RdL w0 A0 l0) (hL0 : l0.length ≤ c0) (b1 : Nat) (r1 : SFault) (b2 : Nat) (hc1 : r1.Code = 0) : ((List SCome) ⊕ ((List SCome) × SFault)) → Exit → Act → World → Prop := Exits 0 (fun (s : (List SCome)) a w => ∃ (v2 : Value), St w0 w [Own.blk b1 (.cells #[.int .i64 0, .int .i64 0] 26 (0, 0)), Own.of v2 53 s] ∧ Frm 55 a [(5, .pointer (some ⟨b1, 0, none⟩)), (7, v2)]) (Rets Tryd.prog Tryd.f44 (tasks_Comes.Post w0))
theorem tasks_Comes_r1 (K : Nat) (w0 : World) (l0 : List STask) (A0 : Option Addr) (c0 : Nat) (x1 : Int) (hR0 : RdL w0 A0 l0) (hL0 : l0.length ≤ c0) (b1 : Nat) (r1 : SFault) (b2 : Nat) (hc1 : r1.Code = 0) (s : (List SCome) × Nat) (o : ((List SCome) × Nat) ⊕ ((List SCome) ⊕ ((List SCome) × SFault))) (h : tasks_Comes.r1 K l0 x1 s = some o) (a : Act) (w : World) (hA : tasks_Comes.A1 K w0 l0 A0 c0 x1 hR0 hL0 b1 r1 b2 hc1 s a w) (Q : Exit → Act → World → Prop) (hQ : ∀ x a w, Outs (tasks_Comes.A1 K w0 l0 A0 c0 x1 hR0 hL0 b1 r1 b2 hc1) (tasks_Comes.B1 K w0 l0 A0 c0 x1 hR0 hL0 b1 r1 b2 hc1) o x a w → Q x a w) : (subF Tryd.f44 [1, 1, 1, 1, 0, 1, 0, 0]).wp Tryd.prog Q a w := by
  obtain ⟨m1, i1⟩ := s
  obtain ⟨v1, hS, hF⟩ := hA
  replace hS : St w0 w [Own.blk b1 (.cells #[.int .i64 0, .int .i64 0] 26 (0, 0)), Own.of v1 53 m1] := hS
  simp only [tasks_Comes.r1] at h
  refine (?_ : WE Tryd.prog 55 (subF Tryd.f44 [1, 1, 1, 1, 0, 1, 0, 0]) Q [(1, .int .i64 x1), (5, .pointer (some ⟨b1, 0, none⟩)), (7, v1), (24, .slice A0 l0.length c0), (25, .int .i64 (l0.length : Int)), (26, .int .i64 (i1 : Int))] w) a hF
  clear hF a
  refine we_seq fun K12 hK12 => ?_
  refine we_region [(0, 0)] rfl ?_
  refine ge_batch [0] (ans := []) (vs := [(27, .bool (decide ((i1 : Int) < (l0.length : Int))))]) (l := []) (by kernel_rfl) trivial ?_
  refine ge_nil fun a hF => hK12 _ _ ?_ a hF
  refine we_seq fun K13 hK13 => ?_
  by_cases hc4 : (i1 : Int) < (l0.length : Int)
  · rw [if_pos hc4] at h
    refine we_known (t := 27) (b := decide ((i1 : Int) < (l0.length : Int))) (v := true) (by kernel_rfl) (decide_eq_true hc4) ?_
    refine we_true (by kernel_rfl) ?_
    refine we_skip fun a hF => hK13 _ _ ?_ a hF
    refine we_seq fun K14 hK14 => ?_
    refine we_block ?_
    refine we_seq fun K15 hK15 => ?_
    refine we_region [(0, 0), (1, 0), (2, 0), (3, 1), (4, 0), (5, 2)] rfl ?_
    refine ge_batch [0] (ans := []) (vs := [(28, .int .i64 (i1 : Int))]) (l := []) (by kernel_rfl) trivial ?_
    rcases hx3 : l0[i1]? with _ | e1
    · rw [hx3] at h; cases h
    rw [hx3] at h
    simp only [] at h
    refine ge_index (d := 29) (ty := 0) (t := 40) (el := 46) (sz := 7) (m := l0.length) (c := c0) (x := (.tmp 24)) (y := (.tmp 26)) (A := A0) (k' := .i64) (j := (i1 : Int)) (jn := i1) (b0 := blkOf A0) (o0 := offOf A0) (by kernel_rfl) (by kernel_rfl) (by kernel_rfl) (by kernel_rfl) (by kernel_rfl) ((hS.rd hR0).eqSome (pos_of_get hx3)) rfl (lt_of_get hx3) ?_
    refine ge_batch [2] (ans := [.val (.string e1.Name), .val (.int .i64 e1.C), .val (.int .i64 e1.T), .val (.int .i64 e1.D), .val (.int .i64 e1.J), .val (.int .i64 e1.O), .val (.int .i64 e1.P)]) (vs := [(30, .agg #[.string e1.Name, .int .i64 e1.C, .int .i64 e1.T, .int .i64 e1.D, .int .i64 e1.J, .int .i64 e1.O, .int .i64 e1.P])]) (l := [.loaded ⟨blkOf A0, offOf A0 + i1 * 7, none⟩ (.string e1.Name), .loaded ⟨blkOf A0, offOf A0 + i1 * 7 + 1, none⟩ (.int .i64 e1.C), .loaded ⟨blkOf A0, offOf A0 + i1 * 7 + 2, none⟩ (.int .i64 e1.T), .loaded ⟨blkOf A0, offOf A0 + i1 * 7 + 3, none⟩ (.int .i64 e1.D), .loaded ⟨blkOf A0, offOf A0 + i1 * 7 + 4, none⟩ (.int .i64 e1.J), .loaded ⟨blkOf A0, offOf A0 + i1 * 7 + 5, none⟩ (.int .i64 e1.O), .loaded ⟨blkOf A0, offOf A0 + i1 * 7 + 6, none⟩ (.int .i64 e1.P)]) (by kernel_rfl) ⟨RdL.cell (j := 0) (hS.rd hR0) hx3 rfl, RdL.cell (j := 1) (hS.rd hR0) hx3 rfl, RdL.cell (j := 2) (hS.rd hR0) hx3 rfl, RdL.cell (j := 3) (hS.rd hR0) hx3 rfl, RdL.cell (j := 4) (hS.rd hR0) hx3 rfl, RdL.cell (j := 5) (hS.rd hR0) hx3 rfl, RdL.cell (j := 6) (hS.rd hR0) hx3 rfl, trivial⟩ ?_
    refine ge_new (d := some 9) (o := .cells #[.string (⟨#[]⟩), .int .i64 0, .int .i64 0, .int .i64 0, .int .i64 0, .int .i64 0, .int .i64 0] 46) (v := fun b => .pointer (some ⟨b, 0, none⟩)) hS (fun b => by kernel_rfl) fun b3 w8 hx4 hS22 => ?_
    refine ge_batch [4] (ans := []) (vs := [(8, .int .i64 (i1 : Int))]) (l := []) (by kernel_rfl) trivial ?_
    refine ge_set (b := b3) (j := 0) (cs := #[.string (⟨#[]⟩), .int .i64 0, .int .i64 0, .int .i64 0, .int .i64 0, .int .i64 0, .int .i64 0]) (t := 46) (vs := [.string e1.Name, .int .i64 e1.C, .int .i64 e1.T, .int .i64 e1.D, .int .i64 e1.J, .int .i64 e1.O, .int .i64 e1.P]) hS22 (by kernel_rfl) rfl rfl fun w9 hS23 => ?_
    have hS24 : St w0 w9 [Own.blk b3 (.cells #[.string e1.Name, .int .i64 e1.C, .int .i64 e1.T, .int .i64 e1.D, .int .i64 e1.J, .int .i64 e1.O, .int .i64 e1.P] 46 (0, 0)), Own.blk b1 (.cells #[.int .i64 0, .int .i64 0] 26 (0, 0)), Own.of v1 53 m1] := hS23
    refine ge_nil fun a hF => hK15 _ _ ?_ a hF
    refine we_seq fun K16 hK16 => ?_
    refine we_region [(0, 0), (1, 0), (2, 0)] rfl ?_
    refine ge_batch [0, 1, 2] (ans := [.val (.int .i64 e1.O)]) (vs := [(10, .int .i64 e1.O), (32, .int .i64 e1.O), (31, .pointer (some ⟨b3, 5, none⟩))]) (l := [.loaded ⟨b3, 5, none⟩ (.int .i64 e1.O)]) (by kernel_rfl) ⟨hS24.cell 0 rfl rfl, trivial⟩ ?_
    refine ge_nil fun a hF => hK16 _ _ ?_ a hF
    refine we_block ?_
    obtain ⟨Z1, cz1, rfl⟩ := hS24.open 2 rfl
    have hS25 := hS24.bring 2 rfl
    have hS26 := hS25.bring 2 rfl
    have hS27 := hS26.bring 2 rfl
    rcases hq3 : iter (tasks_Comes.r2 x1 i1 e1) K (m1, e1.O) with _ | (m5 | rr1)
    · rw [hq3] at h; cases h
    · rw [hq3] at h
      simp only [] at h
      refine we_iter (A := tasks_Comes.A2 K w0 l0 A0 c0 x1 hR0 hL0 b1 r1 b2 hc1 m1 i1 hc4 e1 hx3 b3 Z1 cz1) (B := tasks_Comes.B2 K w0 l0 A0 c0 x1 hR0 hL0 b1 r1 b2 hc1 m1 i1 hc4 e1 hx3 b3 Z1 cz1) hq3 (fun a hF => ⟨(.slice Z1 m1.length cz1), hS27, hF.weaken ⟨by kernel_rfl, by kernel_rfl, by kernel_rfl, by kernel_rfl, by kernel_rfl, by kernel_rfl, by kernel_rfl, by kernel_rfl, by kernel_rfl, trivial⟩⟩) (fun s o hf a w hA Q hQ => tasks_Comes_r2 K w0 l0 A0 c0 x1 hR0 hL0 b1 r1 b2 hc1 m1 i1 hc4 e1 hx3 b3 Z1 cz1 s o hf a w hA Q hQ) ?_
      rintro _ a w13 _ ⟨rfl, v6, hS41, hF⟩
      replace hS41 : St w0 w13 [Own.blk b1 (.cells #[.int .i64 0, .int .i64 0] 26 (0, 0)), Own.of v6 53 m5] := hS41
      refine hK14 [(1, .int .i64 x1), (5, .pointer (some ⟨b1, 0, none⟩)), (7, v6), (24, .slice A0 l0.length c0), (25, .int .i64 (l0.length : Int)), (26, .int .i64 (i1 : Int))] w13 ?_ a hF
      refine we_region [(0, 0), (1, 0)] rfl ?_
      refine ge_addn (d := 50) (ty := 3) (x := (.tmp 26)) (y := (.const (.int .i64 1))) (t := 3) (t2 := 3) (k := .i64) (m := i1) (by kernel_rfl) (by kernel_rfl) (by kernel_rfl) (by have h0 := hR0.small; omega) ?_
      refine ge_batch [1] (ans := []) (vs := [(26, .int .i64 ((i1 + 1 : Nat) : Int))]) (l := []) (by kernel_rfl) trivial ?_
      have hS42 := hS41.bring 1 rfl
      have hS43 := hS42.bring 1 rfl
      obtain rfl := Option.some.inj h
      exact ge_nil fun a hF => hQ _ _ _ (Outs.again ⟨v6, hS43, hF.weaken ⟨by kernel_rfl, by kernel_rfl, by kernel_rfl, by kernel_rfl, by kernel_rfl, by kernel_rfl, trivial⟩⟩)
    · rw [hq3] at h
      simp only [] at h
      refine we_iter (A := tasks_Comes.A2 K w0 l0 A0 c0 x1 hR0 hL0 b1 r1 b2 hc1 m1 i1 hc4 e1 hx3 b3 Z1 cz1) (B := tasks_Comes.B2 K w0 l0 A0 c0 x1 hR0 hL0 b1 r1 b2 hc1 m1 i1 hc4 e1 hx3 b3 Z1 cz1) hq3 (fun a hF => ⟨(.slice Z1 m1.length cz1), hS27, hF.weaken ⟨by kernel_rfl, by kernel_rfl, by kernel_rfl, by kernel_rfl, by kernel_rfl, by kernel_rfl, by kernel_rfl, by kernel_rfl, by kernel_rfl, trivial⟩⟩) (fun s o hf a w hA Q hQ => tasks_Comes_r2 K w0 l0 A0 c0 x1 hR0 hL0 b1 r1 b2 hc1 m1 i1 hc4 e1 hx3 b3 Z1 cz1 s o hf a w hA Q hQ) ?_
      rintro _ a w1 _ ⟨rfl, hb⟩
      obtain rfl := Option.some.inj h
      exact hQ _ _ _ (Outs.out nofun (Exits.on ⟨rfl, hb⟩))
  · rw [if_neg hc4] at h
    refine we_known (t := 27) (b := decide ((i1 : Int) < (l0.length : Int))) (v := false) (by kernel_rfl) (decide_eq_false hc4) ?_
    refine we_false (by kernel_rfl) ?_
    have hS44 := hS.bring 1 rfl
    have hS45 := hS44.bring 1 rfl
    obtain rfl := Option.some.inj h
    exact we_exit fun a hF => hQ _ _ _ (Outs.out nofun (Exits.here ⟨v1, hS45, hF.weaken ⟨by kernel_rfl, by kernel_rfl, trivial⟩⟩))
theorem tasks_Comes_ok (K : Nat) (l0 : List STask) (A0 : Option Addr) (c0 : Nat) (x1 : Int) (w0 : World) (hR0 : RdL w0 A0 l0) (hL0 : l0.length ≤ c0) (r : (List SCome) × SFault) (h : tasks_Comes.f K l0 x1 = some r) :
    Calls Tryd.prog 44 #[.slice A0 l0.length c0, .int .i64 x1] w0 (tasks_Comes.Post w0 r) := by
  have hS := St.start w0
  unfold tasks_Comes.f at h
  refine calls_enter (n := 55) (args := [.slice A0 l0.length c0, .int .i64 x1]) (fn := Tryd.f44) rfl rfl rfl rfl ?_
  show WE _ _ _ _ [(0, .slice A0 l0.length c0), (1, .int .i64 x1)] _
  refine we_seq fun K1 hK1 => ?_
  refine we_region [(0, 0), (1, 1)] rfl ?_
  refine ge_batch [0] (ans := []) (vs := [(4, .slice none 0 0)]) (l := []) (by kernel_rfl) trivial ?_
  refine ge_new (d := some 5) (o := .cells #[.int .i64 0, .int .i64 0] 26) (v := fun b => .pointer (some ⟨b, 0, none⟩)) hS (fun b => by kernel_rfl) fun b1 w1 hx1 hS1 => ?_
  refine ge_nil fun a hF => hK1 _ _ ?_ a hF
  refine we_seq fun K2 hK2 => ?_
  refine we_seq fun K3 hK3 => ?_
  refine we_region [(0, 0), (1, 1), (2, 1), (3, 2)] rfl ?_
  rcases hq1 : tasks_Check.f K l0 with _ | r1
  · rw [hq1] at h; cases h
  rw [hq1] at h
  simp only [] at h
  refine ge_batch [0] (ans := []) (vs := [(11, .slice A0 l0.length c0)]) (l := []) (by kernel_rfl) trivial ?_
  refine ge_call (d := some 12) (f := 19) (args := #[.slice A0 l0.length c0]) (by kernel_rfl) (tasks_Check_ok K l0 A0 c0 _ (hS1.rd hR0) hL0 _ hq1) ?_
  rintro _ w2 ⟨rfl, hS2⟩
  refine ⟨_, rfl, hS2.below, ?_⟩
  have hS3 := hS1.call hS2
  refine ge_new (d := some 6) (o := .cells #[.int .i64 0, .int .i64 0] 26) (v := fun b => .pointer (some ⟨b, 0, none⟩)) hS3 (fun b => by kernel_rfl) fun b2 w3 hx2 hS4 => ?_
  refine ge_set (b := b2) (j := 0) (cs := #[.int .i64 0, .int .i64 0]) (t := 26) (vs := [.int .i64 r1.Code, .int .i64 r1.At]) hS4 (by kernel_rfl) rfl rfl fun w4 hS5 => ?_
  have hS6 : St w0 w4 [Own.blk b2 (.cells #[.int .i64 r1.Code, .int .i64 r1.At] 26 (0, 0)), Own.blk b1 (.cells #[.int .i64 0, .int .i64 0] 26 (0, 0))] := hS5
  refine ge_nil fun a hF => hK3 _ _ ?_ a hF
  refine we_seq fun K4 hK4 => ?_
  refine we_region [(0, 0), (1, 0), (2, 0)] rfl ?_
  refine ge_batch [0, 1, 2] (ans := [.val (.int .i64 r1.Code)]) (vs := [(15, .bool (r1.Code != 0)), (14, .int .i64 r1.Code), (13, .pointer (some ⟨b2, 0, none⟩))]) (l := [.loaded ⟨b2, 0, none⟩ (.int .i64 r1.Code)]) (by kernel_rfl) ⟨hS6.cell 0 rfl rfl, trivial⟩ ?_
  refine ge_nil fun a hF => hK4 _ _ ?_ a hF
  by_cases hc1 : r1.Code = 0
  · rw [if_pos hc1] at h
    refine we_known (t := 15) (b := (r1.Code != 0)) (v := false) (by kernel_rfl) (bne_eq_false_iff_eq.2 hc1) ?_
    refine we_false (by kernel_rfl) ?_
    refine we_skip fun a hF => hK2 _ _ ?_ a hF
    refine we_seq fun K5 hK5 => ?_
    rcases hq2 : tasks_Comes.p0 x1 with _ | (_ | rr3)
    · rw [hq2] at h; cases h
    · rw [hq2] at h
      simp only [] at h
      refine we_keep (e' := [(0, .slice A0 l0.length c0), (1, .int .i64 x1), (4, .slice none 0 0), (5, .pointer (some ⟨b1, 0, none⟩)), (6, .pointer (some ⟨b2, 0, none⟩)), (11, .slice A0 l0.length c0), (12, .agg #[.int .i64 r1.Code, .int .i64 r1.At]), (13, .pointer (some ⟨b2, 0, none⟩)), (14, .int .i64 r1.Code), (15, .bool false)]) ⟨by kernel_rfl, by kernel_rfl, by kernel_rfl, by kernel_rfl, by kernel_rfl, by kernel_rfl, by kernel_rfl, by kernel_rfl, by kernel_rfl, by kernel_rfl, trivial⟩ (tasks_Comes_p0 K w0 l0 A0 c0 x1 hR0 hL0 b1 r1 b2 hc1 _ hq2 _ hS6 _ ?_)
      rintro _ a w7 ⟨rfl, hS19, hF⟩
      replace hS19 : St w0 w7 [Own.blk b1 (.cells #[.int .i64 0, .int .i64 0] 26 (0, 0))] := hS19
      refine hK5 [(0, .slice A0 l0.length c0), (1, .int .i64 x1), (5, .pointer (some ⟨b1, 0, none⟩))] w7 ?_ a hF
      refine we_seq fun K9 hK9 => ?_
      refine we_region [(0, 0)] rfl ?_
      refine ge_batch [0] (ans := []) (vs := [(7, .slice none 0 0)]) (l := []) (by kernel_rfl) trivial ?_
      refine ge_nil fun a hF => hK9 _ _ ?_ a hF
      refine we_seq fun K10 hK10 => ?_
      refine we_seq fun K11 hK11 => ?_
      refine we_region [(0, 0), (1, 0), (2, 0)] rfl ?_
      refine ge_batch [0, 1, 2] (ans := []) (vs := [(26, .int .i64 0), (25, .int .i64 (l0.length : Int)), (24, .slice A0 l0.length c0)]) (l := []) (by kernel_rfl) trivial ?_
      refine ge_nil fun a hF => hK11 _ _ ?_ a hF
      refine we_block ?_
      have hS20 := hS19.nil (α := SCome) 53
      have hS21 := hS20.bring 1 rfl
      rcases hq4 : iter (tasks_Comes.r1 K l0 x1) K (([] : List SCome), 0) with _ | (m6 | rr2)
      · rw [hq4] at h; cases h
      · rw [hq4] at h
        simp only [] at h
        refine we_iter (A := tasks_Comes.A1 K w0 l0 A0 c0 x1 hR0 hL0 b1 r1 b2 hc1) (B := tasks_Comes.B1 K w0 l0 A0 c0 x1 hR0 hL0 b1 r1 b2 hc1) hq4 (fun a hF => ⟨(.slice none 0 0), hS21, hF.weaken ⟨by kernel_rfl, by kernel_rfl, by kernel_rfl, by kernel_rfl, by kernel_rfl, by kernel_rfl, trivial⟩⟩) (fun s o hf a w hA Q hQ => tasks_Comes_r1 K w0 l0 A0 c0 x1 hR0 hL0 b1 r1 b2 hc1 s o hf a w hA Q hQ) ?_
        rintro _ a w14 _ ⟨rfl, v7, hS46, hF⟩
        replace hS46 : St w0 w14 [Own.blk b1 (.cells #[.int .i64 0, .int .i64 0] 26 (0, 0)), Own.of v7 53 m6] := hS46
        refine hK10 [(5, .pointer (some ⟨b1, 0, none⟩)), (7, v7)] w14 ?_ a hF
        refine we_seq fun K23 hK23 => ?_
        refine we_region [(0, 0), (1, 2)] rfl ?_
        refine ge_batch [0] (ans := []) (vs := [(51, v7)]) (l := []) (by kernel_rfl) trivial ?_
        obtain ⟨Z3, cz3, rfl⟩ := hS46.open 1 rfl
        rcases hq5 : slices_SortStableFunc_api_Come_api_Come.f K m6 with _ | r2
        · rw [hq5] at h; cases h
        rw [hq5] at h
        simp only [] at h
        have hS47 := hS46.bring 1 rfl
        have hS49 : St w0 w14 [Own.of (.slice Z3 m6.length cz3) 53 m6, Own.all [Own.blk b1 (.cells #[.int .i64 0, .int .i64 0] 26 (0, 0))]] := hS47.packN 1
        refine ge_call2 (m := 0) (d := some 52) (f := 78) (args := #[.slice Z3 m6.length cz3, .func (.func 79) #[] #[]]) (by kernel_rfl) (slices_SortStableFunc_api_Come_api_Come_ok K m6 Z3 cz3 _ _ _ hS49 _ hq5) ?_
        rintro _ w15 ⟨rfl, hE1, hS48⟩
        refine ⟨_, rfl, ?_⟩
        have hS50 : St w0 w15 [Own.of (.slice Z3 r2.length cz3) 53 r2, Own.blk b1 (.cells #[.int .i64 0, .int .i64 0] 26 (0, 0))] := hS48.unpack [Own.of (.slice Z3 r2.length cz3) 53 r2]
        refine ge_same (t := 7) (v := (.slice Z3 m6.length cz3)) (v' := (.slice Z3 r2.length cz3)) (by kernel_rfl) (by rw [show m6.length = r2.length from hE1]) ?_
        refine ge_same (t := 51) (v := (.slice Z3 m6.length cz3)) (v' := (.slice Z3 r2.length cz3)) (by kernel_rfl) (by rw [show m6.length = r2.length from hE1]) ?_
        refine ge_nil fun a hF => hK23 _ _ ?_ a hF
        refine we_seq fun K24 hK24 => ?_
        refine we_region [(0, 0), (1, 0), (2, 0), (3, 2)] rfl ?_
        refine ge_batch [0, 1, 2] (ans := []) (vs := [(4, (.slice Z3 r2.length cz3)), (54, .agg #[.int .i64 0, .int .i64 0]), (53, (.slice Z3 r2.length cz3))]) (l := []) (by kernel_rfl) trivial ?_
        have hS51 := hS50.bring 1 rfl
        refine ge_set (b := b1) (j := 0) (cs := #[.int .i64 0, .int .i64 0]) (t := 26) (vs := [.int .i64 0, .int .i64 0]) hS51 (by kernel_rfl) rfl rfl fun w16 hS52 => ?_
        have hS53 : St w0 w16 [Own.blk b1 (.cells #[.int .i64 0, .int .i64 0] 26 (0, 0)), Own.of (.slice Z3 r2.length cz3) 53 r2] := hS52
        refine ge_nil fun a hF => hK24 _ _ ?_ a hF
        have hS54 := hS53.bring 1 rfl
        have hS55 := hS54.takeN 1
        obtain rfl := Option.some.inj h
        exact we_ret (post_ret (rs := [.tmp 4, .cell 5 26]) (ans := [.val (.int .i64 0), .val (.int .i64 0)]) (vs := [(.slice Z3 r2.length cz3), .agg #[.int .i64 0, .int .i64 0]]) (l := [.loaded ⟨b1, 0, none⟩ (.int .i64 0), .loaded ⟨b1, 1, none⟩ (.int .i64 0)]) rfl (by kernel_rfl) ⟨hS53.cell 0 rfl rfl, hS53.cell 0 rfl rfl, trivial⟩ ⟨(.slice Z3 r2.length cz3), rfl, hS55⟩)
      · rw [hq4] at h
        simp only [] at h
        refine we_iter (A := tasks_Comes.A1 K w0 l0 A0 c0 x1 hR0 hL0 b1 r1 b2 hc1) (B := tasks_Comes.B1 K w0 l0 A0 c0 x1 hR0 hL0 b1 r1 b2 hc1) hq4 (fun a hF => ⟨(.slice none 0 0), hS21, hF.weaken ⟨by kernel_rfl, by kernel_rfl, by kernel_rfl, by kernel_rfl, by kernel_rfl, by kernel_rfl, trivial⟩⟩) (fun s o hf a w hA Q hQ => tasks_Comes_r1 K w0 l0 A0 c0 x1 hR0 hL0 b1 r1 b2 hc1 s o hf a w hA Q hQ) ?_
        rintro _ a w1 _ ⟨rfl, hb⟩
        obtain rfl := Option.some.inj h
        exact hb
    · rw [hq2] at h
      simp only [] at h
      refine we_keep (e' := [(0, .slice A0 l0.length c0), (1, .int .i64 x1), (4, .slice none 0 0), (5, .pointer (some ⟨b1, 0, none⟩)), (6, .pointer (some ⟨b2, 0, none⟩)), (11, .slice A0 l0.length c0), (12, .agg #[.int .i64 r1.Code, .int .i64 r1.At]), (13, .pointer (some ⟨b2, 0, none⟩)), (14, .int .i64 r1.Code), (15, .bool false)]) ⟨by kernel_rfl, by kernel_rfl, by kernel_rfl, by kernel_rfl, by kernel_rfl, by kernel_rfl, by kernel_rfl, by kernel_rfl, by kernel_rfl, by kernel_rfl, trivial⟩ (tasks_Comes_p0 K w0 l0 A0 c0 x1 hR0 hL0 b1 r1 b2 hc1 _ hq2 _ hS6 _ ?_)
      rintro _ a w1 ⟨_, rfl, hb⟩
      obtain rfl := Option.some.inj h
      exact hb
  · rw [if_neg hc1] at h
    refine we_known (t := 15) (b := (r1.Code != 0)) (v := true) (by kernel_rfl) (bne_iff_ne.2 hc1) ?_
    refine we_true (by kernel_rfl) ?_
    refine we_seq fun K25 hK25 => ?_
    refine we_draws (by kernel_rfl) [(0, 0), (1, 0), (2, 2)] (by kernel_rfl) ?_
    have hS56 := hS6.drew
    refine ge_batch [0, 1] (ans := [.val (.int .i64 r1.Code), .val (.int .i64 r1.At)]) (vs := [(4, .slice none 0 0), (16, .agg #[.int .i64 r1.Code, .int .i64 r1.At])]) (l := [.loaded ⟨b2, 0, none⟩ (.int .i64 r1.Code), .loaded ⟨b2, 1, none⟩ (.int .i64 r1.At)]) (by kernel_rfl) ⟨hS56.cell 0 rfl rfl, hS56.cell 0 rfl rfl, trivial⟩ ?_
    have hS57 := hS56.bring 1 rfl
    refine ge_set (b := b1) (j := 0) (cs := #[.int .i64 0, .int .i64 0]) (t := 26) (vs := [.int .i64 r1.Code, .int .i64 r1.At]) hS57 (by kernel_rfl) rfl rfl fun w17 hS58 => ?_
    have hS59 : St w0 w17 [Own.blk b1 (.cells #[.int .i64 r1.Code, .int .i64 r1.At] 26 (0, 0)), Own.blk b2 (.cells #[.int .i64 r1.Code, .int .i64 r1.At] 26 (0, 0))] := hS58
    refine ge_nil fun a hF => hK25 _ _ ?_ a hF
    have hS60 := hS59.nil (α := SCome) 53
    have hS61 := hS60.takeN 1
    obtain rfl := Option.some.inj h
    exact we_ret (post_ret (rs := [.tmp 4, .cell 5 26]) (ans := [.val (.int .i64 r1.Code), .val (.int .i64 r1.At)]) (vs := [(.slice none 0 0), .agg #[.int .i64 r1.Code, .int .i64 r1.At]]) (l := [.loaded ⟨b1, 0, none⟩ (.int .i64 r1.Code), .loaded ⟨b1, 1, none⟩ (.int .i64 r1.At)]) rfl (by kernel_rfl) ⟨hS60.cell 1 rfl rfl, hS60.cell 1 rfl rfl, trivial⟩ ⟨(.slice none 0 0), rfl, hS61⟩)

/-! punctual/punctualsame.Same[punctual/api.Come] -/
abbrev punctualsame_Same_api_Come.Post (w0 : World) (r : Bool) (e : Ending) (w : World) : Prop := e = .returned (.bool r) ∧ St w0 w []
def punctualsame_Same_api_Come.r0 (l0 : List SCome) (l1 : List SCome) : Nat → Option (Nat ⊕ (Unit ⊕ Bool))
  | i1 =>
    if (i1 : Int) < (l0.length : Int) then
      match l0[i1]? with
      | none => none
      | some e1 =>
        match l1[i1]? with
        | none => none
        | some e2 =>
          if (SCome.eqb e1 e2) = true then
            some (.inl (i1 + 1))
          else
            some (.inr (.inr false))
    else
      some (.inr (.inl ()))
def punctualsame_Same_api_Come.f (K : Nat) (l0 : List SCome) (l1 : List SCome) : Option Bool :=
  if (l0.length : Int) = (l1.length : Int) then
    match iter (punctualsame_Same_api_Come.r0 l0 l1) K 0 with
    | none => none
    | some (.inl _) =>
      some true
    | some (.inr rr1) =>
      some rr1
  else
    some false
abbrev punctualsame_Same_api_Come.A0 (K : Nat) (w0 : World) (l0 : List SCome) (A0 : Option Addr) (c0 : Nat) (l1 : List SCome) (A1 : Option Addr) (c1 : Nat) (hR0 : RdL w0 A0 l0) (hL0 : l0.length ≤ c0) (hR1 : RdL w0 A1 l1) (hL1 : l1.length ≤ c1) (hc1 : (l0.length : Int) = (l1.length : Int)) : Nat → Act → World → Prop := fun (s : Nat) a w => St w0 w [] ∧ Frm 26 a [(0, .slice A0 l0.length c0), (1, .slice A1 l1.length c1), (12, .int .i64 (l0.length : Int)), (13, .int .i64 (s : Int))]
abbrev punctualsame_Same_api_Come.B0 (K : Nat) (w0 : World) (l0 : List SCome) (A0 : Option Addr) (c0 : Nat) (l1 : List SCome) (A1 : Option Addr) (c1 : Nat) (hR0 : RdL w0 A0 l0) (hL0 : l0.length ≤ c0) (hR1 : RdL w0 A1 l1) (hL1 : l1.length ≤ c1) (hc1 : (l0.length : Int) = (l1.length : Int)) : (Unit ⊕ Bool) → Exit → Act → World → Prop := Exits 0 (fun (s : Unit) a w => St w0 w [] ∧ Frm 26 a []) (Rets Tryd.prog Tryd.f45 (punctualsame_Same_api_Come.Post w0))
theorem punctualsame_Same_api_Come_r0 (K : Nat) (w0 : World) (l0 : List SCome) (A0 : Option Addr) (c0 : Nat) (l1 : List SCome) (A1 : Option Addr) (c1 : Nat) (hR0 : RdL w0 A0 l0) (hL0 : l0.length ≤ c0) (hR1 : RdL w0 A1 l1) (hL1 : l1.length ≤ c1) (hc1 : (l0.length : Int) = (l1.length : Int)) (s : Nat) (o : Nat ⊕ (Unit ⊕ Bool)) (h : punctualsame_Same_api_Come.r0 l0 l1 s = some o) (a : Act) (w : World) (hA : punctualsame_Same_api_Come.A0 K w0 l0 A0 c0 l1 A1 c1 hR0 hL0 hR1 hL1 hc1 s a w) (Q : Exit → Act → World → Prop) (hQ : ∀ x a w, Outs (punctualsame_Same_api_Come.A0 K w0 l0 A0 c0 l1 A1 c1 hR0 hL0 hR1 hL1 hc1) (punctualsame_Same_api_Come.B0 K w0 l0 A0 c0 l1 A1 c1 hR0 hL0 hR1 hL1 hc1) o x a w → Q x a w) : (subF Tryd.f45 [1, 1, 0, 1, 0, 0]).wp Tryd.prog Q a w := by
  obtain ⟨i1, hs⟩ : ∃ z, z = s := ⟨s, rfl⟩
  subst hs
  obtain ⟨hS, hF⟩ := hA
  replace hS : St w0 w [] := hS
  simp only [punctualsame_Same_api_Come.r0] at h
  refine (?_ : WE Tryd.prog 26 (subF Tryd.f45 [1, 1, 0, 1, 0, 0]) Q [(0, .slice A0 l0.length c0), (1, .slice A1 l1.length c1), (12, .int .i64 (l0.length : Int)), (13, .int .i64 (i1 : Int))] w) a hF
  clear hF a
  refine we_seq fun K6 hK6 => ?_
  refine we_region [(0, 0)] rfl ?_
  refine ge_batch [0] (ans := []) (vs := [(14, .bool (decide ((i1 : Int) < (l0.length : Int))))]) (l := []) (by kernel_rfl) trivial ?_
  refine ge_nil fun a hF => hK6 _ _ ?_ a hF
  refine we_seq fun K7 hK7 => ?_
  by_cases hc2 : (i1 : Int) < (l0.length : Int)
  · rw [if_pos hc2] at h
    refine we_known (t := 14) (b := decide ((i1 : Int) < (l0.length : Int))) (v := true) (by kernel_rfl) (decide_eq_true hc2) ?_
    refine we_true (by kernel_rfl) ?_
    refine we_skip fun a hF => hK7 _ _ ?_ a hF
    refine we_seq fun K8 hK8 => ?_
    refine we_block ?_
    refine we_seq fun K9 hK9 => ?_
    refine we_region [(0, 0), (1, 0)] rfl ?_
    refine ge_batch [0, 1] (ans := []) (vs := [(5, .int .i64 (i1 : Int)), (15, .int .i64 (i1 : Int))]) (l := []) (by kernel_rfl) trivial ?_
    refine ge_nil fun a hF => hK9 _ _ ?_ a hF
    refine we_seq fun K10 hK10 => ?_
    refine we_draws (by kernel_rfl) [(0, 0), (1, 0), (2, 0), (3, 0), (4, 0), (5, 0), (6, 0), (7, 0), (8, 0)] (by kernel_rfl) ?_
    have hS1 := hS.drew
    refine ge_batch [0, 1] (ans := []) (vs := [(17, .int .i64 (i1 : Int)), (16, .slice A0 l0.length c0)]) (l := []) (by kernel_rfl) trivial ?_
    rcases hx1 : l0[i1]? with _ | e1
    · rw [hx1] at h; cases h
    rw [hx1] at h
    simp only [] at h
    refine ge_index (d := 18) (ty := 0) (t := 49) (el := 53) (sz := 2) (m := l0.length) (c := c0) (x := (.tmp 16)) (y := (.tmp 17)) (A := A0) (k' := .i64) (j := (i1 : Int)) (jn := i1) (b0 := blkOf A0) (o0 := offOf A0) (by kernel_rfl) (by kernel_rfl) (by kernel_rfl) (by kernel_rfl) (by kernel_rfl) ((hS1.rd hR0).eqSome (pos_of_get hx1)) rfl (lt_of_get hx1) ?_
    refine ge_batch [3, 4, 5] (ans := [.val (.int .i64 e1.Task), .val (.int .i64 e1.At)]) (vs := [(21, .int .i64 (i1 : Int)), (20, .slice A1 l1.length c1), (19, .agg #[.int .i64 e1.Task, .int .i64 e1.At])]) (l := [.loaded ⟨blkOf A0, offOf A0 + i1 * 2, none⟩ (.int .i64 e1.Task), .loaded ⟨blkOf A0, offOf A0 + i1 * 2 + 1, none⟩ (.int .i64 e1.At)]) (by kernel_rfl) ⟨RdL.cell (j := 0) (hS1.rd hR0) hx1 rfl, RdL.cell (j := 1) (hS1.rd hR0) hx1 rfl, trivial⟩ ?_
    rcases hx2 : l1[i1]? with _ | e2
    · rw [hx2] at h; cases h
    rw [hx2] at h
    simp only [] at h
    refine ge_index (d := 22) (ty := 0) (t := 49) (el := 53) (sz := 2) (m := l1.length) (c := c1) (x := (.tmp 20)) (y := (.tmp 21)) (A := A1) (k' := .i64) (j := (i1 : Int)) (jn := i1) (b0 := blkOf A1) (o0 := offOf A1) (by kernel_rfl) (by kernel_rfl) (by kernel_rfl) (by kernel_rfl) (by kernel_rfl) ((hS1.rd hR1).eqSome (pos_of_get hx2)) rfl (lt_of_get hx2) ?_
    refine ge_batch [7] (ans := [.val (.int .i64 e2.Task), .val (.int .i64 e2.At)]) (vs := [(23, .agg #[.int .i64 e2.Task, .int .i64 e2.At])]) (l := [.loaded ⟨blkOf A1, offOf A1 + i1 * 2, none⟩ (.int .i64 e2.Task), .loaded ⟨blkOf A1, offOf A1 + i1 * 2 + 1, none⟩ (.int .i64 e2.At)]) (by kernel_rfl) ⟨RdL.cell (j := 0) (hS1.rd hR1) hx2 rfl, RdL.cell (j := 1) (hS1.rd hR1) hx2 rfl, trivial⟩ ?_
    refine ge_eqs (d := 24) (ty := 4) (op := .neq) (x := (.tmp 19)) (y := (.tmp 23)) (t := 53) (t2 := 53) (xs := #[.int .i64 e1.Task, .int .i64 e1.At]) (ys := #[.int .i64 e2.Task, .int .i64 e2.At]) (r := (SCome.eqb e1 e2)) (v := !(SCome.eqb e1 e2)) (by kernel_rfl) (by kernel_rfl) (by kernel_rfl) (by kernel_rfl) (by kernel_rfl) rfl ?_
    refine ge_nil fun a hF => hK10 _ _ ?_ a hF
    by_cases hc3 : (SCome.eqb e1 e2) = true
    · rw [if_pos hc3] at h
      refine we_known (t := 24) (b := !(SCome.eqb e1 e2)) (v := false) (by kernel_rfl) (congrArg (fun z => !z) hc3) ?_
      refine we_false (by kernel_rfl) ?_
      refine we_skip fun a hF => hK8 _ _ ?_ a hF
      refine we_region [(0, 0), (1, 0)] rfl ?_
      refine ge_addn (d := 25) (ty := 3) (x := (.tmp 13)) (y := (.const (.int .i64 1))) (t := 3) (t2 := 3) (k := .i64) (m := i1) (by kernel_rfl) (by kernel_rfl) (by kernel_rfl) (by have h0 := hR0.small; omega) ?_
      refine ge_batch [1] (ans := []) (vs := [(13, .int .i64 ((i1 + 1 : Nat) : Int))]) (l := []) (by kernel_rfl) trivial ?_
      obtain rfl := Option.some.inj h
      exact ge_nil fun a hF => hQ _ _ _ (Outs.again ⟨hS1, hF.weaken ⟨by kernel_rfl, by kernel_rfl, by kernel_rfl, by kernel_rfl, trivial⟩⟩)
    · rw [if_neg hc3] at h
      refine we_known (t := 24) (b := !(SCome.eqb e1 e2)) (v := true) (by kernel_rfl) (congrArg (fun z => !z) (Bool.eq_false_iff.2 hc3)) ?_
      refine we_true (by kernel_rfl) ?_
      refine we_seq fun K11 hK11 => ?_
      refine we_region [(0, 0)] rfl ?_
      refine ge_batch [0] (ans := []) (vs := [(4, .bool false)]) (l := []) (by kernel_rfl) trivial ?_
      refine ge_nil fun a hF => hK11 _ _ ?_ a hF
      obtain rfl := Option.some.inj h
      exact we_ret fun a hF => hQ _ _ _ (Outs.out nofun (Exits.on ⟨rfl, (post_ret (rs := [.tmp 4]) (ans := []) (vs := [.bool false]) (l := []) rfl (by kernel_rfl) trivial ⟨rfl, hS1⟩) a hF⟩))
  · rw [if_neg hc2] at h
    refine we_known (t := 14) (b := decide ((i1 : Int) < (l0.length : Int))) (v := false) (by kernel_rfl) (decide_eq_false hc2) ?_
    refine we_false (by kernel_rfl) ?_
    obtain rfl := Option.some.inj h
    exact we_exit fun a hF => hQ _ _ _ (Outs.out nofun (Exits.here ⟨hS, hF.weaken trivial⟩))
theorem punctualsame_Same_api_Come_ok (K : Nat) (l0 : List SCome) (A0 : Option Addr) (c0 : Nat) (l1 : List SCome) (A1 : Option Addr) (c1 : Nat) (w0 : World) (hR0 : RdL w0 A0 l0) (hL0 : l0.length ≤ c0) (hR1 : RdL w0 A1 l1) (hL1 : l1.length ≤ c1) (r : Bool) (h : punctualsame_Same_api_Come.f K l0 l1 = some r) :
    Calls Tryd.prog 45 #[.slice A0 l0.length c0, .slice A1 l1.length c1] w0 (punctualsame_Same_api_Come.Post w0 r) := by
  have hS := St.start w0
  unfold punctualsame_Same_api_Come.f at h
  refine calls_enter (n := 26) (args := [.slice A0 l0.length c0, .slice A1 l1.length c1]) (fn := Tryd.f45) rfl rfl rfl rfl ?_
  show WE _ _ _ _ [(0, .slice A0 l0.length c0), (1, .slice A1 l1.length c1)] _
  refine we_seq fun K1 hK1 => ?_
  refine we_region [(0, 0)] rfl ?_
  refine ge_batch [0] (ans := []) (vs := [(4, .bool false)]) (l := []) (by kernel_rfl) trivial ?_
  refine ge_nil fun a hF => hK1 _ _ ?_ a hF
  refine we_seq fun K2 hK2 => ?_
  refine we_seq fun K3 hK3 => ?_
  refine we_region [(0, 0), (1, 0), (2, 0), (3, 0), (4, 0)] rfl ?_
  refine ge_batch [0, 1, 2, 3, 4] (ans := []) (vs := [(10, .bool ((l0.length : Int) != (l1.length : Int))), (9, .int .i64 (l1.length : Int)), (8, .slice A1 l1.length c1), (7, .int .i64 (l0.length : Int)), (6, .slice A0 l0.length c0)]) (l := []) (by kernel_rfl) trivial ?_
  refine ge_nil fun a hF => hK3 _ _ ?_ a hF
  by_cases hc1 : (l0.length : Int) = (l1.length : Int)
  · rw [if_pos hc1] at h
    refine we_known (t := 10) (b := ((l0.length : Int) != (l1.length : Int))) (v := false) (by kernel_rfl) (bne_eq_false_iff_eq.2 hc1) ?_
    refine we_false (by kernel_rfl) ?_
    refine we_skip fun a hF => hK2 _ _ ?_ a hF
    refine we_seq fun K4 hK4 => ?_
    refine we_seq fun K5 hK5 => ?_
    refine we_region [(0, 0), (1, 0), (2, 0)] rfl ?_
    refine ge_batch [0, 1, 2] (ans := []) (vs := [(13, .int .i64 0), (12, .int .i64 (l0.length : Int)), (11, .slice A0 l0.length c0)]) (l := []) (by kernel_rfl) trivial ?_
    refine ge_nil fun a hF => hK5 _ _ ?_ a hF
    refine we_block ?_
    rcases hq1 : iter (punctualsame_Same_api_Come.r0 l0 l1) K 0 with _ | (_ | rr1)
    · rw [hq1] at h; cases h
    · rw [hq1] at h
      simp only [] at h
      refine we_iter (A := punctualsame_Same_api_Come.A0 K w0 l0 A0 c0 l1 A1 c1 hR0 hL0 hR1 hL1 hc1) (B := punctualsame_Same_api_Come.B0 K w0 l0 A0 c0 l1 A1 c1 hR0 hL0 hR1 hL1 hc1) hq1 (fun a hF => ⟨hS, hF.weaken ⟨by kernel_rfl, by kernel_rfl, by kernel_rfl, by kernel_rfl, trivial⟩⟩) (fun s o hf a w hA Q hQ => punctualsame_Same_api_Come_r0 K w0 l0 A0 c0 l1 A1 c1 hR0 hL0 hR1 hL1 hc1 s o hf a w hA Q hQ) ?_
      rintro _ a w1 _ ⟨rfl, hS2, hF⟩
      replace hS2 : St w0 w1 [] := hS2
      refine hK4 [] w1 ?_ a hF
      refine we_seq fun K12 hK12 => ?_
      refine we_region [(0, 0)] rfl ?_
      refine ge_batch [0] (ans := []) (vs := [(4, .bool true)]) (l := []) (by kernel_rfl) trivial ?_
      refine ge_nil fun a hF => hK12 _ _ ?_ a hF
      obtain rfl := Option.some.inj h
      exact we_ret (post_ret (rs := [.tmp 4]) (ans := []) (vs := [.bool true]) (l := []) rfl (by kernel_rfl) trivial ⟨rfl, hS2⟩)
    · rw [hq1] at h
      simp only [] at h
      refine we_iter (A := punctualsame_Same_api_Come.A0 K w0 l0 A0 c0 l1 A1 c1 hR0 hL0 hR1 hL1 hc1) (B := punctualsame_Same_api_Come.B0 K w0 l0 A0 c0 l1 A1 c1 hR0 hL0 hR1 hL1 hc1) hq1 (fun a hF => ⟨hS, hF.weaken ⟨by kernel_rfl, by kernel_rfl, by kernel_rfl, by kernel_rfl, trivial⟩⟩) (fun s o hf a w hA Q hQ => punctualsame_Same_api_Come_r0 K w0 l0 A0 c0 l1 A1 c1 hR0 hL0 hR1 hL1 hc1 s o hf a w hA Q hQ) ?_
      rintro _ a w1 _ ⟨rfl, hb⟩
      obtain rfl := Option.some.inj h
      exact hb
  · rw [if_neg hc1] at h
    refine we_known (t := 10) (b := ((l0.length : Int) != (l1.length : Int))) (v := true) (by kernel_rfl) (bne_iff_ne.2 hc1) ?_
    refine we_true (by kernel_rfl) ?_
    refine we_seq fun K13 hK13 => ?_
    refine we_region [(0, 0)] rfl ?_
    refine ge_batch [0] (ans := []) (vs := [(4, .bool false)]) (l := []) (by kernel_rfl) trivial ?_
    refine ge_nil fun a hF => hK13 _ _ ?_ a hF
    obtain rfl := Option.some.inj h
    exact we_ret (post_ret (rs := [.tmp 4]) (ans := []) (vs := [.bool false]) (l := []) rfl (by kernel_rfl) trivial ⟨rfl, hS⟩)

/-! punctual/punctuallaw.few -/
abbrev few.Post (w0 : World) (r : Bool) (e : Ending) (w : World) : Prop := e = .returned (.bool r) ∧ St w0 w []
def few.f (x0 : Int) : Bool :=
  decide (x0 ≤ 5000)
theorem few_ok (x0 : Int) (w0 : World) (r : Bool) (h : few.f x0 = r) :
    Calls Tryd.prog 13 #[.int .i64 x0] w0 (few.Post w0 r) := by
  have hS := St.start w0
  unfold few.f at h
  refine calls_enter (n := 5) (args := [.int .i64 x0]) (fn := Tryd.f13) rfl rfl rfl rfl ?_
  show WE _ _ _ _ [(0, .int .i64 x0)] _
  refine we_seq fun K1 hK1 => ?_
  refine we_region [(0, 0)] rfl ?_
  refine ge_batch [0] (ans := []) (vs := [(2, .bool false)]) (l := []) (by kernel_rfl) trivial ?_
  refine ge_nil fun a hF => hK1 _ _ ?_ a hF
  refine we_seq fun K2 hK2 => ?_
  refine we_region [(0, 0), (1, 0), (2, 0)] rfl ?_
  refine ge_batch [0, 1, 2] (ans := []) (vs := [(2, .bool (decide (x0 ≤ 5000))), (4, .bool (decide (x0 ≤ 5000))), (3, .int .i64 x0)]) (l := []) (by kernel_rfl) trivial ?_
  refine ge_nil fun a hF => hK2 _ _ ?_ a hF
  subst h
  exact we_ret (post_ret (rs := [.tmp 2]) (ans := []) (vs := [.bool (decide (x0 ≤ 5000))]) (l := []) rfl (by kernel_rfl) trivial ⟨rfl, hS⟩)
end Go.Proofs.YtlipdmblinjjaaaDoor.GV
