/- Walks of single functions, written by a program of this work. -/
import Derived.Test.YtlipdmblinjjaaaGWFixedBest2
namespace Go.Proofs.Ytlipdmblinjjaaa.GV
open Go Go.RowKit
set_option linter.unusedVariables false
set_option linter.unusedSimpArgs false
set_option maxRecDepth 100000

/-! slices.symMergeCmpFunc[int] -/
abbrev slices_symMergeCmpFunc_int.Post (w0 : World) (l0 : List Int) (A0 : Option Addr) (c0 : Nat) (x1 : Int) (x2 : Int) (x3 : Int) (bg4_0 : Nat) (bg4_1 : Nat) (lg4_1 : List STask) (Ag4_1 : Option Addr) (cg4_1 : Nat) (LT : List Own) (r : List Int) (e : Ending) (w : World) : Prop := e = .returned (.tuple #[]) ∧ l0.length = r.length ∧ St w0 w [Own.of (.slice A0 r.length c0) 3 r, Own.blk bg4_0 (.cells #[.func (.func 37) #[] #[]] 74 (0, 0)), Own.blk bg4_1 (.cells #[.slice Ag4_1 lg4_1.length cg4_1] 22 (0, 0)), Own.all LT]
def slices_symMergeCmpFunc_int.r0 (l0 : List Int) (x1 : Int) (lg4_1 : List STask) : Int × Int → Option ((Int × Int) ⊕ (Int ⊕ (List Int)))
  | (z1, z2) =>
    if z1 < z2 then
      if 0 ≤ (IntKind.i64.wrap (Int.fdiv (IntKind.u64.wrap (IntKind.i64.wrap (z1 + z2))) (2 ^ 1))) then
        match l0[(IntKind.i64.wrap (Int.fdiv (IntKind.u64.wrap (IntKind.i64.wrap (z1 + z2))) (2 ^ 1))).toNat]? with
        | none => none
        | some e1 =>
          if 0 ≤ x1 then
            match l0[(x1).toNat]? with
            | none => none
            | some e2 =>
              match fixed_ranked_1.f e1 e2 lg4_1 with
              | none => none
              | some r1 =>
                if r1 < 0 then
                  some (.inl (IntKind.i64.wrap ((IntKind.i64.wrap (Int.fdiv (IntKind.u64.wrap (IntKind.i64.wrap (z1 + z2))) (2 ^ 1))) + 1), z2))
                else
                  some (.inl (z1, IntKind.i64.wrap (Int.fdiv (IntKind.u64.wrap (IntKind.i64.wrap (z1 + z2))) (2 ^ 1))))
          else
            none
      else
        none
    else
      some (.inr (.inl z1))
def slices_symMergeCmpFunc_int.r1 (z4 : Int) : Int × (List Int) → Option ((Int × (List Int)) ⊕ ((List Int) ⊕ (List Int)))
  | (z5, m1) =>
    if z5 < (IntKind.i64.wrap (z4 - 1)) then
      if 0 ≤ (IntKind.i64.wrap (z5 + 1)) then
        match m1[(IntKind.i64.wrap (z5 + 1)).toNat]? with
        | none => none
        | some e3 =>
          if 0 ≤ z5 then
            match m1[(z5).toNat]? with
            | none => none
            | some e4 =>
              match (m1.set ((z5).toNat) e3)[(IntKind.i64.wrap (z5 + 1)).toNat]? with
              | none => none
              | some e5 =>
                some (.inl (IntKind.i64.wrap (z5 + 1), ((m1.set ((z5).toNat) e3).set ((IntKind.i64.wrap (z5 + 1)).toNat) e4)))
          else
            none
      else
        none
    else
      some (.inr (.inl m1))
def slices_symMergeCmpFunc_int.r2 (l0 : List Int) (x2 : Int) (lg4_1 : List STask) : Int × Int → Option ((Int × Int) ⊕ (Int ⊕ (List Int)))
  | (z6, z7) =>
    if z6 < z7 then
      if 0 ≤ x2 then
        match l0[(x2).toNat]? with
        | none => none
        | some e6 =>
          if 0 ≤ (IntKind.i64.wrap (Int.fdiv (IntKind.u64.wrap (IntKind.i64.wrap (z6 + z7))) (2 ^ 1))) then
            match l0[(IntKind.i64.wrap (Int.fdiv (IntKind.u64.wrap (IntKind.i64.wrap (z6 + z7))) (2 ^ 1))).toNat]? with
            | none => none
            | some e7 =>
              match fixed_ranked_1.f e6 e7 lg4_1 with
              | none => none
              | some r2 =>
                if r2 < 0 then
                  some (.inl (z6, IntKind.i64.wrap (Int.fdiv (IntKind.u64.wrap (IntKind.i64.wrap (z6 + z7))) (2 ^ 1))))
                else
                  some (.inl (IntKind.i64.wrap ((IntKind.i64.wrap (Int.fdiv (IntKind.u64.wrap (IntKind.i64.wrap (z6 + z7))) (2 ^ 1))) + 1), z7))
          else
            none
      else
        none
    else
      some (.inr (.inl z6))
def slices_symMergeCmpFunc_int.r3 (z9 : Int) : Int × (List Int) → Option ((Int × (List Int)) ⊕ ((List Int) ⊕ (List Int)))
  | (z10, m4) =>
    if z10 > z9 then
      if 0 ≤ (IntKind.i64.wrap (z10 - 1)) then
        match m4[(IntKind.i64.wrap (z10 - 1)).toNat]? with
        | none => none
        | some e8 =>
          if 0 ≤ z10 then
            match m4[(z10).toNat]? with
            | none => none
            | some e9 =>
              match (m4.set ((z10).toNat) e8)[(IntKind.i64.wrap (z10 - 1)).toNat]? with
              | none => none
              | some e10 =>
                some (.inl (IntKind.i64.wrap (z10 - 1), ((m4.set ((z10).toNat) e8).set ((IntKind.i64.wrap (z10 - 1)).toNat) e9)))
          else
            none
      else
        none
    else
      some (.inr (.inl m4))
def slices_symMergeCmpFunc_int.p4 (x1 : Int) (x2 : Int) (x3 : Int) : Option ((Int × Int) ⊕ (List Int)) :=
    if x2 > (IntKind.i64.wrap (Int.fdiv (IntKind.u64.wrap (IntKind.i64.wrap (x1 + x3))) (2 ^ 1))) then
      some (.inl (IntKind.i64.wrap ((IntKind.i64.wrap ((IntKind.i64.wrap (Int.fdiv (IntKind.u64.wrap (IntKind.i64.wrap (x1 + x3))) (2 ^ 1))) + x2)) - x3), IntKind.i64.wrap (Int.fdiv (IntKind.u64.wrap (IntKind.i64.wrap (x1 + x3))) (2 ^ 1))))
    else
      some (.inl (x1, x2))
def slices_symMergeCmpFunc_int.r5 (l0 : List Int) (x1 : Int) (x2 : Int) (x3 : Int) (lg4_1 : List STask) : Int × Int → Option ((Int × Int) ⊕ (Int ⊕ (List Int)))
  | (z15, z16) =>
    if z15 < z16 then
      if 0 ≤ (IntKind.i64.wrap ((IntKind.i64.wrap ((IntKind.i64.wrap ((IntKind.i64.wrap (Int.fdiv (IntKind.u64.wrap (IntKind.i64.wrap (x1 + x3))) (2 ^ 1))) + x2)) - 1)) - (IntKind.i64.wrap (Int.fdiv (IntKind.u64.wrap (IntKind.i64.wrap (z15 + z16))) (2 ^ 1))))) then
        match l0[(IntKind.i64.wrap ((IntKind.i64.wrap ((IntKind.i64.wrap ((IntKind.i64.wrap (Int.fdiv (IntKind.u64.wrap (IntKind.i64.wrap (x1 + x3))) (2 ^ 1))) + x2)) - 1)) - (IntKind.i64.wrap (Int.fdiv (IntKind.u64.wrap (IntKind.i64.wrap (z15 + z16))) (2 ^ 1))))).toNat]? with
        | none => none
        | some e11 =>
          if 0 ≤ (IntKind.i64.wrap (Int.fdiv (IntKind.u64.wrap (IntKind.i64.wrap (z15 + z16))) (2 ^ 1))) then
            match l0[(IntKind.i64.wrap (Int.fdiv (IntKind.u64.wrap (IntKind.i64.wrap (z15 + z16))) (2 ^ 1))).toNat]? with
            | none => none
            | some e12 =>
              match fixed_ranked_1.f e11 e12 lg4_1 with
              | none => none
              | some r3 =>
                if r3 < 0 then
                  some (.inl (z15, IntKind.i64.wrap (Int.fdiv (IntKind.u64.wrap (IntKind.i64.wrap (z15 + z16))) (2 ^ 1))))
                else
                  some (.inl (IntKind.i64.wrap ((IntKind.i64.wrap (Int.fdiv (IntKind.u64.wrap (IntKind.i64.wrap (z15 + z16))) (2 ^ 1))) + 1), z16))
          else
            none
      else
        none
    else
      some (.inr (.inl z15))
def slices_symMergeCmpFunc_int.p6 (K : Nat) (l0 : List Int) (x1 : Int) (x2 : Int) (x3 : Int) (lg4_1 : List STask) (z18 : Int) : Option ((List Int) ⊕ (List Int)) :=
    if z18 < x2 then
      if x2 < (IntKind.i64.wrap ((IntKind.i64.wrap ((IntKind.i64.wrap (Int.fdiv (IntKind.u64.wrap (IntKind.i64.wrap (x1 + x3))) (2 ^ 1))) + x2)) - z18)) then
        match slices_rotateCmpFunc_int.f K l0 z18 x2 (IntKind.i64.wrap ((IntKind.i64.wrap ((IntKind.i64.wrap (Int.fdiv (IntKind.u64.wrap (IntKind.i64.wrap (x1 + x3))) (2 ^ 1))) + x2)) - z18)) lg4_1 with
        | none => none
        | some r4 =>
          some (.inl r4)
      else
        some (.inl l0)
    else
      some (.inl l0)
def slices_symMergeCmpFunc_int.b (K : Nat) (recf : (List Int) → Int → Int → Int → (List STask) → Option (List Int)) (l0 : List Int) (x1 : Int) (x2 : Int) (x3 : Int) (lg4_1 : List STask) : Option (List Int) :=
  if (IntKind.i64.wrap (x2 - x1)) = 1 then
    match iter (slices_symMergeCmpFunc_int.r0 l0 x1 lg4_1) K (x2, x3) with
    | none => none
    | some (.inl z4) =>
      match iter (slices_symMergeCmpFunc_int.r1 z4) K (x1, l0) with
      | none => none
      | some (.inl m3) =>
        some m3
      | some (.inr rr1) =>
        some rr1
    | some (.inr rr2) =>
      some rr2
  else
    if (IntKind.i64.wrap (x3 - x2)) = 1 then
      match iter (slices_symMergeCmpFunc_int.r2 l0 x2 lg4_1) K (x1, x2) with
      | none => none
      | some (.inl z9) =>
        match iter (slices_symMergeCmpFunc_int.r3 z9) K (x2, l0) with
        | none => none
        | some (.inl m6) =>
          some m6
        | some (.inr rr3) =>
          some rr3
      | some (.inr rr4) =>
        some rr4
    else
      match slices_symMergeCmpFunc_int.p4 x1 x2 x3 with
      | none => none
      | some (.inl (z13, z14)) =>
        match iter (slices_symMergeCmpFunc_int.r5 l0 x1 x2 x3 lg4_1) K (z13, z14) with
        | none => none
        | some (.inl z18) =>
          match slices_symMergeCmpFunc_int.p6 K l0 x1 x2 x3 lg4_1 z18 with
          | none => none
          | some (.inl m8) =>
            if x1 < z18 then
              if z18 < (IntKind.i64.wrap (Int.fdiv (IntKind.u64.wrap (IntKind.i64.wrap (x1 + x3))) (2 ^ 1))) then
                match recf m8 x1 z18 (IntKind.i64.wrap (Int.fdiv (IntKind.u64.wrap (IntKind.i64.wrap (x1 + x3))) (2 ^ 1))) lg4_1 with
                | none => none
                | some r5 =>
                  if (IntKind.i64.wrap (Int.fdiv (IntKind.u64.wrap (IntKind.i64.wrap (x1 + x3))) (2 ^ 1))) < (IntKind.i64.wrap ((IntKind.i64.wrap ((IntKind.i64.wrap (Int.fdiv (IntKind.u64.wrap (IntKind.i64.wrap (x1 + x3))) (2 ^ 1))) + x2)) - z18)) then
                    if (IntKind.i64.wrap ((IntKind.i64.wrap ((IntKind.i64.wrap (Int.fdiv (IntKind.u64.wrap (IntKind.i64.wrap (x1 + x3))) (2 ^ 1))) + x2)) - z18)) < x3 then
                      match recf r5 (IntKind.i64.wrap (Int.fdiv (IntKind.u64.wrap (IntKind.i64.wrap (x1 + x3))) (2 ^ 1))) (IntKind.i64.wrap ((IntKind.i64.wrap ((IntKind.i64.wrap (Int.fdiv (IntKind.u64.wrap (IntKind.i64.wrap (x1 + x3))) (2 ^ 1))) + x2)) - z18)) x3 lg4_1 with
                      | none => none
                      | some r6 =>
                        some r6
                    else
                      some r5
                  else
                    some r5
              else
                if (IntKind.i64.wrap (Int.fdiv (IntKind.u64.wrap (IntKind.i64.wrap (x1 + x3))) (2 ^ 1))) < (IntKind.i64.wrap ((IntKind.i64.wrap ((IntKind.i64.wrap (Int.fdiv (IntKind.u64.wrap (IntKind.i64.wrap (x1 + x3))) (2 ^ 1))) + x2)) - z18)) then
                  if (IntKind.i64.wrap ((IntKind.i64.wrap ((IntKind.i64.wrap (Int.fdiv (IntKind.u64.wrap (IntKind.i64.wrap (x1 + x3))) (2 ^ 1))) + x2)) - z18)) < x3 then
                    match recf m8 (IntKind.i64.wrap (Int.fdiv (IntKind.u64.wrap (IntKind.i64.wrap (x1 + x3))) (2 ^ 1))) (IntKind.i64.wrap ((IntKind.i64.wrap ((IntKind.i64.wrap (Int.fdiv (IntKind.u64.wrap (IntKind.i64.wrap (x1 + x3))) (2 ^ 1))) + x2)) - z18)) x3 lg4_1 with
                    | none => none
                    | some r7 =>
                      some r7
                  else
                    some m8
                else
                  some m8
            else
              if (IntKind.i64.wrap (Int.fdiv (IntKind.u64.wrap (IntKind.i64.wrap (x1 + x3))) (2 ^ 1))) < (IntKind.i64.wrap ((IntKind.i64.wrap ((IntKind.i64.wrap (Int.fdiv (IntKind.u64.wrap (IntKind.i64.wrap (x1 + x3))) (2 ^ 1))) + x2)) - z18)) then
                if (IntKind.i64.wrap ((IntKind.i64.wrap ((IntKind.i64.wrap (Int.fdiv (IntKind.u64.wrap (IntKind.i64.wrap (x1 + x3))) (2 ^ 1))) + x2)) - z18)) < x3 then
                  match recf m8 (IntKind.i64.wrap (Int.fdiv (IntKind.u64.wrap (IntKind.i64.wrap (x1 + x3))) (2 ^ 1))) (IntKind.i64.wrap ((IntKind.i64.wrap ((IntKind.i64.wrap (Int.fdiv (IntKind.u64.wrap (IntKind.i64.wrap (x1 + x3))) (2 ^ 1))) + x2)) - z18)) x3 lg4_1 with
                  | none => none
                  | some r8 =>
                    some r8
                else
                  some m8
              else
                some m8
          | some (.inr rr5) =>
            some rr5
        | some (.inr rr6) =>
          some rr6
      | some (.inr rr7) =>
        some rr7
abbrev slices_symMergeCmpFunc_int.A0 (K : Nat) (w0 : World) (l0 : List Int) (A0 : Option Addr) (c0 : Nat) (x1 : Int) (x2 : Int) (x3 : Int) (bg4_0 : Nat) (bg4_1 : Nat) (lg4_1 : List STask) (Ag4_1 : Option Addr) (cg4_1 : Nat) (LT : List Own) (hRg4_1 : RdL w0 Ag4_1 lg4_1) (hLg4_1 : lg4_1.length ≤ cg4_1) (recf : (List Int) → Int → Int → Int → (List STask) → Option (List Int)) (hrec : ∀ (l0 : List Int) (A0 : Option Addr) (c0 : Nat) (x1 : Int) (x2 : Int) (x3 : Int) (bg4_0 : Nat) (bg4_1 : Nat) (lg4_1 : List STask) (Ag4_1 : Option Addr) (cg4_1 : Nat) (w0 wE : World) (LT : List Own) (hS : St w0 wE [Own.of (.slice A0 l0.length c0) 3 l0, Own.blk bg4_0 (.cells #[.func (.func 37) #[] #[]] 74 (0, 0)), Own.blk bg4_1 (.cells #[.slice Ag4_1 lg4_1.length cg4_1] 22 (0, 0)), Own.all LT]) (hRg4_1 : RdL w0 Ag4_1 lg4_1) (hLg4_1 : lg4_1.length ≤ cg4_1) (r : List Int) (h : recf l0 x1 x2 x3 lg4_1 = some r), Calls Try.prog 79 #[(.slice A0 l0.length c0), .int .i64 x1, .int .i64 x2, .int .i64 x3, .func (.func 59) #[] #[.pointer (some ⟨bg4_0, 0, none⟩), .pointer (some ⟨bg4_1, 0, none⟩)]] wE (slices_symMergeCmpFunc_int.Post w0 l0 A0 c0 x1 x2 x3 bg4_0 bg4_1 lg4_1 Ag4_1 cg4_1 LT r)) (hc1 : (IntKind.i64.wrap (x2 - x1)) = 1) : (Int × Int) → Act → World → Prop := fun (s : Int × Int) a w => St w0 w [Own.blk bg4_0 (.cells #[.func (.func 37) #[] #[]] 74 (0, 0)), Own.blk bg4_1 (.cells #[.slice Ag4_1 lg4_1.length cg4_1] 22 (0, 0)), Own.of (.slice A0 l0.length c0) 3 l0, Own.all LT] ∧ Frm 220 a [(0, (.slice A0 l0.length c0)), (1, .int .i64 x1), (4, .func (.func 59) #[] #[.pointer (some ⟨bg4_0, 0, none⟩), .pointer (some ⟨bg4_1, 0, none⟩)]), (10, .int .i64 s.1), (11, .int .i64 s.2)]
abbrev slices_symMergeCmpFunc_int.B0 (K : Nat) (w0 : World) (l0 : List Int) (A0 : Option Addr) (c0 : Nat) (x1 : Int) (x2 : Int) (x3 : Int) (bg4_0 : Nat) (bg4_1 : Nat) (lg4_1 : List STask) (Ag4_1 : Option Addr) (cg4_1 : Nat) (LT : List Own) (hRg4_1 : RdL w0 Ag4_1 lg4_1) (hLg4_1 : lg4_1.length ≤ cg4_1) (recf : (List Int) → Int → Int → Int → (List STask) → Option (List Int)) (hrec : ∀ (l0 : List Int) (A0 : Option Addr) (c0 : Nat) (x1 : Int) (x2 : Int) (x3 : Int) (bg4_0 : Nat) (bg4_1 : Nat) (lg4_1 : List STask) (Ag4_1 : Option Addr) (cg4_1 : Nat) (w0 wE : World) (LT : List Own) (hS : St w0 wE [Own.of (.slice A0 l0.length c0) 3 l0, Own.blk bg4_0 (.cells #[.func (.func 37) #[] #[]] 74 (0, 0)), Own.blk bg4_1 (.cells #[.slice Ag4_1 lg4_1.length cg4_1] 22 (0, 0)), Own.all LT]) (hRg4_1 : RdL w0 Ag4_1 lg4_1) (hLg4_1 : lg4_1.length ≤ cg4_1) (r : List Int) (h : recf l0 x1 x2 x3 lg4_1 = some r), Calls Try.prog 79 #[(.slice A0 l0.length c0), .int .i64 x1, .int .i64 x2, .int .i64 x3, .func (.func 59) #[] #[.pointer (some ⟨bg4_0, 0, none⟩), .pointer (some ⟨bg4_1, 0, none⟩)]] wE (slices_symMergeCmpFunc_int.Post w0 l0 A0 c0 x1 x2 x3 bg4_0 bg4_1 lg4_1 Ag4_1 cg4_1 LT r)) (hc1 : (IntKind.i64.wrap (x2 - x1)) = 1) : (Int ⊕ (List Int)) → Exit → Act → World → Prop := Exits 0 (fun (s : Int) a w => St w0 w [Own.blk bg4_0 (.cells #[.func (.func 37) #[] #[]] 74 (0, 0)), Own.blk bg4_1 (.cells #[.slice Ag4_1 lg4_1.length cg4_1] 22 (0, 0)), Own.of (.slice A0 l0.length c0) 3 l0, Own.all LT] ∧ Frm 220 a [(0, (.slice A0 l0.length c0)), (1, .int .i64 x1), (4, .func (.func 59) #[] #[.pointer (some ⟨bg4_0, 0, none⟩), .pointer (some ⟨bg4_1, 0, none⟩)]), (10, .int .i64 s)]) (Rets Try.prog Try.f79 (slices_symMergeCmpFunc_int.Post w0 l0 A0 c0 x1 x2 x3 bg4_0 bg4_1 lg4_1 Ag4_1 cg4_1 LT))
theorem slices_symMergeCmpFunc_int_r0 (K : Nat) (w0 : World) (l0 : List Int) (A0 : Option Addr) (c0 : Nat) (x1 : Int) (x2 : Int) (x3 : Int) (bg4_0 : Nat) (bg4_1 : Nat) (lg4_1 : List STask) (Ag4_1 : Option Addr) (cg4_1 : Nat) (LT : List Own) (hRg4_1 : RdL w0 Ag4_1 lg4_1) (hLg4_1 : lg4_1.length ≤ cg4_1) (recf : (List Int) → Int → Int → Int → (List STask) → Option (List Int)) (hrec : ∀ (l0 : List Int) (A0 : Option Addr) (c0 : Nat) (x1 : Int) (x2 : Int) (x3 : Int) (bg4_0 : Nat) (bg4_1 : Nat) (lg4_1 : List STask) (Ag4_1 : Option Addr) (cg4_1 : Nat) (w0 wE : World) (LT : List Own) (hS : St w0 wE [Own.of (.slice A0 l0.length c0) 3 l0, Own.blk bg4_0 (.cells #[.func (.func 37) #[] #[]] 74 (0, 0)), Own.blk bg4_1 (.cells #[.slice Ag4_1 lg4_1.length cg4_1] 22 (0, 0)), Own.all LT]) (hRg4_1 : RdL w0 Ag4_1 lg4_1) (hLg4_1 : lg4_1.length ≤ cg4_1) (r : List Int) (h : recf l0 x1 x2 x3 lg4_1 = some r), Calls Try.prog 79 #[(.slice A0 l0.length c0), .int .i64 x1, .int .i64 x2, .int .i64 x3, .func (.func 59) #[] #[.pointer (some ⟨bg4_0, 0, none⟩), .pointer (some ⟨bg4_1, 0, none⟩)]] wE (slices_symMergeCmpFunc_int.Post w0 l0 A0 c0 x1 x2 x3 bg4_0 bg4_1 lg4_1 Ag4_1 cg4_1 LT r)) (hc1 : (IntKind.i64.wrap (x2 - x1)) = 1) (s : Int × Int) (o : (Int × Int) ⊕ (Int ⊕ (List Int))) (h : slices_symMergeCmpFunc_int.r0 l0 x1 lg4_1 s = some o) (a : Act) (w : World) (hA : slices_symMergeCmpFunc_int.A0 K w0 l0 A0 c0 x1 x2 x3 bg4_0 bg4_1 lg4_1 Ag4_1 cg4_1 LT hRg4_1 hLg4_1 recf hrec hc1 s a w) (Q : Exit → Act → World → Prop) (hQ : ∀ x a w, Outs (slices_symMergeCmpFunc_int.A0 K w0 l0 A0 c0 x1 x2 x3 bg4_0 bg4_1 lg4_1 Ag4_1 cg4_1 LT hRg4_1 hLg4_1 recf hrec hc1) (slices_symMergeCmpFunc_int.B0 K w0 l0 A0 c0 x1 x2 x3 bg4_0 bg4_1 lg4_1 Ag4_1 cg4_1 LT hRg4_1 hLg4_1 recf hrec hc1) o x a w → Q x a w) : (subF Try.f79 [0, 1, 0, 1, 1, 0, 0, 0]).wp Try.prog Q a w := by
  obtain ⟨z1, z2⟩ := s
  obtain ⟨hS, hF⟩ := hA
  replace hS : St w0 w [Own.blk bg4_0 (.cells #[.func (.func 37) #[] #[]] 74 (0, 0)), Own.blk bg4_1 (.cells #[.slice Ag4_1 lg4_1.length cg4_1] 22 (0, 0)), Own.of (.slice A0 l0.length c0) 3 l0, Own.all LT] := hS
  simp only [slices_symMergeCmpFunc_int.r0] at h
  refine (?_ : WE Try.prog 220 (subF Try.f79 [0, 1, 0, 1, 1, 0, 0, 0]) Q [(0, (.slice A0 l0.length c0)), (1, .int .i64 x1), (4, .func (.func 59) #[] #[.pointer (some ⟨bg4_0, 0, none⟩), .pointer (some ⟨bg4_1, 0, none⟩)]), (10, .int .i64 z1), (11, .int .i64 z2)] w) a hF
  clear hF a
  refine we_seq fun K6 hK6 => ?_
  refine we_seq fun K7 hK7 => ?_
  refine we_region [(0, 0), (1, 0), (2, 0)] rfl ?_
  refine ge_batch [0, 1, 2] (ans := []) (vs := [(33, .bool (decide (z1 < z2))), (32, .int .i64 z2), (31, .int .i64 z1)]) (l := []) (by kernel_rfl) trivial ?_
  refine ge_nil fun a hF => hK7 _ _ ?_ a hF
  by_cases hc2 : z1 < z2
  · rw [if_pos hc2] at h
    refine we_known (t := 33) (b := decide (z1 < z2)) (v := true) (by kernel_rfl) (decide_eq_true hc2) ?_
    refine we_true (by kernel_rfl) ?_
    refine we_skip fun a hF => hK6 _ _ ?_ a hF
    refine we_block ?_
    refine we_seq fun K8 hK8 => ?_
    refine we_region [(0, 0), (1, 0), (2, 0), (3, 0), (4, 0), (5, 0), (6, 0)] rfl ?_
    refine ge_batch [0, 1, 2, 3, 4, 5, 6] (ans := []) (vs := [(12, .int .i64 (IntKind.i64.wrap (Int.fdiv (IntKind.u64.wrap (IntKind.i64.wrap (z1 + z2))) (2 ^ 1)))), (39, .int .i64 (IntKind.i64.wrap (Int.fdiv (IntKind.u64.wrap (IntKind.i64.wrap (z1 + z2))) (2 ^ 1)))), (38, .int .u64 (Int.fdiv (IntKind.u64.wrap (IntKind.i64.wrap (z1 + z2))) (2 ^ 1))), (37, .int .u64 (IntKind.u64.wrap (IntKind.i64.wrap (z1 + z2)))), (36, .int .i64 (IntKind.i64.wrap (z1 + z2))), (35, .int .i64 z2), (34, .int .i64 z1)]) (l := []) (by kernel_rfl) trivial ?_
    refine ge_nil fun a hF => hK8 _ _ ?_ a hF
    refine we_seq fun K9 hK9 => ?_
    refine we_draws (by kernel_rfl) [(0, 0), (1, 0), (2, 0), (3, 0), (4, 0), (5, 0), (6, 0), (7, 0), (8, 0), (9, 1), (10, 0)] (by kernel_rfl) ?_
    have hS5 := hS.drew
    refine ge_batch [0, 1, 2] (ans := []) (vs := [(42, .int .i64 (IntKind.i64.wrap (Int.fdiv (IntKind.u64.wrap (IntKind.i64.wrap (z1 + z2))) (2 ^ 1)))), (41, (.slice A0 l0.length c0)), (40, .func (.func 59) #[] #[.pointer (some ⟨bg4_0, 0, none⟩), .pointer (some ⟨bg4_1, 0, none⟩)])]) (l := []) (by kernel_rfl) trivial ?_
    by_cases hc3 : 0 ≤ (IntKind.i64.wrap (Int.fdiv (IntKind.u64.wrap (IntKind.i64.wrap (z1 + z2))) (2 ^ 1)))
    · rw [if_pos hc3] at h
      rcases hx1 : l0[(IntKind.i64.wrap (Int.fdiv (IntKind.u64.wrap (IntKind.i64.wrap (z1 + z2))) (2 ^ 1))).toNat]? with _ | e1
      · rw [hx1] at h; cases h
      rw [hx1] at h
      simp only [] at h
      refine ge_index (d := 43) (ty := 0) (t := 24) (el := 3) (sz := 1) (m := l0.length) (c := c0) (x := (.tmp 41)) (y := (.tmp 42)) (A := A0) (k' := .i64) (j := (IntKind.i64.wrap (Int.fdiv (IntKind.u64.wrap (IntKind.i64.wrap (z1 + z2))) (2 ^ 1)))) (jn := ((IntKind.i64.wrap (Int.fdiv (IntKind.u64.wrap (IntKind.i64.wrap (z1 + z2))) (2 ^ 1))).toNat)) (b0 := blkOf A0) (o0 := offOf A0) (by kernel_rfl) (by kernel_rfl) (by kernel_rfl) (by kernel_rfl) (by kernel_rfl) ((hS5.rdAt 2 rfl).eqSome (pos_of_get hx1)) (Int.toNat_of_nonneg hc3).symm (lt_of_get hx1) ?_
      refine ge_batch [4, 5, 6] (ans := [.val (.int .i64 e1)]) (vs := [(46, .int .i64 x1), (45, (.slice A0 l0.length c0)), (44, .int .i64 e1)]) (l := [.loaded ⟨blkOf A0, offOf A0 + ((IntKind.i64.wrap (Int.fdiv (IntKind.u64.wrap (IntKind.i64.wrap (z1 + z2))) (2 ^ 1))).toNat) * 1, none⟩ (.int .i64 e1)]) (by kernel_rfl) ⟨RdL.cell (j := 0) (hS5.rdAt 2 rfl) hx1 rfl, trivial⟩ ?_
      by_cases hc4 : 0 ≤ x1
      · rw [if_pos hc4] at h
        rcases hx2 : l0[(x1).toNat]? with _ | e2
        · rw [hx2] at h; cases h
        rw [hx2] at h
        simp only [] at h
        refine ge_index (d := 47) (ty := 0) (t := 24) (el := 3) (sz := 1) (m := l0.length) (c := c0) (x := (.tmp 45)) (y := (.tmp 46)) (A := A0) (k' := .i64) (j := x1) (jn := ((x1).toNat)) (b0 := blkOf A0) (o0 := offOf A0) (by kernel_rfl) (by kernel_rfl) (by kernel_rfl) (by kernel_rfl) (by kernel_rfl) ((hS5.rdAt 2 rfl).eqSome (pos_of_get hx2)) (Int.toNat_of_nonneg hc4).symm (lt_of_get hx2) ?_
        rcases hq1 : fixed_ranked_1.f e1 e2 lg4_1 with _ | r1
        · rw [hq1] at h; cases h
        rw [hq1] at h
        simp only [] at h
        refine ge_batch [8] (ans := [.val (.int .i64 e2)]) (vs := [(48, .int .i64 e2)]) (l := [.loaded ⟨blkOf A0, offOf A0 + ((x1).toNat) * 1, none⟩ (.int .i64 e2)]) (by kernel_rfl) ⟨RdL.cell (j := 0) (hS5.rdAt 2 rfl) hx2 rfl, trivial⟩ ?_
        refine ge_call (d := some 49) (f := 59) (args := #[.int .i64 e1, .int .i64 e2, .pointer (some ⟨bg4_0, 0, none⟩), .pointer (some ⟨bg4_1, 0, none⟩)]) (by kernel_rfl) (fixed_ranked_1_ok e1 e2 bg4_0 bg4_1 lg4_1 Ag4_1 cg4_1 _ (hS5.globOf 0 rfl) (hS5.rd hRg4_1) hLg4_1 (hS5.globOf 1 rfl) _ hq1) ?_
        rintro _ w1 ⟨rfl, hS6⟩
        refine ⟨_, rfl, hS6.below, ?_⟩
        have hS7 := hS5.call hS6
        refine ge_batch [10] (ans := []) (vs := [(50, .bool (decide (r1 < 0)))]) (l := []) (by kernel_rfl) trivial ?_
        refine ge_nil fun a hF => hK9 _ _ ?_ a hF
        by_cases hc5 : r1 < 0
        · rw [if_pos hc5] at h
          refine we_known (t := 50) (b := decide (r1 < 0)) (v := true) (by kernel_rfl) (decide_eq_true hc5) ?_
          refine we_true (by kernel_rfl) ?_
          refine we_region [(0, 0), (1, 0), (2, 0)] rfl ?_
          refine ge_batch [0, 1, 2] (ans := []) (vs := [(10, .int .i64 (IntKind.i64.wrap ((IntKind.i64.wrap (Int.fdiv (IntKind.u64.wrap (IntKind.i64.wrap (z1 + z2))) (2 ^ 1))) + 1))), (52, .int .i64 (IntKind.i64.wrap ((IntKind.i64.wrap (Int.fdiv (IntKind.u64.wrap (IntKind.i64.wrap (z1 + z2))) (2 ^ 1))) + 1))), (51, .int .i64 (IntKind.i64.wrap (Int.fdiv (IntKind.u64.wrap (IntKind.i64.wrap (z1 + z2))) (2 ^ 1))))]) (l := []) (by kernel_rfl) trivial ?_
          have hS8 := hS7.bring 3 rfl
          have hS9 := hS8.bring 3 rfl
          have hS10 := hS9.bring 3 rfl
          have hS11 := hS10.bring 3 rfl
          obtain rfl := Option.some.inj h
          exact ge_nil fun a hF => hQ _ _ _ (Outs.again ⟨hS11, hF.weaken ⟨by kernel_rfl, by kernel_rfl, by kernel_rfl, by kernel_rfl, by kernel_rfl, trivial⟩⟩)
        · rw [if_neg hc5] at h
          refine we_known (t := 50) (b := decide (r1 < 0)) (v := false) (by kernel_rfl) (decide_eq_false hc5) ?_
          refine we_false (by kernel_rfl) ?_
          refine we_region [(0, 0), (1, 0)] rfl ?_
          refine ge_batch [0, 1] (ans := []) (vs := [(11, .int .i64 (IntKind.i64.wrap (Int.fdiv (IntKind.u64.wrap (IntKind.i64.wrap (z1 + z2))) (2 ^ 1)))), (53, .int .i64 (IntKind.i64.wrap (Int.fdiv (IntKind.u64.wrap (IntKind.i64.wrap (z1 + z2))) (2 ^ 1))))]) (l := []) (by kernel_rfl) trivial ?_
          have hS12 := hS7.bring 3 rfl
          have hS13 := hS12.bring 3 rfl
          have hS14 := hS13.bring 3 rfl
          have hS15 := hS14.bring 3 rfl
          obtain rfl := Option.some.inj h
          exact ge_nil fun a hF => hQ _ _ _ (Outs.again ⟨hS15, hF.weaken ⟨by kernel_rfl, by kernel_rfl, by kernel_rfl, by kernel_rfl, by kernel_rfl, trivial⟩⟩)
      · rw [if_neg hc4] at h
        cases h
    · rw [if_neg hc3] at h
      cases h
  · rw [if_neg hc2] at h
    refine we_known (t := 33) (b := decide (z1 < z2)) (v := false) (by kernel_rfl) (decide_eq_false hc2) ?_
    refine we_false (by kernel_rfl) ?_
    have hS16 := hS.bring 3 rfl
    have hS17 := hS16.bring 3 rfl
    have hS18 := hS17.bring 3 rfl
    have hS19 := hS18.bring 3 rfl
    obtain rfl := Option.some.inj h
    exact we_exit fun a hF => hQ _ _ _ (Outs.out nofun (Exits.here ⟨hS19, hF.weaken ⟨by kernel_rfl, by kernel_rfl, by kernel_rfl, by kernel_rfl, trivial⟩⟩))
abbrev slices_symMergeCmpFunc_int.A1 (K : Nat) (w0 : World) (l0 : List Int) (A0 : Option Addr) (c0 : Nat) (x1 : Int) (x2 : Int) (x3 : Int) (bg4_0 : Nat) (bg4_1 : Nat) (lg4_1 : List STask) (Ag4_1 : Option Addr) (cg4_1 : Nat) (LT : List Own) (hRg4_1 : RdL w0 Ag4_1 lg4_1) (hLg4_1 : lg4_1.length ≤ cg4_1) (recf : (List Int) → Int → Int → Int → (List STask) → Option (List Int)) (hrec : ∀ (l0 : List Int) (A0 : Option Addr) (c0 : Nat) (x1 : Int) (x2 : Int) (x3 : Int) (bg4_0 : Nat) (bg4_1 : Nat) (lg4_1 : List STask) (Ag4_1 : Option Addr) (cg4_1 : Nat) (w0 wE : World) (LT : List Own) (hS : St w0 wE [Own.of (.slice A0 l0.length c0) 3 l0, Own.blk bg4_0 (.cells #[.func (.func 37) #[] #[]] 74 (0, 0)), Own.blk bg4_1 (.cells #[.slice Ag4_1 lg4_1.length cg4_1] 22 (0, 0)), Own.all LT]) (hRg4_1 : RdL w0 Ag4_1 lg4_1) (hLg4_1 : lg4_1.length ≤ cg4_1) (r : List Int) (h : recf l0 x1 x2 x3 lg4_1 = some r), Calls Try.prog 79 #[(.slice A0 l0.length c0), .int .i64 x1, .int .i64 x2, .int .i64 x3, .func (.func 59) #[] #[.pointer (some ⟨bg4_0, 0, none⟩), .pointer (some ⟨bg4_1, 0, none⟩)]] wE (slices_symMergeCmpFunc_int.Post w0 l0 A0 c0 x1 x2 x3 bg4_0 bg4_1 lg4_1 Ag4_1 cg4_1 LT r)) (hc1 : (IntKind.i64.wrap (x2 - x1)) = 1) (z4 : Int) : (Int × (List Int)) → Act → World → Prop := fun (s : Int × (List Int)) a w => l0.length = s.2.length ∧ St w0 w [Own.blk bg4_0 (.cells #[.func (.func 37) #[] #[]] 74 (0, 0)), Own.blk bg4_1 (.cells #[.slice Ag4_1 lg4_1.length cg4_1] 22 (0, 0)), Own.of (.slice A0 s.2.length c0) 3 s.2, Own.all LT] ∧ Frm 220 a [(0, (.slice A0 s.2.length c0)), (4, .func (.func 59) #[] #[.pointer (some ⟨bg4_0, 0, none⟩), .pointer (some ⟨bg4_1, 0, none⟩)]), (10, .int .i64 z4), (13, .int .i64 s.1)]
abbrev slices_symMergeCmpFunc_int.B1 (K : Nat) (w0 : World) (l0 : List Int) (A0 : Option Addr) (c0 : Nat) (x1 : Int) (x2 : Int) (x3 : Int) (bg4_0 : Nat) (bg4_1 : Nat) (lg4_1 : List STask) (Ag4_1 : Option Addr) (cg4_1 : Nat) (LT : List Own) (hRg4_1 : RdL w0 Ag4_1 lg4_1) (hLg4_1 : lg4_1.length ≤ cg4_1) (recf : (List Int) → Int → Int → Int → (List STask) → Option (List Int)) (hrec : ∀ (l0 : List Int) (A0 : Option Addr) (c0 : Nat) (x1 : Int) (x2 : Int) (x3 : Int) (bg4_0 : Nat) (bg4_1 : Nat) (lg4_1 : List STask) (Ag4_1 : Option Addr) (cg4_1 : Nat) (w0 wE : World) (LT : List Own) (hS : St w0 wE [Own.of (.slice A0 l0.length c0) 3 l0, Own.blk bg4_0 (.cells #[.func (.func 37) #[] #[]] 74 (0, 0)), Own.blk bg4_1 (.cells #[.slice Ag4_1 lg4_1.length cg4_1] 22 (0, 0)), Own.all LT]) (hRg4_1 : RdL w0 Ag4_1 lg4_1) (hLg4_1 : lg4_1.length ≤ cg4_1) (r : List Int) (h : recf l0 x1 x2 x3 lg4_1 = some r), Calls Try.prog 79 #[(.slice A0 l0.length c0), .int .i64 x1, .int .i64 x2, .int .i64 x3, .func (.func 59) #[] #[.pointer (some ⟨bg4_0, 0, none⟩), .pointer (some ⟨bg4_1, 0, none⟩)]] wE (slices_symMergeCmpFunc_int.Post w0 l0 A0 c0 x1 x2 x3 bg4_0 bg4_1 lg4_1 Ag4_1 cg4_1 LT r)) (hc1 : (IntKind.i64.wrap (x2 - x1)) = 1) (z4 : Int) : ((List Int) ⊕ (List Int)) → Exit → Act → World → Prop := Exits 2 (fun (s : (List Int)) a w => l0.length = s.length ∧ St w0 w [Own.blk bg4_0 (.cells #[.func (.func 37) #[] #[]] 74 (0, 0)), Own.blk bg4_1 (.cells #[.slice Ag4_1 lg4_1.length cg4_1] 22 (0, 0)), Own.of (.slice A0 s.length c0) 3 s, Own.all LT] ∧ Frm 220 a [(0, (.slice A0 s.length c0)), (4, .func (.func 59) #[] #[.pointer (some ⟨bg4_0, 0, none⟩), .pointer (some ⟨bg4_1, 0, none⟩)])]) (Rets Try.prog Try.f79 (slices_symMergeCmpFunc_int.Post w0 l0 A0 c0 x1 x2 x3 bg4_0 bg4_1 lg4_1 Ag4_1 cg4_1 LT))
theorem slices_symMergeCmpFunc_int_r1 (K : Nat) (w0 : World) (l0 : List Int) (A0 : Option Addr) (c0 : Nat) (x1 : Int) (x2 : Int) (x3 : Int) (bg4_0 : Nat) (bg4_1 : Nat) (lg4_1 : List STask) (Ag4_1 : Option Addr) (cg4_1 : Nat) (LT : List Own) (hRg4_1 : RdL w0 Ag4_1 lg4_1) (hLg4_1 : lg4_1.length ≤ cg4_1) (recf : (List Int) → Int → Int → Int → (List STask) → Option (List Int)) (hrec : ∀ (l0 : List Int) (A0 : Option Addr) (c0 : Nat) (x1 : Int) (x2 : Int) (x3 : Int) (bg4_0 : Nat) (bg4_1 : Nat) (lg4_1 : List STask) (Ag4_1 : Option Addr) (cg4_1 : Nat) (w0 wE : World) (LT : List Own) (hS : St w0 wE [Own.of (.slice A0 l0.length c0) 3 l0, Own.blk bg4_0 (.cells #[.func (.func 37) #[] #[]] 74 (0, 0)), Own.blk bg4_1 (.cells #[.slice Ag4_1 lg4_1.length cg4_1] 22 (0, 0)), Own.all LT]) (hRg4_1 : RdL w0 Ag4_1 lg4_1) (hLg4_1 : lg4_1.length ≤ cg4_1) (r : List Int) (h : recf l0 x1 x2 x3 lg4_1 = some r), Calls Try.prog 79 #[(.slice A0 l0.length c0), .int .i64 x1, .int .i64 x2, .int .i64 x3, .func (.func 59) #[] #[.pointer (some ⟨bg4_0, 0, none⟩), .pointer (some ⟨bg4_1, 0, none⟩)]] wE (slices_symMergeCmpFunc_int.Post w0 l0 A0 c0 x1 x2 x3 bg4_0 bg4_1 lg4_1 Ag4_1 cg4_1 LT r)) (hc1 : (IntKind.i64.wrap (x2 - x1)) = 1) (z4 : Int) (s : Int × (List Int)) (o : (Int × (List Int)) ⊕ ((List Int) ⊕ (List Int))) (h : slices_symMergeCmpFunc_int.r1 z4 s = some o) (a : Act) (w : World) (hA : slices_symMergeCmpFunc_int.A1 K w0 l0 A0 c0 x1 x2 x3 bg4_0 bg4_1 lg4_1 Ag4_1 cg4_1 LT hRg4_1 hLg4_1 recf hrec hc1 z4 s a w) (Q : Exit → Act → World → Prop) (hQ : ∀ x a w, Outs (slices_symMergeCmpFunc_int.A1 K w0 l0 A0 c0 x1 x2 x3 bg4_0 bg4_1 lg4_1 Ag4_1 cg4_1 LT hRg4_1 hLg4_1 recf hrec hc1 z4) (slices_symMergeCmpFunc_int.B1 K w0 l0 A0 c0 x1 x2 x3 bg4_0 bg4_1 lg4_1 Ag4_1 cg4_1 LT hRg4_1 hLg4_1 recf hrec hc1 z4) o x a w → Q x a w) : (subF Try.f79 [0, 1, 0, 1, 1, 1, 0, 1, 0, 0]).wp Try.prog Q a w := by
  obtain ⟨z5, m1⟩ := s
  obtain ⟨hLio1, hS, hF⟩ := hA
  replace hS : St w0 w [Own.blk bg4_0 (.cells #[.func (.func 37) #[] #[]] 74 (0, 0)), Own.blk bg4_1 (.cells #[.slice Ag4_1 lg4_1.length cg4_1] 22 (0, 0)), Own.of (.slice A0 m1.length c0) 3 m1, Own.all LT] := hS
  simp only [slices_symMergeCmpFunc_int.r1] at h
  refine (?_ : WE Try.prog 220 (subF Try.f79 [0, 1, 0, 1, 1, 1, 0, 1, 0, 0]) Q [(0, (.slice A0 m1.length c0)), (4, .func (.func 59) #[] #[.pointer (some ⟨bg4_0, 0, none⟩), .pointer (some ⟨bg4_1, 0, none⟩)]), (10, .int .i64 z4), (13, .int .i64 z5)] w) a hF
  clear hF a
  refine we_seq fun K12 hK12 => ?_
  refine we_seq fun K13 hK13 => ?_
  refine we_region [(0, 0), (1, 0), (2, 0), (3, 0)] rfl ?_
  refine ge_batch [0, 1, 2, 3] (ans := []) (vs := [(58, .bool (decide (z5 < (IntKind.i64.wrap (z4 - 1))))), (57, .int .i64 (IntKind.i64.wrap (z4 - 1))), (56, .int .i64 z4), (55, .int .i64 z5)]) (l := []) (by kernel_rfl) trivial ?_
  refine ge_nil fun a hF => hK13 _ _ ?_ a hF
  by_cases hc6 : z5 < (IntKind.i64.wrap (z4 - 1))
  · rw [if_pos hc6] at h
    refine we_known (t := 58) (b := decide (z5 < (IntKind.i64.wrap (z4 - 1)))) (v := true) (by kernel_rfl) (decide_eq_true hc6) ?_
    refine we_true (by kernel_rfl) ?_
    refine we_skip fun a hF => hK12 _ _ ?_ a hF
    refine we_seq fun K14 hK14 => ?_
    refine we_block ?_
    refine we_orders2 (by kernel_rfl) [(9, [⟨blkOf A0, offOf A0 + ((IntKind.i64.wrap (z5 + 1)).toNat) * 1, none⟩]), (13, [⟨blkOf A0, offOf A0 + ((z5).toNat) * 1, none⟩])] (.vals [0] (.vals [1] (.vals [2] (.vals [3] (.vals [4] (.vals [5] (.vals [6] (.vals [7] (.vals [8] (.vals [9] (.vals [10] (.vals [11] (.vals [12] (.vals [13] (.vals [14] (.alt 15 2 (.vals [16] (.alt 17 2 .fin .nomore)) .nomore)))))))))))))))) (by kernel_rfl) ?_
    have hS25 := hS.drew
    refine go2_batch [0, 1, 2, 3, 4, 5, 6, 7] (ans := []) (vs := [(68, .int .i64 (IntKind.i64.wrap (z5 + 1))), (67, .int .i64 z5), (66, (.slice A0 m1.length c0)), (65, .int .i64 (IntKind.i64.wrap (z5 + 1))), (64, .int .i64 z5), (63, (.slice A0 m1.length c0)), (62, .int .i64 z5), (61, (.slice A0 m1.length c0))]) (l := []) (by kernel_rfl) trivial mem_nil ?_
    by_cases hc7 : 0 ≤ (IntKind.i64.wrap (z5 + 1))
    · rw [if_pos hc7] at h
      rcases hx3 : m1[(IntKind.i64.wrap (z5 + 1)).toNat]? with _ | e3
      · rw [hx3] at h; cases h
      rw [hx3] at h
      simp only [] at h
      refine go2_index (d := 69) (ty := 0) (t := 24) (el := 3) (sz := 1) (m := m1.length) (c := c0) (x := (.tmp 66)) (y := (.tmp 68)) (A := A0) (k' := .i64) (j := (IntKind.i64.wrap (z5 + 1))) (jn := ((IntKind.i64.wrap (z5 + 1)).toNat)) (b0 := blkOf A0) (o0 := offOf A0) (by kernel_rfl) (by kernel_rfl) (by kernel_rfl) (by kernel_rfl) (by kernel_rfl) ((hS25.rdAt 2 rfl).eqSome (pos_of_get hx3)) (Int.toNat_of_nonneg hc7).symm (lt_of_get hx3) ?_
      refine go2_batch [9] (ans := [.val (.int .i64 e3)]) (vs := [(70, .int .i64 e3)]) (l := [.loaded ⟨blkOf A0, offOf A0 + ((IntKind.i64.wrap (z5 + 1)).toNat) * 1, none⟩ (.int .i64 e3)]) (by kernel_rfl) ⟨RdL.cell (j := 0) (hS25.rdAt 2 rfl) hx3 rfl, trivial⟩ (mem_one (by kernel_rfl)) ?_
      refine go2_batch [10, 11] (ans := []) (vs := [(72, .int .i64 z5), (71, (.slice A0 m1.length c0))]) (l := []) (by kernel_rfl) trivial mem_nil ?_
      by_cases hc8 : 0 ≤ z5
      · rw [if_pos hc8] at h
        rcases hx4 : m1[(z5).toNat]? with _ | e4
        · rw [hx4] at h; cases h
        rw [hx4] at h
        simp only [] at h
        refine go2_index (d := 73) (ty := 0) (t := 24) (el := 3) (sz := 1) (m := m1.length) (c := c0) (x := (.tmp 71)) (y := (.tmp 72)) (A := A0) (k' := .i64) (j := z5) (jn := ((z5).toNat)) (b0 := blkOf A0) (o0 := offOf A0) (by kernel_rfl) (by kernel_rfl) (by kernel_rfl) (by kernel_rfl) (by kernel_rfl) ((hS25.rdAt 2 rfl).eqSome (pos_of_get hx4)) (Int.toNat_of_nonneg hc8).symm (lt_of_get hx4) ?_
        refine go2_batch [13] (ans := [.val (.int .i64 e4)]) (vs := [(74, .int .i64 e4)]) (l := [.loaded ⟨blkOf A0, offOf A0 + ((z5).toNat) * 1, none⟩ (.int .i64 e4)]) (by kernel_rfl) ⟨RdL.cell (j := 0) (hS25.rdAt 2 rfl) hx4 rfl, trivial⟩ (mem_one (by kernel_rfl)) ?_
        refine go2_index (d := 75) (ty := 0) (t := 24) (el := 3) (sz := 1) (m := m1.length) (c := c0) (x := (.tmp 61)) (y := (.tmp 62)) (A := A0) (k' := .i64) (j := z5) (jn := ((z5).toNat)) (b0 := blkOf A0) (o0 := offOf A0) (by kernel_rfl) (by kernel_rfl) (by kernel_rfl) (by kernel_rfl) (by kernel_rfl) ((hS25.rdAt 2 rfl).eqSome (pos_of_get hx4)) (Int.toNat_of_nonneg hc8).symm (lt_of_get hx4) ?_
        refine go_alt2 (fun KK hKK => ?_) ?_
        · have hS26 := hS25.bring 2 rfl
          refine ge_seti (α := Int) (A := A0) (nn := m1.length) (c := c0) (t := 3) (l := m1) (x := e4) (x' := e3) (jn := ((z5).toNat)) (j := 0) (vs := [.int .i64 e3]) (l' := [.stored ⟨blkOf A0, offOf A0 + ((z5).toNat) * 1, none⟩ (.int .i64 e3)]) hS26 (by kernel_rfl) (by kernel_rfl) hx4 rfl rfl rfl fun w3 hS27 => ?_
          have hS28 : St w0 w3 [Own.of (.slice A0 m1.length c0) 3 (m1.set ((z5).toNat) e3), Own.blk bg4_0 (.cells #[.func (.func 37) #[] #[]] 74 (0, 0)), Own.blk bg4_1 (.cells #[.slice Ag4_1 lg4_1.length cg4_1] 22 (0, 0)), Own.all LT] := hS27
          have hE1 : m1.length = (m1.set ((z5).toNat) e3).length := hS28.lenAt 0 rfl
          have hS29 : St w0 w3 [Own.of (.slice A0 (m1.set ((z5).toNat) e3).length c0) 3 (m1.set ((z5).toNat) e3), Own.blk bg4_0 (.cells #[.func (.func 37) #[] #[]] 74 (0, 0)), Own.blk bg4_1 (.cells #[.slice Ag4_1 lg4_1.length cg4_1] 22 (0, 0)), Own.all LT] := by rw [← hE1]; exact hS28
          refine ge_same (t := 0) (v := (.slice A0 m1.length c0)) (v' := (.slice A0 (m1.set ((z5).toNat) e3).length c0)) (by kernel_rfl) (by rw [hE1]) ?_
          refine ge_same (t := 61) (v := (.slice A0 m1.length c0)) (v' := (.slice A0 (m1.set ((z5).toNat) e3).length c0)) (by kernel_rfl) (by rw [hE1]) ?_
          refine ge_same (t := 63) (v := (.slice A0 m1.length c0)) (v' := (.slice A0 (m1.set ((z5).toNat) e3).length c0)) (by kernel_rfl) (by rw [hE1]) ?_
          refine ge_same (t := 66) (v := (.slice A0 m1.length c0)) (v' := (.slice A0 (m1.set ((z5).toNat) e3).length c0)) (by kernel_rfl) (by rw [hE1]) ?_
          refine ge_same (t := 71) (v := (.slice A0 m1.length c0)) (v' := (.slice A0 (m1.set ((z5).toNat) e3).length c0)) (by kernel_rfl) (by rw [hE1]) ?_
          refine ge_nil fun a hF => hKK _ _ (RS.of2 (l := []) (by kernel_rfl) trivial trivial) ?_ a hF
          rcases hx5 : (m1.set ((z5).toNat) e3)[(IntKind.i64.wrap (z5 + 1)).toNat]? with _ | e5
          · rw [hx5] at h; cases h
          rw [hx5] at h
          simp only [] at h
          refine go2_index (d := 76) (ty := 0) (t := 24) (el := 3) (sz := 1) (m := (m1.set ((z5).toNat) e3).length) (c := c0) (x := (.tmp 63)) (y := (.tmp 65)) (A := A0) (k' := .i64) (j := (IntKind.i64.wrap (z5 + 1))) (jn := ((IntKind.i64.wrap (z5 + 1)).toNat)) (b0 := blkOf A0) (o0 := offOf A0) (by kernel_rfl) (by kernel_rfl) (by kernel_rfl) (by kernel_rfl) (by kernel_rfl) ((hS29.rdAt 0 rfl).eqSome (pos_of_get hx5)) (Int.toNat_of_nonneg hc7).symm (lt_of_get hx5) ?_
          refine go_alt2 (fun KK hKK => ?_) ?_
          · refine ge_seti (α := Int) (A := A0) (nn := ((m1.set ((z5).toNat) e3).length)) (c := c0) (t := 3) (l := (m1.set ((z5).toNat) e3)) (x := e5) (x' := e4) (jn := ((IntKind.i64.wrap (z5 + 1)).toNat)) (j := 0) (vs := [.int .i64 e4]) (l' := [.stored ⟨blkOf A0, offOf A0 + ((IntKind.i64.wrap (z5 + 1)).toNat) * 1, none⟩ (.int .i64 e4)]) hS29 (by kernel_rfl) (by kernel_rfl) hx5 rfl rfl rfl fun w4 hS30 => ?_
            have hS31 : St w0 w4 [Own.of (.slice A0 (m1.set ((z5).toNat) e3).length c0) 3 ((m1.set ((z5).toNat) e3).set ((IntKind.i64.wrap (z5 + 1)).toNat) e4), Own.blk bg4_0 (.cells #[.func (.func 37) #[] #[]] 74 (0, 0)), Own.blk bg4_1 (.cells #[.slice Ag4_1 lg4_1.length cg4_1] 22 (0, 0)), Own.all LT] := hS30
            have hE2 : (m1.set ((z5).toNat) e3).length = ((m1.set ((z5).toNat) e3).set ((IntKind.i64.wrap (z5 + 1)).toNat) e4).length := hS31.lenAt 0 rfl
            have hS32 : St w0 w4 [Own.of (.slice A0 ((m1.set ((z5).toNat) e3).set ((IntKind.i64.wrap (z5 + 1)).toNat) e4).length c0) 3 ((m1.set ((z5).toNat) e3).set ((IntKind.i64.wrap (z5 + 1)).toNat) e4), Own.blk bg4_0 (.cells #[.func (.func 37) #[] #[]] 74 (0, 0)), Own.blk bg4_1 (.cells #[.slice Ag4_1 lg4_1.length cg4_1] 22 (0, 0)), Own.all LT] := by rw [← hE2]; exact hS31
            refine ge_same (t := 0) (v := (.slice A0 (m1.set ((z5).toNat) e3).length c0)) (v' := (.slice A0 ((m1.set ((z5).toNat) e3).set ((IntKind.i64.wrap (z5 + 1)).toNat) e4).length c0)) (by kernel_rfl) (by rw [hE2]) ?_
            refine ge_same (t := 61) (v := (.slice A0 (m1.set ((z5).toNat) e3).length c0)) (v' := (.slice A0 ((m1.set ((z5).toNat) e3).set ((IntKind.i64.wrap (z5 + 1)).toNat) e4).length c0)) (by kernel_rfl) (by rw [hE2]) ?_
            refine ge_same (t := 63) (v := (.slice A0 (m1.set ((z5).toNat) e3).length c0)) (v' := (.slice A0 ((m1.set ((z5).toNat) e3).set ((IntKind.i64.wrap (z5 + 1)).toNat) e4).length c0)) (by kernel_rfl) (by rw [hE2]) ?_
            refine ge_same (t := 66) (v := (.slice A0 (m1.set ((z5).toNat) e3).length c0)) (v' := (.slice A0 ((m1.set ((z5).toNat) e3).set ((IntKind.i64.wrap (z5 + 1)).toNat) e4).length c0)) (by kernel_rfl) (by rw [hE2]) ?_
            refine ge_same (t := 71) (v := (.slice A0 (m1.set ((z5).toNat) e3).length c0)) (v' := (.slice A0 ((m1.set ((z5).toNat) e3).set ((IntKind.i64.wrap (z5 + 1)).toNat) e4).length c0)) (by kernel_rfl) (by rw [hE2]) ?_
            refine ge_nil fun a hF => hKK _ _ (RS.of2 (l := []) (by kernel_rfl) trivial trivial) ?_ a hF
            refine go_fin2 fun a hF => hK14 _ _ ?_ a hF
            refine we_region [(0, 0), (1, 0), (2, 0)] rfl ?_
            refine ge_batch [0, 1, 2] (ans := []) (vs := [(13, .int .i64 (IntKind.i64.wrap (z5 + 1))), (60, .int .i64 (IntKind.i64.wrap (z5 + 1))), (59, .int .i64 z5)]) (l := []) (by kernel_rfl) trivial ?_
            have hS33 := hS32.bring 3 rfl
            have hS34 := hS33.bring 1 rfl
            have hS35 := hS34.bring 3 rfl
            have hS36 := hS35.bring 3 rfl
            obtain rfl := Option.some.inj h
            exact ge_nil fun a hF => hQ _ _ _ (Outs.again ⟨(Eq.trans hLio1 (by simp only [List.length_set])), hS36, hF.weaken ⟨by kernel_rfl, by kernel_rfl, by kernel_rfl, by kernel_rfl, trivial⟩⟩)
          exact go_nomore2
        exact go_nomore2
      · rw [if_neg hc8] at h
        cases h
    · rw [if_neg hc7] at h
      cases h
  · rw [if_neg hc6] at h
    refine we_known (t := 58) (b := decide (z5 < (IntKind.i64.wrap (z4 - 1)))) (v := false) (by kernel_rfl) (decide_eq_false hc6) ?_
    refine we_false (by kernel_rfl) ?_
    have hS37 := hS.bring 3 rfl
    have hS38 := hS37.bring 3 rfl
    have hS39 := hS38.bring 3 rfl
    have hS40 := hS39.bring 3 rfl
    obtain rfl := Option.some.inj h
    exact we_exit fun a hF => hQ _ _ _ (Outs.out nofun (Exits.here ⟨hLio1, hS40, hF.weaken ⟨by kernel_rfl, by kernel_rfl, trivial⟩⟩))
abbrev slices_symMergeCmpFunc_int.A2 (K : Nat) (w0 : World) (l0 : List Int) (A0 : Option Addr) (c0 : Nat) (x1 : Int) (x2 : Int) (x3 : Int) (bg4_0 : Nat) (bg4_1 : Nat) (lg4_1 : List STask) (Ag4_1 : Option Addr) (cg4_1 : Nat) (LT : List Own) (hRg4_1 : RdL w0 Ag4_1 lg4_1) (hLg4_1 : lg4_1.length ≤ cg4_1) (recf : (List Int) → Int → Int → Int → (List STask) → Option (List Int)) (hrec : ∀ (l0 : List Int) (A0 : Option Addr) (c0 : Nat) (x1 : Int) (x2 : Int) (x3 : Int) (bg4_0 : Nat) (bg4_1 : Nat) (lg4_1 : List STask) (Ag4_1 : Option Addr) (cg4_1 : Nat) (w0 wE : World) (LT : List Own) (hS : St w0 wE [Own.of (.slice A0 l0.length c0) 3 l0, Own.blk bg4_0 (.cells #[.func (.func 37) #[] #[]] 74 (0, 0)), Own.blk bg4_1 (.cells #[.slice Ag4_1 lg4_1.length cg4_1] 22 (0, 0)), Own.all LT]) (hRg4_1 : RdL w0 Ag4_1 lg4_1) (hLg4_1 : lg4_1.length ≤ cg4_1) (r : List Int) (h : recf l0 x1 x2 x3 lg4_1 = some r), Calls Try.prog 79 #[(.slice A0 l0.length c0), .int .i64 x1, .int .i64 x2, .int .i64 x3, .func (.func 59) #[] #[.pointer (some ⟨bg4_0, 0, none⟩), .pointer (some ⟨bg4_1, 0, none⟩)]] wE (slices_symMergeCmpFunc_int.Post w0 l0 A0 c0 x1 x2 x3 bg4_0 bg4_1 lg4_1 Ag4_1 cg4_1 LT r)) (hc1 : ¬ ((IntKind.i64.wrap (x2 - x1)) = 1)) (hc9 : (IntKind.i64.wrap (x3 - x2)) = 1) : (Int × Int) → Act → World → Prop := fun (s : Int × Int) a w => St w0 w [Own.blk bg4_0 (.cells #[.func (.func 37) #[] #[]] 74 (0, 0)), Own.blk bg4_1 (.cells #[.slice Ag4_1 lg4_1.length cg4_1] 22 (0, 0)), Own.of (.slice A0 l0.length c0) 3 l0, Own.all LT] ∧ Frm 220 a [(0, (.slice A0 l0.length c0)), (2, .int .i64 x2), (4, .func (.func 59) #[] #[.pointer (some ⟨bg4_0, 0, none⟩), .pointer (some ⟨bg4_1, 0, none⟩)]), (14, .int .i64 s.1), (15, .int .i64 s.2)]
abbrev slices_symMergeCmpFunc_int.B2 (K : Nat) (w0 : World) (l0 : List Int) (A0 : Option Addr) (c0 : Nat) (x1 : Int) (x2 : Int) (x3 : Int) (bg4_0 : Nat) (bg4_1 : Nat) (lg4_1 : List STask) (Ag4_1 : Option Addr) (cg4_1 : Nat) (LT : List Own) (hRg4_1 : RdL w0 Ag4_1 lg4_1) (hLg4_1 : lg4_1.length ≤ cg4_1) (recf : (List Int) → Int → Int → Int → (List STask) → Option (List Int)) (hrec : ∀ (l0 : List Int) (A0 : Option Addr) (c0 : Nat) (x1 : Int) (x2 : Int) (x3 : Int) (bg4_0 : Nat) (bg4_1 : Nat) (lg4_1 : List STask) (Ag4_1 : Option Addr) (cg4_1 : Nat) (w0 wE : World) (LT : List Own) (hS : St w0 wE [Own.of (.slice A0 l0.length c0) 3 l0, Own.blk bg4_0 (.cells #[.func (.func 37) #[] #[]] 74 (0, 0)), Own.blk bg4_1 (.cells #[.slice Ag4_1 lg4_1.length cg4_1] 22 (0, 0)), Own.all LT]) (hRg4_1 : RdL w0 Ag4_1 lg4_1) (hLg4_1 : lg4_1.length ≤ cg4_1) (r : List Int) (h : recf l0 x1 x2 x3 lg4_1 = some r), Calls Try.prog 79 #[(.slice A0 l0.length c0), .int .i64 x1, .int .i64 x2, .int .i64 x3, .func (.func 59) #[] #[.pointer (some ⟨bg4_0, 0, none⟩), .pointer (some ⟨bg4_1, 0, none⟩)]] wE (slices_symMergeCmpFunc_int.Post w0 l0 A0 c0 x1 x2 x3 bg4_0 bg4_1 lg4_1 Ag4_1 cg4_1 LT r)) (hc1 : ¬ ((IntKind.i64.wrap (x2 - x1)) = 1)) (hc9 : (IntKind.i64.wrap (x3 - x2)) = 1) : (Int ⊕ (List Int)) → Exit → Act → World → Prop := Exits 4 (fun (s : Int) a w => St w0 w [Own.blk bg4_0 (.cells #[.func (.func 37) #[] #[]] 74 (0, 0)), Own.blk bg4_1 (.cells #[.slice Ag4_1 lg4_1.length cg4_1] 22 (0, 0)), Own.of (.slice A0 l0.length c0) 3 l0, Own.all LT] ∧ Frm 220 a [(0, (.slice A0 l0.length c0)), (2, .int .i64 x2), (4, .func (.func 59) #[] #[.pointer (some ⟨bg4_0, 0, none⟩), .pointer (some ⟨bg4_1, 0, none⟩)]), (14, .int .i64 s)]) (Rets Try.prog Try.f79 (slices_symMergeCmpFunc_int.Post w0 l0 A0 c0 x1 x2 x3 bg4_0 bg4_1 lg4_1 Ag4_1 cg4_1 LT))
theorem slices_symMergeCmpFunc_int_r2 (K : Nat) (w0 : World) (l0 : List Int) (A0 : Option Addr) (c0 : Nat) (x1 : Int) (x2 : Int) (x3 : Int) (bg4_0 : Nat) (bg4_1 : Nat) (lg4_1 : List STask) (Ag4_1 : Option Addr) (cg4_1 : Nat) (LT : List Own) (hRg4_1 : RdL w0 Ag4_1 lg4_1) (hLg4_1 : lg4_1.length ≤ cg4_1) (recf : (List Int) → Int → Int → Int → (List STask) → Option (List Int)) (hrec : ∀ (l0 : List Int) (A0 : Option Addr) (c0 : Nat) (x1 : Int) (x2 : Int) (x3 : Int) (bg4_0 : Nat) (bg4_1 : Nat) (lg4_1 : List STask) (Ag4_1 : Option Addr) (cg4_1 : Nat) (w0 wE : World) (LT : List Own) (hS : St w0 wE [Own.of (.slice A0 l0.length c0) 3 l0, Own.blk bg4_0 (.cells #[.func (.func 37) #[] #[]] 74 (0, 0)), Own.blk bg4_1 (.cells #[.slice Ag4_1 lg4_1.length cg4_1] 22 (0, 0)), Own.all LT]) (hRg4_1 : RdL w0 Ag4_1 lg4_1) (hLg4_1 : lg4_1.length ≤ cg4_1) (r : List Int) (h : recf l0 x1 x2 x3 lg4_1 = some r), Calls Try.prog 79 #[(.slice A0 l0.length c0), .int .i64 x1, .int .i64 x2, .int .i64 x3, .func (.func 59) #[] #[.pointer (some ⟨bg4_0, 0, none⟩), .pointer (some ⟨bg4_1, 0, none⟩)]] wE (slices_symMergeCmpFunc_int.Post w0 l0 A0 c0 x1 x2 x3 bg4_0 bg4_1 lg4_1 Ag4_1 cg4_1 LT r)) (hc1 : ¬ ((IntKind.i64.wrap (x2 - x1)) = 1)) (hc9 : (IntKind.i64.wrap (x3 - x2)) = 1) (s : Int × Int) (o : (Int × Int) ⊕ (Int ⊕ (List Int))) (h : slices_symMergeCmpFunc_int.r2 l0 x2 lg4_1 s = some o) (a : Act) (w : World) (hA : slices_symMergeCmpFunc_int.A2 K w0 l0 A0 c0 x1 x2 x3 bg4_0 bg4_1 lg4_1 Ag4_1 cg4_1 LT hRg4_1 hLg4_1 recf hrec hc1 hc9 s a w) (Q : Exit → Act → World → Prop) (hQ : ∀ x a w, Outs (slices_symMergeCmpFunc_int.A2 K w0 l0 A0 c0 x1 x2 x3 bg4_0 bg4_1 lg4_1 Ag4_1 cg4_1 LT hRg4_1 hLg4_1 recf hrec hc1 hc9) (slices_symMergeCmpFunc_int.B2 K w0 l0 A0 c0 x1 x2 x3 bg4_0 bg4_1 lg4_1 Ag4_1 cg4_1 LT hRg4_1 hLg4_1 recf hrec hc1 hc9) o x a w → Q x a w) : (subF Try.f79 [1, 0, 1, 0, 1, 1, 0, 0, 0]).wp Try.prog Q a w := by
  obtain ⟨z6, z7⟩ := s
  obtain ⟨hS, hF⟩ := hA
  replace hS : St w0 w [Own.blk bg4_0 (.cells #[.func (.func 37) #[] #[]] 74 (0, 0)), Own.blk bg4_1 (.cells #[.slice Ag4_1 lg4_1.length cg4_1] 22 (0, 0)), Own.of (.slice A0 l0.length c0) 3 l0, Own.all LT] := hS
  simp only [slices_symMergeCmpFunc_int.r2] at h
  refine (?_ : WE Try.prog 220 (subF Try.f79 [1, 0, 1, 0, 1, 1, 0, 0, 0]) Q [(0, (.slice A0 l0.length c0)), (2, .int .i64 x2), (4, .func (.func 59) #[] #[.pointer (some ⟨bg4_0, 0, none⟩), .pointer (some ⟨bg4_1, 0, none⟩)]), (14, .int .i64 z6), (15, .int .i64 z7)] w) a hF
  clear hF a
  refine we_seq fun K20 hK20 => ?_
  refine we_seq fun K21 hK21 => ?_
  refine we_region [(0, 0), (1, 0), (2, 0)] rfl ?_
  refine ge_batch [0, 1, 2] (ans := []) (vs := [(85, .bool (decide (z6 < z7))), (84, .int .i64 z7), (83, .int .i64 z6)]) (l := []) (by kernel_rfl) trivial ?_
  refine ge_nil fun a hF => hK21 _ _ ?_ a hF
  by_cases hc10 : z6 < z7
  · rw [if_pos hc10] at h
    refine we_known (t := 85) (b := decide (z6 < z7)) (v := true) (by kernel_rfl) (decide_eq_true hc10) ?_
    refine we_true (by kernel_rfl) ?_
    refine we_skip fun a hF => hK20 _ _ ?_ a hF
    refine we_block ?_
    refine we_seq fun K22 hK22 => ?_
    refine we_region [(0, 0), (1, 0), (2, 0), (3, 0), (4, 0), (5, 0), (6, 0)] rfl ?_
    refine ge_batch [0, 1, 2, 3, 4, 5, 6] (ans := []) (vs := [(16, .int .i64 (IntKind.i64.wrap (Int.fdiv (IntKind.u64.wrap (IntKind.i64.wrap (z6 + z7))) (2 ^ 1)))), (91, .int .i64 (IntKind.i64.wrap (Int.fdiv (IntKind.u64.wrap (IntKind.i64.wrap (z6 + z7))) (2 ^ 1)))), (90, .int .u64 (Int.fdiv (IntKind.u64.wrap (IntKind.i64.wrap (z6 + z7))) (2 ^ 1))), (89, .int .u64 (IntKind.u64.wrap (IntKind.i64.wrap (z6 + z7)))), (88, .int .i64 (IntKind.i64.wrap (z6 + z7))), (87, .int .i64 z7), (86, .int .i64 z6)]) (l := []) (by kernel_rfl) trivial ?_
    refine ge_nil fun a hF => hK22 _ _ ?_ a hF
    refine we_seq fun K23 hK23 => ?_
    refine we_draws (by kernel_rfl) [(0, 0), (1, 0), (2, 0), (3, 0), (4, 0), (5, 0), (6, 0), (7, 0), (8, 0), (9, 1), (10, 0), (11, 0)] (by kernel_rfl) ?_
    have hS50 := hS.drew
    refine ge_batch [0, 1, 2] (ans := []) (vs := [(94, .int .i64 x2), (93, (.slice A0 l0.length c0)), (92, .func (.func 59) #[] #[.pointer (some ⟨bg4_0, 0, none⟩), .pointer (some ⟨bg4_1, 0, none⟩)])]) (l := []) (by kernel_rfl) trivial ?_
    by_cases hc11 : 0 ≤ x2
    · rw [if_pos hc11] at h
      rcases hx6 : l0[(x2).toNat]? with _ | e6
      · rw [hx6] at h; cases h
      rw [hx6] at h
      simp only [] at h
      refine ge_index (d := 95) (ty := 0) (t := 24) (el := 3) (sz := 1) (m := l0.length) (c := c0) (x := (.tmp 93)) (y := (.tmp 94)) (A := A0) (k' := .i64) (j := x2) (jn := ((x2).toNat)) (b0 := blkOf A0) (o0 := offOf A0) (by kernel_rfl) (by kernel_rfl) (by kernel_rfl) (by kernel_rfl) (by kernel_rfl) ((hS50.rdAt 2 rfl).eqSome (pos_of_get hx6)) (Int.toNat_of_nonneg hc11).symm (lt_of_get hx6) ?_
      refine ge_batch [4, 5, 6] (ans := [.val (.int .i64 e6)]) (vs := [(98, .int .i64 (IntKind.i64.wrap (Int.fdiv (IntKind.u64.wrap (IntKind.i64.wrap (z6 + z7))) (2 ^ 1)))), (97, (.slice A0 l0.length c0)), (96, .int .i64 e6)]) (l := [.loaded ⟨blkOf A0, offOf A0 + ((x2).toNat) * 1, none⟩ (.int .i64 e6)]) (by kernel_rfl) ⟨RdL.cell (j := 0) (hS50.rdAt 2 rfl) hx6 rfl, trivial⟩ ?_
      by_cases hc12 : 0 ≤ (IntKind.i64.wrap (Int.fdiv (IntKind.u64.wrap (IntKind.i64.wrap (z6 + z7))) (2 ^ 1)))
      · rw [if_pos hc12] at h
        rcases hx7 : l0[(IntKind.i64.wrap (Int.fdiv (IntKind.u64.wrap (IntKind.i64.wrap (z6 + z7))) (2 ^ 1))).toNat]? with _ | e7
        · rw [hx7] at h; cases h
        rw [hx7] at h
        simp only [] at h
        refine ge_index (d := 99) (ty := 0) (t := 24) (el := 3) (sz := 1) (m := l0.length) (c := c0) (x := (.tmp 97)) (y := (.tmp 98)) (A := A0) (k' := .i64) (j := (IntKind.i64.wrap (Int.fdiv (IntKind.u64.wrap (IntKind.i64.wrap (z6 + z7))) (2 ^ 1)))) (jn := ((IntKind.i64.wrap (Int.fdiv (IntKind.u64.wrap (IntKind.i64.wrap (z6 + z7))) (2 ^ 1))).toNat)) (b0 := blkOf A0) (o0 := offOf A0) (by kernel_rfl) (by kernel_rfl) (by kernel_rfl) (by kernel_rfl) (by kernel_rfl) ((hS50.rdAt 2 rfl).eqSome (pos_of_get hx7)) (Int.toNat_of_nonneg hc12).symm (lt_of_get hx7) ?_
        rcases hq4 : fixed_ranked_1.f e6 e7 lg4_1 with _ | r2
        · rw [hq4] at h; cases h
        rw [hq4] at h
        simp only [] at h
        refine ge_batch [8] (ans := [.val (.int .i64 e7)]) (vs := [(100, .int .i64 e7)]) (l := [.loaded ⟨blkOf A0, offOf A0 + ((IntKind.i64.wrap (Int.fdiv (IntKind.u64.wrap (IntKind.i64.wrap (z6 + z7))) (2 ^ 1))).toNat) * 1, none⟩ (.int .i64 e7)]) (by kernel_rfl) ⟨RdL.cell (j := 0) (hS50.rdAt 2 rfl) hx7 rfl, trivial⟩ ?_
        refine ge_call (d := some 101) (f := 59) (args := #[.int .i64 e6, .int .i64 e7, .pointer (some ⟨bg4_0, 0, none⟩), .pointer (some ⟨bg4_1, 0, none⟩)]) (by kernel_rfl) (fixed_ranked_1_ok e6 e7 bg4_0 bg4_1 lg4_1 Ag4_1 cg4_1 _ (hS50.globOf 0 rfl) (hS50.rd hRg4_1) hLg4_1 (hS50.globOf 1 rfl) _ hq4) ?_
        rintro _ w6 ⟨rfl, hS51⟩
        refine ⟨_, rfl, hS51.below, ?_⟩
        have hS52 := hS50.call hS51
        refine ge_batch [10, 11] (ans := []) (vs := [(103, .bool (!(decide (r2 < 0)))), (102, .bool (decide (r2 < 0)))]) (l := []) (by kernel_rfl) trivial ?_
        refine ge_nil fun a hF => hK23 _ _ ?_ a hF
        by_cases hc13 : r2 < 0
        · rw [if_pos hc13] at h
          refine we_known (t := 103) (b := !(decide (r2 < 0))) (v := false) (by kernel_rfl) (congrArg (fun z => !z) (decide_eq_true hc13)) ?_
          refine we_false (by kernel_rfl) ?_
          refine we_region [(0, 0), (1, 0)] rfl ?_
          refine ge_batch [0, 1] (ans := []) (vs := [(15, .int .i64 (IntKind.i64.wrap (Int.fdiv (IntKind.u64.wrap (IntKind.i64.wrap (z6 + z7))) (2 ^ 1)))), (106, .int .i64 (IntKind.i64.wrap (Int.fdiv (IntKind.u64.wrap (IntKind.i64.wrap (z6 + z7))) (2 ^ 1))))]) (l := []) (by kernel_rfl) trivial ?_
          have hS53 := hS52.bring 3 rfl
          have hS54 := hS53.bring 3 rfl
          have hS55 := hS54.bring 3 rfl
          have hS56 := hS55.bring 3 rfl
          obtain rfl := Option.some.inj h
          exact ge_nil fun a hF => hQ _ _ _ (Outs.again ⟨hS56, hF.weaken ⟨by kernel_rfl, by kernel_rfl, by kernel_rfl, by kernel_rfl, by kernel_rfl, trivial⟩⟩)
        · rw [if_neg hc13] at h
          refine we_known (t := 103) (b := !(decide (r2 < 0))) (v := true) (by kernel_rfl) (congrArg (fun z => !z) (decide_eq_false hc13)) ?_
          refine we_true (by kernel_rfl) ?_
          refine we_region [(0, 0), (1, 0), (2, 0)] rfl ?_
          refine ge_batch [0, 1, 2] (ans := []) (vs := [(14, .int .i64 (IntKind.i64.wrap ((IntKind.i64.wrap (Int.fdiv (IntKind.u64.wrap (IntKind.i64.wrap (z6 + z7))) (2 ^ 1))) + 1))), (105, .int .i64 (IntKind.i64.wrap ((IntKind.i64.wrap (Int.fdiv (IntKind.u64.wrap (IntKind.i64.wrap (z6 + z7))) (2 ^ 1))) + 1))), (104, .int .i64 (IntKind.i64.wrap (Int.fdiv (IntKind.u64.wrap (IntKind.i64.wrap (z6 + z7))) (2 ^ 1))))]) (l := []) (by kernel_rfl) trivial ?_
          have hS57 := hS52.bring 3 rfl
          have hS58 := hS57.bring 3 rfl
          have hS59 := hS58.bring 3 rfl
          have hS60 := hS59.bring 3 rfl
          obtain rfl := Option.some.inj h
          exact ge_nil fun a hF => hQ _ _ _ (Outs.again ⟨hS60, hF.weaken ⟨by kernel_rfl, by kernel_rfl, by kernel_rfl, by kernel_rfl, by kernel_rfl, trivial⟩⟩)
      · rw [if_neg hc12] at h
        cases h
    · rw [if_neg hc11] at h
      cases h
  · rw [if_neg hc10] at h
    refine we_known (t := 85) (b := decide (z6 < z7)) (v := false) (by kernel_rfl) (decide_eq_false hc10) ?_
    refine we_false (by kernel_rfl) ?_
    have hS61 := hS.bring 3 rfl
    have hS62 := hS61.bring 3 rfl
    have hS63 := hS62.bring 3 rfl
    have hS64 := hS63.bring 3 rfl
    obtain rfl := Option.some.inj h
    exact we_exit fun a hF => hQ _ _ _ (Outs.out nofun (Exits.here ⟨hS64, hF.weaken ⟨by kernel_rfl, by kernel_rfl, by kernel_rfl, by kernel_rfl, trivial⟩⟩))
abbrev slices_symMergeCmpFunc_int.A3 (K : Nat) (w0 : World) (l0 : List Int) (A0 : Option Addr) (c0 : Nat) (x1 : Int) (x2 : Int) (x3 : Int) (bg4_0 : Nat) (bg4_1 : Nat) (lg4_1 : List STask) (Ag4_1 : Option Addr) (cg4_1 : Nat) (LT : List Own) (hRg4_1 : RdL w0 Ag4_1 lg4_1) (hLg4_1 : lg4_1.length ≤ cg4_1) (recf : (List Int) → Int → Int → Int → (List STask) → Option (List Int)) (hrec : ∀ (l0 : List Int) (A0 : Option Addr) (c0 : Nat) (x1 : Int) (x2 : Int) (x3 : Int) (bg4_0 : Nat) (bg4_1 : Nat) (lg4_1 : List STask) (Ag4_1 : Option Addr) (cg4_1 : Nat) (w0 wE : World) (LT : List Own) (hS : St w0 wE [Own.of (.slice A0 l0.length c0) 3 l0, Own.blk bg4_0 (.cells #[.func (.func 37) #[] #[]] 74 (0, 0)), Own.blk bg4_1 (.cells #[.slice Ag4_1 lg4_1.length cg4_1] 22 (0, 0)), Own.all LT]) (hRg4_1 : RdL w0 Ag4_1 lg4_1) (hLg4_1 : lg4_1.length ≤ cg4_1) (r : List Int) (h : recf l0 x1 x2 x3 lg4_1 = some r), Calls Try.prog 79 #[(.slice A0 l0.length c0), .int .i64 x1, .int .i64 x2, .int .i64 x3, .func (.func 59) #[] #[.pointer (some ⟨bg4_0, 0, none⟩), .pointer (some ⟨bg4_1, 0, none⟩)]] wE (slices_symMergeCmpFunc_int.Post w0 l0 A0 c0 x1 x2 x3 bg4_0 bg4_1 lg4_1 Ag4_1 cg4_1 LT r)) (hc1 : ¬ ((IntKind.i64.wrap (x2 - x1)) = 1)) (hc9 : (IntKind.i64.wrap (x3 - x2)) = 1) (z9 : Int) : (Int × (List Int)) → Act → World → Prop := fun (s : Int × (List Int)) a w => l0.length = s.2.length ∧ St w0 w [Own.blk bg4_0 (.cells #[.func (.func 37) #[] #[]] 74 (0, 0)), Own.blk bg4_1 (.cells #[.slice Ag4_1 lg4_1.length cg4_1] 22 (0, 0)), Own.of (.slice A0 s.2.length c0) 3 s.2, Own.all LT] ∧ Frm 220 a [(0, (.slice A0 s.2.length c0)), (4, .func (.func 59) #[] #[.pointer (some ⟨bg4_0, 0, none⟩), .pointer (some ⟨bg4_1, 0, none⟩)]), (14, .int .i64 z9), (17, .int .i64 s.1)]
abbrev slices_symMergeCmpFunc_int.B3 (K : Nat) (w0 : World) (l0 : List Int) (A0 : Option Addr) (c0 : Nat) (x1 : Int) (x2 : Int) (x3 : Int) (bg4_0 : Nat) (bg4_1 : Nat) (lg4_1 : List STask) (Ag4_1 : Option Addr) (cg4_1 : Nat) (LT : List Own) (hRg4_1 : RdL w0 Ag4_1 lg4_1) (hLg4_1 : lg4_1.length ≤ cg4_1) (recf : (List Int) → Int → Int → Int → (List STask) → Option (List Int)) (hrec : ∀ (l0 : List Int) (A0 : Option Addr) (c0 : Nat) (x1 : Int) (x2 : Int) (x3 : Int) (bg4_0 : Nat) (bg4_1 : Nat) (lg4_1 : List STask) (Ag4_1 : Option Addr) (cg4_1 : Nat) (w0 wE : World) (LT : List Own) (hS : St w0 wE [Own.of (.slice A0 l0.length c0) 3 l0, Own.blk bg4_0 (.cells #[.func (.func 37) #[] #[]] 74 (0, 0)), Own.blk bg4_1 (.cells #[.slice Ag4_1 lg4_1.length cg4_1] 22 (0, 0)), Own.all LT]) (hRg4_1 : RdL w0 Ag4_1 lg4_1) (hLg4_1 : lg4_1.length ≤ cg4_1) (r : List Int) (h : recf l0 x1 x2 x3 lg4_1 = some r), Calls Try.prog 79 #[(.slice A0 l0.length c0), .int .i64 x1, .int .i64 x2, .int .i64 x3, .func (.func 59) #[] #[.pointer (some ⟨bg4_0, 0, none⟩), .pointer (some ⟨bg4_1, 0, none⟩)]] wE (slices_symMergeCmpFunc_int.Post w0 l0 A0 c0 x1 x2 x3 bg4_0 bg4_1 lg4_1 Ag4_1 cg4_1 LT r)) (hc1 : ¬ ((IntKind.i64.wrap (x2 - x1)) = 1)) (hc9 : (IntKind.i64.wrap (x3 - x2)) = 1) (z9 : Int) : ((List Int) ⊕ (List Int)) → Exit → Act → World → Prop := Exits 6 (fun (s : (List Int)) a w => l0.length = s.length ∧ St w0 w [Own.blk bg4_0 (.cells #[.func (.func 37) #[] #[]] 74 (0, 0)), Own.blk bg4_1 (.cells #[.slice Ag4_1 lg4_1.length cg4_1] 22 (0, 0)), Own.of (.slice A0 s.length c0) 3 s, Own.all LT] ∧ Frm 220 a [(0, (.slice A0 s.length c0)), (4, .func (.func 59) #[] #[.pointer (some ⟨bg4_0, 0, none⟩), .pointer (some ⟨bg4_1, 0, none⟩)])]) (Rets Try.prog Try.f79 (slices_symMergeCmpFunc_int.Post w0 l0 A0 c0 x1 x2 x3 bg4_0 bg4_1 lg4_1 Ag4_1 cg4_1 LT))
theorem slices_symMergeCmpFunc_int_r3 (K : Nat) (w0 : World) (l0 : List Int) (A0 : Option Addr) (c0 : Nat) (x1 : Int) (x2 : Int) (x3 : Int) (bg4_0 : Nat) (bg4_1 : Nat) (lg4_1 : List STask) (Ag4_1 : Option Addr) (cg4_1 : Nat) (LT : List Own) (hRg4_1 : RdL w0 Ag4_1 lg4_1) (hLg4_1 : lg4_1.length ≤ cg4_1) (recf : (List Int) → Int → Int → Int → (List STask) → Option (List Int)) (hrec : ∀ (l0 : List Int) (A0 : Option Addr) (c0 : Nat) (x1 : Int) (x2 : Int) (x3 : Int) (bg4_0 : Nat) (bg4_1 : Nat) (lg4_1 : List STask) (Ag4_1 : Option Addr) (cg4_1 : Nat) (w0 wE : World) (LT : List Own) (hS : St w0 wE [Own.of (.slice A0 l0.length c0) 3 l0, Own.blk bg4_0 (.cells #[.func (.func 37) #[] #[]] 74 (0, 0)), Own.blk bg4_1 (.cells #[.slice Ag4_1 lg4_1.length cg4_1] 22 (0, 0)), Own.all LT]) (hRg4_1 : RdL w0 Ag4_1 lg4_1) (hLg4_1 : lg4_1.length ≤ cg4_1) (r : List Int) (h : recf l0 x1 x2 x3 lg4_1 = some r), Calls Try.prog 79 #[(.slice A0 l0.length c0), .int .i64 x1, .int .i64 x2, .int .i64 x3, .func (.func 59) #[] #[.pointer (some ⟨bg4_0, 0, none⟩), .pointer (some ⟨bg4_1, 0, none⟩)]] wE (slices_symMergeCmpFunc_int.Post w0 l0 A0 c0 x1 x2 x3 bg4_0 bg4_1 lg4_1 Ag4_1 cg4_1 LT r)) (hc1 : ¬ ((IntKind.i64.wrap (x2 - x1)) = 1)) (hc9 : (IntKind.i64.wrap (x3 - x2)) = 1) (z9 : Int) (s : Int × (List Int)) (o : (Int × (List Int)) ⊕ ((List Int) ⊕ (List Int))) (h : slices_symMergeCmpFunc_int.r3 z9 s = some o) (a : Act) (w : World) (hA : slices_symMergeCmpFunc_int.A3 K w0 l0 A0 c0 x1 x2 x3 bg4_0 bg4_1 lg4_1 Ag4_1 cg4_1 LT hRg4_1 hLg4_1 recf hrec hc1 hc9 z9 s a w) (Q : Exit → Act → World → Prop) (hQ : ∀ x a w, Outs (slices_symMergeCmpFunc_int.A3 K w0 l0 A0 c0 x1 x2 x3 bg4_0 bg4_1 lg4_1 Ag4_1 cg4_1 LT hRg4_1 hLg4_1 recf hrec hc1 hc9 z9) (slices_symMergeCmpFunc_int.B3 K w0 l0 A0 c0 x1 x2 x3 bg4_0 bg4_1 lg4_1 Ag4_1 cg4_1 LT hRg4_1 hLg4_1 recf hrec hc1 hc9 z9) o x a w → Q x a w) : (subF Try.f79 [1, 0, 1, 0, 1, 1, 1, 0, 1, 0, 0]).wp Try.prog Q a w := by
  obtain ⟨z10, m4⟩ := s
  obtain ⟨hLio3, hS, hF⟩ := hA
  replace hS : St w0 w [Own.blk bg4_0 (.cells #[.func (.func 37) #[] #[]] 74 (0, 0)), Own.blk bg4_1 (.cells #[.slice Ag4_1 lg4_1.length cg4_1] 22 (0, 0)), Own.of (.slice A0 m4.length c0) 3 m4, Own.all LT] := hS
  simp only [slices_symMergeCmpFunc_int.r3] at h
  refine (?_ : WE Try.prog 220 (subF Try.f79 [1, 0, 1, 0, 1, 1, 1, 0, 1, 0, 0]) Q [(0, (.slice A0 m4.length c0)), (4, .func (.func 59) #[] #[.pointer (some ⟨bg4_0, 0, none⟩), .pointer (some ⟨bg4_1, 0, none⟩)]), (14, .int .i64 z9), (17, .int .i64 z10)] w) a hF
  clear hF a
  refine we_seq fun K26 hK26 => ?_
  refine we_seq fun K27 hK27 => ?_
  refine we_region [(0, 0), (1, 0), (2, 0)] rfl ?_
  refine ge_batch [0, 1, 2] (ans := []) (vs := [(110, .bool (decide (z10 > z9))), (109, .int .i64 z9), (108, .int .i64 z10)]) (l := []) (by kernel_rfl) trivial ?_
  refine ge_nil fun a hF => hK27 _ _ ?_ a hF
  by_cases hc14 : z10 > z9
  · rw [if_pos hc14] at h
    refine we_known (t := 110) (b := decide (z10 > z9)) (v := true) (by kernel_rfl) (decide_eq_true hc14) ?_
    refine we_true (by kernel_rfl) ?_
    refine we_skip fun a hF => hK26 _ _ ?_ a hF
    refine we_seq fun K28 hK28 => ?_
    refine we_block ?_
    refine we_orders2 (by kernel_rfl) [(9, [⟨blkOf A0, offOf A0 + ((IntKind.i64.wrap (z10 - 1)).toNat) * 1, none⟩]), (13, [⟨blkOf A0, offOf A0 + ((z10).toNat) * 1, none⟩])] (.vals [0] (.vals [1] (.vals [2] (.vals [3] (.vals [4] (.vals [5] (.vals [6] (.vals [7] (.vals [8] (.vals [9] (.vals [10] (.vals [11] (.vals [12] (.vals [13] (.vals [14] (.alt 15 2 (.vals [16] (.alt 17 2 .fin .nomore)) .nomore)))))))))))))))) (by kernel_rfl) ?_
    have hS70 := hS.drew
    refine go2_batch [0, 1, 2, 3, 4, 5, 6, 7] (ans := []) (vs := [(120, .int .i64 (IntKind.i64.wrap (z10 - 1))), (119, .int .i64 z10), (118, (.slice A0 m4.length c0)), (117, .int .i64 (IntKind.i64.wrap (z10 - 1))), (116, .int .i64 z10), (115, (.slice A0 m4.length c0)), (114, .int .i64 z10), (113, (.slice A0 m4.length c0))]) (l := []) (by kernel_rfl) trivial mem_nil ?_
    by_cases hc15 : 0 ≤ (IntKind.i64.wrap (z10 - 1))
    · rw [if_pos hc15] at h
      rcases hx8 : m4[(IntKind.i64.wrap (z10 - 1)).toNat]? with _ | e8
      · rw [hx8] at h; cases h
      rw [hx8] at h
      simp only [] at h
      refine go2_index (d := 121) (ty := 0) (t := 24) (el := 3) (sz := 1) (m := m4.length) (c := c0) (x := (.tmp 118)) (y := (.tmp 120)) (A := A0) (k' := .i64) (j := (IntKind.i64.wrap (z10 - 1))) (jn := ((IntKind.i64.wrap (z10 - 1)).toNat)) (b0 := blkOf A0) (o0 := offOf A0) (by kernel_rfl) (by kernel_rfl) (by kernel_rfl) (by kernel_rfl) (by kernel_rfl) ((hS70.rdAt 2 rfl).eqSome (pos_of_get hx8)) (Int.toNat_of_nonneg hc15).symm (lt_of_get hx8) ?_
      refine go2_batch [9] (ans := [.val (.int .i64 e8)]) (vs := [(122, .int .i64 e8)]) (l := [.loaded ⟨blkOf A0, offOf A0 + ((IntKind.i64.wrap (z10 - 1)).toNat) * 1, none⟩ (.int .i64 e8)]) (by kernel_rfl) ⟨RdL.cell (j := 0) (hS70.rdAt 2 rfl) hx8 rfl, trivial⟩ (mem_one (by kernel_rfl)) ?_
      refine go2_batch [10, 11] (ans := []) (vs := [(124, .int .i64 z10), (123, (.slice A0 m4.length c0))]) (l := []) (by kernel_rfl) trivial mem_nil ?_
      by_cases hc16 : 0 ≤ z10
      · rw [if_pos hc16] at h
        rcases hx9 : m4[(z10).toNat]? with _ | e9
        · rw [hx9] at h; cases h
        rw [hx9] at h
        simp only [] at h
        refine go2_index (d := 125) (ty := 0) (t := 24) (el := 3) (sz := 1) (m := m4.length) (c := c0) (x := (.tmp 123)) (y := (.tmp 124)) (A := A0) (k' := .i64) (j := z10) (jn := ((z10).toNat)) (b0 := blkOf A0) (o0 := offOf A0) (by kernel_rfl) (by kernel_rfl) (by kernel_rfl) (by kernel_rfl) (by kernel_rfl) ((hS70.rdAt 2 rfl).eqSome (pos_of_get hx9)) (Int.toNat_of_nonneg hc16).symm (lt_of_get hx9) ?_
        refine go2_batch [13] (ans := [.val (.int .i64 e9)]) (vs := [(126, .int .i64 e9)]) (l := [.loaded ⟨blkOf A0, offOf A0 + ((z10).toNat) * 1, none⟩ (.int .i64 e9)]) (by kernel_rfl) ⟨RdL.cell (j := 0) (hS70.rdAt 2 rfl) hx9 rfl, trivial⟩ (mem_one (by kernel_rfl)) ?_
        refine go2_index (d := 127) (ty := 0) (t := 24) (el := 3) (sz := 1) (m := m4.length) (c := c0) (x := (.tmp 113)) (y := (.tmp 114)) (A := A0) (k' := .i64) (j := z10) (jn := ((z10).toNat)) (b0 := blkOf A0) (o0 := offOf A0) (by kernel_rfl) (by kernel_rfl) (by kernel_rfl) (by kernel_rfl) (by kernel_rfl) ((hS70.rdAt 2 rfl).eqSome (pos_of_get hx9)) (Int.toNat_of_nonneg hc16).symm (lt_of_get hx9) ?_
        refine go_alt2 (fun KK hKK => ?_) ?_
        · have hS71 := hS70.bring 2 rfl
          refine ge_seti (α := Int) (A := A0) (nn := m4.length) (c := c0) (t := 3) (l := m4) (x := e9) (x' := e8) (jn := ((z10).toNat)) (j := 0) (vs := [.int .i64 e8]) (l' := [.stored ⟨blkOf A0, offOf A0 + ((z10).toNat) * 1, none⟩ (.int .i64 e8)]) hS71 (by kernel_rfl) (by kernel_rfl) hx9 rfl rfl rfl fun w8 hS72 => ?_
          have hS73 : St w0 w8 [Own.of (.slice A0 m4.length c0) 3 (m4.set ((z10).toNat) e8), Own.blk bg4_0 (.cells #[.func (.func 37) #[] #[]] 74 (0, 0)), Own.blk bg4_1 (.cells #[.slice Ag4_1 lg4_1.length cg4_1] 22 (0, 0)), Own.all LT] := hS72
          have hE3 : m4.length = (m4.set ((z10).toNat) e8).length := hS73.lenAt 0 rfl
          have hS74 : St w0 w8 [Own.of (.slice A0 (m4.set ((z10).toNat) e8).length c0) 3 (m4.set ((z10).toNat) e8), Own.blk bg4_0 (.cells #[.func (.func 37) #[] #[]] 74 (0, 0)), Own.blk bg4_1 (.cells #[.slice Ag4_1 lg4_1.length cg4_1] 22 (0, 0)), Own.all LT] := by rw [← hE3]; exact hS73
          refine ge_same (t := 0) (v := (.slice A0 m4.length c0)) (v' := (.slice A0 (m4.set ((z10).toNat) e8).length c0)) (by kernel_rfl) (by rw [hE3]) ?_
          refine ge_same (t := 113) (v := (.slice A0 m4.length c0)) (v' := (.slice A0 (m4.set ((z10).toNat) e8).length c0)) (by kernel_rfl) (by rw [hE3]) ?_
          refine ge_same (t := 115) (v := (.slice A0 m4.length c0)) (v' := (.slice A0 (m4.set ((z10).toNat) e8).length c0)) (by kernel_rfl) (by rw [hE3]) ?_
          refine ge_same (t := 118) (v := (.slice A0 m4.length c0)) (v' := (.slice A0 (m4.set ((z10).toNat) e8).length c0)) (by kernel_rfl) (by rw [hE3]) ?_
          refine ge_same (t := 123) (v := (.slice A0 m4.length c0)) (v' := (.slice A0 (m4.set ((z10).toNat) e8).length c0)) (by kernel_rfl) (by rw [hE3]) ?_
          refine ge_nil fun a hF => hKK _ _ (RS.of2 (l := []) (by kernel_rfl) trivial trivial) ?_ a hF
          rcases hx10 : (m4.set ((z10).toNat) e8)[(IntKind.i64.wrap (z10 - 1)).toNat]? with _ | e10
          · rw [hx10] at h; cases h
          rw [hx10] at h
          simp only [] at h
          refine go2_index (d := 128) (ty := 0) (t := 24) (el := 3) (sz := 1) (m := (m4.set ((z10).toNat) e8).length) (c := c0) (x := (.tmp 115)) (y := (.tmp 117)) (A := A0) (k' := .i64) (j := (IntKind.i64.wrap (z10 - 1))) (jn := ((IntKind.i64.wrap (z10 - 1)).toNat)) (b0 := blkOf A0) (o0 := offOf A0) (by kernel_rfl) (by kernel_rfl) (by kernel_rfl) (by kernel_rfl) (by kernel_rfl) ((hS74.rdAt 0 rfl).eqSome (pos_of_get hx10)) (Int.toNat_of_nonneg hc15).symm (lt_of_get hx10) ?_
          refine go_alt2 (fun KK hKK => ?_) ?_
          · refine ge_seti (α := Int) (A := A0) (nn := ((m4.set ((z10).toNat) e8).length)) (c := c0) (t := 3) (l := (m4.set ((z10).toNat) e8)) (x := e10) (x' := e9) (jn := ((IntKind.i64.wrap (z10 - 1)).toNat)) (j := 0) (vs := [.int .i64 e9]) (l' := [.stored ⟨blkOf A0, offOf A0 + ((IntKind.i64.wrap (z10 - 1)).toNat) * 1, none⟩ (.int .i64 e9)]) hS74 (by kernel_rfl) (by kernel_rfl) hx10 rfl rfl rfl fun w9 hS75 => ?_
            have hS76 : St w0 w9 [Own.of (.slice A0 (m4.set ((z10).toNat) e8).length c0) 3 ((m4.set ((z10).toNat) e8).set ((IntKind.i64.wrap (z10 - 1)).toNat) e9), Own.blk bg4_0 (.cells #[.func (.func 37) #[] #[]] 74 (0, 0)), Own.blk bg4_1 (.cells #[.slice Ag4_1 lg4_1.length cg4_1] 22 (0, 0)), Own.all LT] := hS75
            have hE4 : (m4.set ((z10).toNat) e8).length = ((m4.set ((z10).toNat) e8).set ((IntKind.i64.wrap (z10 - 1)).toNat) e9).length := hS76.lenAt 0 rfl
            have hS77 : St w0 w9 [Own.of (.slice A0 ((m4.set ((z10).toNat) e8).set ((IntKind.i64.wrap (z10 - 1)).toNat) e9).length c0) 3 ((m4.set ((z10).toNat) e8).set ((IntKind.i64.wrap (z10 - 1)).toNat) e9), Own.blk bg4_0 (.cells #[.func (.func 37) #[] #[]] 74 (0, 0)), Own.blk bg4_1 (.cells #[.slice Ag4_1 lg4_1.length cg4_1] 22 (0, 0)), Own.all LT] := by rw [← hE4]; exact hS76
            refine ge_same (t := 0) (v := (.slice A0 (m4.set ((z10).toNat) e8).length c0)) (v' := (.slice A0 ((m4.set ((z10).toNat) e8).set ((IntKind.i64.wrap (z10 - 1)).toNat) e9).length c0)) (by kernel_rfl) (by rw [hE4]) ?_
            refine ge_same (t := 113) (v := (.slice A0 (m4.set ((z10).toNat) e8).length c0)) (v' := (.slice A0 ((m4.set ((z10).toNat) e8).set ((IntKind.i64.wrap (z10 - 1)).toNat) e9).length c0)) (by kernel_rfl) (by rw [hE4]) ?_
            refine ge_same (t := 115) (v := (.slice A0 (m4.set ((z10).toNat) e8).length c0)) (v' := (.slice A0 ((m4.set ((z10).toNat) e8).set ((IntKind.i64.wrap (z10 - 1)).toNat) e9).length c0)) (by kernel_rfl) (by rw [hE4]) ?_
            refine ge_same (t := 118) (v := (.slice A0 (m4.set ((z10).toNat) e8).length c0)) (v' := (.slice A0 ((m4.set ((z10).toNat) e8).set ((IntKind.i64.wrap (z10 - 1)).toNat) e9).length c0)) (by kernel_rfl) (by rw [hE4]) ?_
            refine ge_same (t := 123) (v := (.slice A0 (m4.set ((z10).toNat) e8).length c0)) (v' := (.slice A0 ((m4.set ((z10).toNat) e8).set ((IntKind.i64.wrap (z10 - 1)).toNat) e9).length c0)) (by kernel_rfl) (by rw [hE4]) ?_
            refine ge_nil fun a hF => hKK _ _ (RS.of2 (l := []) (by kernel_rfl) trivial trivial) ?_ a hF
            refine go_fin2 fun a hF => hK28 _ _ ?_ a hF
            refine we_region [(0, 0), (1, 0), (2, 0)] rfl ?_
            refine ge_batch [0, 1, 2] (ans := []) (vs := [(17, .int .i64 (IntKind.i64.wrap (z10 - 1))), (112, .int .i64 (IntKind.i64.wrap (z10 - 1))), (111, .int .i64 z10)]) (l := []) (by kernel_rfl) trivial ?_
            have hS78 := hS77.bring 3 rfl
            have hS79 := hS78.bring 1 rfl
            have hS80 := hS79.bring 3 rfl
            have hS81 := hS80.bring 3 rfl
            obtain rfl := Option.some.inj h
            exact ge_nil fun a hF => hQ _ _ _ (Outs.again ⟨(Eq.trans hLio3 (by simp only [List.length_set])), hS81, hF.weaken ⟨by kernel_rfl, by kernel_rfl, by kernel_rfl, by kernel_rfl, trivial⟩⟩)
          exact go_nomore2
        exact go_nomore2
      · rw [if_neg hc16] at h
        cases h
    · rw [if_neg hc15] at h
      cases h
  · rw [if_neg hc14] at h
    refine we_known (t := 110) (b := decide (z10 > z9)) (v := false) (by kernel_rfl) (decide_eq_false hc14) ?_
    refine we_false (by kernel_rfl) ?_
    have hS82 := hS.bring 3 rfl
    have hS83 := hS82.bring 3 rfl
    have hS84 := hS83.bring 3 rfl
    have hS85 := hS84.bring 3 rfl
    obtain rfl := Option.some.inj h
    exact we_exit fun a hF => hQ _ _ _ (Outs.out nofun (Exits.here ⟨hLio3, hS85, hF.weaken ⟨by kernel_rfl, by kernel_rfl, trivial⟩⟩))
abbrev slices_symMergeCmpFunc_int.A4 (K : Nat) (w0 : World) (l0 : List Int) (A0 : Option Addr) (c0 : Nat) (x1 : Int) (x2 : Int) (x3 : Int) (bg4_0 : Nat) (bg4_1 : Nat) (lg4_1 : List STask) (Ag4_1 : Option Addr) (cg4_1 : Nat) (LT : List Own) (hRg4_1 : RdL w0 Ag4_1 lg4_1) (hLg4_1 : lg4_1.length ≤ cg4_1) (recf : (List Int) → Int → Int → Int → (List STask) → Option (List Int)) (hrec : ∀ (l0 : List Int) (A0 : Option Addr) (c0 : Nat) (x1 : Int) (x2 : Int) (x3 : Int) (bg4_0 : Nat) (bg4_1 : Nat) (lg4_1 : List STask) (Ag4_1 : Option Addr) (cg4_1 : Nat) (w0 wE : World) (LT : List Own) (hS : St w0 wE [Own.of (.slice A0 l0.length c0) 3 l0, Own.blk bg4_0 (.cells #[.func (.func 37) #[] #[]] 74 (0, 0)), Own.blk bg4_1 (.cells #[.slice Ag4_1 lg4_1.length cg4_1] 22 (0, 0)), Own.all LT]) (hRg4_1 : RdL w0 Ag4_1 lg4_1) (hLg4_1 : lg4_1.length ≤ cg4_1) (r : List Int) (h : recf l0 x1 x2 x3 lg4_1 = some r), Calls Try.prog 79 #[(.slice A0 l0.length c0), .int .i64 x1, .int .i64 x2, .int .i64 x3, .func (.func 59) #[] #[.pointer (some ⟨bg4_0, 0, none⟩), .pointer (some ⟨bg4_1, 0, none⟩)]] wE (slices_symMergeCmpFunc_int.Post w0 l0 A0 c0 x1 x2 x3 bg4_0 bg4_1 lg4_1 Ag4_1 cg4_1 LT r)) (hc1 : ¬ ((IntKind.i64.wrap (x2 - x1)) = 1)) (hc9 : ¬ ((IntKind.i64.wrap (x3 - x2)) = 1)) : (Int × Int) → Act → World → Prop := fun (s : Int × Int) a w => St w0 w [Own.blk bg4_0 (.cells #[.func (.func 37) #[] #[]] 74 (0, 0)), Own.blk bg4_1 (.cells #[.slice Ag4_1 lg4_1.length cg4_1] 22 (0, 0)), Own.of (.slice A0 l0.length c0) 3 l0, Own.all LT] ∧ Frm 220 a [(0, (.slice A0 l0.length c0)), (1, .int .i64 x1), (2, .int .i64 x2), (3, .int .i64 x3), (4, .func (.func 59) #[] #[.pointer (some ⟨bg4_0, 0, none⟩), .pointer (some ⟨bg4_1, 0, none⟩)]), (18, .int .i64 (IntKind.i64.wrap (Int.fdiv (IntKind.u64.wrap (IntKind.i64.wrap (x1 + x3))) (2 ^ 1)))), (19, .int .i64 (IntKind.i64.wrap ((IntKind.i64.wrap (Int.fdiv (IntKind.u64.wrap (IntKind.i64.wrap (x1 + x3))) (2 ^ 1))) + x2))), (20, .int .i64 s.1), (21, .int .i64 s.2)]
abbrev slices_symMergeCmpFunc_int.B4 (K : Nat) (w0 : World) (l0 : List Int) (A0 : Option Addr) (c0 : Nat) (x1 : Int) (x2 : Int) (x3 : Int) (bg4_0 : Nat) (bg4_1 : Nat) (lg4_1 : List STask) (Ag4_1 : Option Addr) (cg4_1 : Nat) (LT : List Own) (hRg4_1 : RdL w0 Ag4_1 lg4_1) (hLg4_1 : lg4_1.length ≤ cg4_1) (recf : (List Int) → Int → Int → Int → (List STask) → Option (List Int)) (hrec : ∀ (l0 : List Int) (A0 : Option Addr) (c0 : Nat) (x1 : Int) (x2 : Int) (x3 : Int) (bg4_0 : Nat) (bg4_1 : Nat) (lg4_1 : List STask) (Ag4_1 : Option Addr) (cg4_1 : Nat) (w0 wE : World) (LT : List Own) (hS : St w0 wE [Own.of (.slice A0 l0.length c0) 3 l0, Own.blk bg4_0 (.cells #[.func (.func 37) #[] #[]] 74 (0, 0)), Own.blk bg4_1 (.cells #[.slice Ag4_1 lg4_1.length cg4_1] 22 (0, 0)), Own.all LT]) (hRg4_1 : RdL w0 Ag4_1 lg4_1) (hLg4_1 : lg4_1.length ≤ cg4_1) (r : List Int) (h : recf l0 x1 x2 x3 lg4_1 = some r), Calls Try.prog 79 #[(.slice A0 l0.length c0), .int .i64 x1, .int .i64 x2, .int .i64 x3, .func (.func 59) #[] #[.pointer (some ⟨bg4_0, 0, none⟩), .pointer (some ⟨bg4_1, 0, none⟩)]] wE (slices_symMergeCmpFunc_int.Post w0 l0 A0 c0 x1 x2 x3 bg4_0 bg4_1 lg4_1 Ag4_1 cg4_1 LT r)) (hc1 : ¬ ((IntKind.i64.wrap (x2 - x1)) = 1)) (hc9 : ¬ ((IntKind.i64.wrap (x3 - x2)) = 1)) : (List Int) → Exit → Act → World → Prop := Rets Try.prog Try.f79 (slices_symMergeCmpFunc_int.Post w0 l0 A0 c0 x1 x2 x3 bg4_0 bg4_1 lg4_1 Ag4_1 cg4_1 LT)
theorem slices_symMergeCmpFunc_int_p4 (K : Nat) (w0 : World) (l0 : List Int) (A0 : Option Addr) (c0 : Nat) (x1 : Int) (x2 : Int) (x3 : Int) (bg4_0 : Nat) (bg4_1 : Nat) (lg4_1 : List STask) (Ag4_1 : Option Addr) (cg4_1 : Nat) (LT : List Own) (hRg4_1 : RdL w0 Ag4_1 lg4_1) (hLg4_1 : lg4_1.length ≤ cg4_1) (recf : (List Int) → Int → Int → Int → (List STask) → Option (List Int)) (hrec : ∀ (l0 : List Int) (A0 : Option Addr) (c0 : Nat) (x1 : Int) (x2 : Int) (x3 : Int) (bg4_0 : Nat) (bg4_1 : Nat) (lg4_1 : List STask) (Ag4_1 : Option Addr) (cg4_1 : Nat) (w0 wE : World) (LT : List Own) (hS : St w0 wE [Own.of (.slice A0 l0.length c0) 3 l0, Own.blk bg4_0 (.cells #[.func (.func 37) #[] #[]] 74 (0, 0)), Own.blk bg4_1 (.cells #[.slice Ag4_1 lg4_1.length cg4_1] 22 (0, 0)), Own.all LT]) (hRg4_1 : RdL w0 Ag4_1 lg4_1) (hLg4_1 : lg4_1.length ≤ cg4_1) (r : List Int) (h : recf l0 x1 x2 x3 lg4_1 = some r), Calls Try.prog 79 #[(.slice A0 l0.length c0), .int .i64 x1, .int .i64 x2, .int .i64 x3, .func (.func 59) #[] #[.pointer (some ⟨bg4_0, 0, none⟩), .pointer (some ⟨bg4_1, 0, none⟩)]] wE (slices_symMergeCmpFunc_int.Post w0 l0 A0 c0 x1 x2 x3 bg4_0 bg4_1 lg4_1 Ag4_1 cg4_1 LT r)) (hc1 : ¬ ((IntKind.i64.wrap (x2 - x1)) = 1)) (hc9 : ¬ ((IntKind.i64.wrap (x3 - x2)) = 1)) (o : (Int × Int) ⊕ (List Int)) (h : slices_symMergeCmpFunc_int.p4 x1 x2 x3 = some o) (w : World) (hS : St w0 w [Own.of (.slice A0 l0.length c0) 3 l0, Own.blk bg4_0 (.cells #[.func (.func 37) #[] #[]] 74 (0, 0)), Own.blk bg4_1 (.cells #[.slice Ag4_1 lg4_1.length cg4_1] 22 (0, 0)), Own.all LT]) (Q : Exit → Act → World → Prop) (hQ : ∀ x a w, Outs (slices_symMergeCmpFunc_int.A4 K w0 l0 A0 c0 x1 x2 x3 bg4_0 bg4_1 lg4_1 Ag4_1 cg4_1 LT hRg4_1 hLg4_1 recf hrec hc1 hc9) (slices_symMergeCmpFunc_int.B4 K w0 l0 A0 c0 x1 x2 x3 bg4_0 bg4_1 lg4_1 Ag4_1 cg4_1 LT hRg4_1 hLg4_1 recf hrec hc1 hc9) o x a w → Q x a w) : WE Try.prog 220 (subF Try.f79 [1, 1, 1, 1, 1, 0]) Q [(0, (.slice A0 l0.length c0)), (1, .int .i64 x1), (2, .int .i64 x2), (3, .int .i64 x3), (4, .func (.func 59) #[] #[.pointer (some ⟨bg4_0, 0, none⟩), .pointer (some ⟨bg4_1, 0, none⟩)]), (18, .int .i64 (IntKind.i64.wrap (Int.fdiv (IntKind.u64.wrap (IntKind.i64.wrap (x1 + x3))) (2 ^ 1)))), (19, .int .i64 (IntKind.i64.wrap ((IntKind.i64.wrap (Int.fdiv (IntKind.u64.wrap (IntKind.i64.wrap (x1 + x3))) (2 ^ 1))) + x2))), (20, .int .i64 0), (21, .int .i64 0), (25, .int .i64 x2), (26, .int .i64 x1), (27, .int .i64 (IntKind.i64.wrap (x2 - x1))), (28, .bool false), (77, .int .i64 x3), (78, .int .i64 x2), (79, .int .i64 (IntKind.i64.wrap (x3 - x2))), (80, .bool false), (129, .int .i64 x1), (130, .int .i64 x3), (131, .int .i64 (IntKind.i64.wrap (x1 + x3))), (132, .int .u64 (IntKind.u64.wrap (IntKind.i64.wrap (x1 + x3)))), (133, .int .u64 (Int.fdiv (IntKind.u64.wrap (IntKind.i64.wrap (x1 + x3))) (2 ^ 1))), (134, .int .i64 (IntKind.i64.wrap (Int.fdiv (IntKind.u64.wrap (IntKind.i64.wrap (x1 + x3))) (2 ^ 1)))), (135, .int .i64 (IntKind.i64.wrap (Int.fdiv (IntKind.u64.wrap (IntKind.i64.wrap (x1 + x3))) (2 ^ 1)))), (136, .int .i64 x2), (137, .int .i64 (IntKind.i64.wrap ((IntKind.i64.wrap (Int.fdiv (IntKind.u64.wrap (IntKind.i64.wrap (x1 + x3))) (2 ^ 1))) + x2)))] w := by
  simp only [slices_symMergeCmpFunc_int.p4] at h
  refine we_seq fun K33 hK33 => ?_
  refine we_region [(0, 0), (1, 0), (2, 0)] rfl ?_
  refine ge_batch [0, 1, 2] (ans := []) (vs := [(140, .bool (decide (x2 > (IntKind.i64.wrap (Int.fdiv (IntKind.u64.wrap (IntKind.i64.wrap (x1 + x3))) (2 ^ 1)))))), (139, .int .i64 (IntKind.i64.wrap (Int.fdiv (IntKind.u64.wrap (IntKind.i64.wrap (x1 + x3))) (2 ^ 1)))), (138, .int .i64 x2)]) (l := []) (by kernel_rfl) trivial ?_
  refine ge_nil fun a hF => hK33 _ _ ?_ a hF
  by_cases hc17 : x2 > (IntKind.i64.wrap (Int.fdiv (IntKind.u64.wrap (IntKind.i64.wrap (x1 + x3))) (2 ^ 1)))
  · rw [if_pos hc17] at h
    refine we_known (t := 140) (b := decide (x2 > (IntKind.i64.wrap (Int.fdiv (IntKind.u64.wrap (IntKind.i64.wrap (x1 + x3))) (2 ^ 1))))) (v := true) (by kernel_rfl) (decide_eq_true hc17) ?_
    refine we_true (by kernel_rfl) ?_
    refine we_seq fun K34 hK34 => ?_
    refine we_region [(0, 0), (1, 0), (2, 0), (3, 0)] rfl ?_
    refine ge_batch [0, 1, 2, 3] (ans := []) (vs := [(20, .int .i64 (IntKind.i64.wrap ((IntKind.i64.wrap ((IntKind.i64.wrap (Int.fdiv (IntKind.u64.wrap (IntKind.i64.wrap (x1 + x3))) (2 ^ 1))) + x2)) - x3))), (143, .int .i64 (IntKind.i64.wrap ((IntKind.i64.wrap ((IntKind.i64.wrap (Int.fdiv (IntKind.u64.wrap (IntKind.i64.wrap (x1 + x3))) (2 ^ 1))) + x2)) - x3))), (142, .int .i64 x3), (141, .int .i64 (IntKind.i64.wrap ((IntKind.i64.wrap (Int.fdiv (IntKind.u64.wrap (IntKind.i64.wrap (x1 + x3))) (2 ^ 1))) + x2)))]) (l := []) (by kernel_rfl) trivial ?_
    refine ge_nil fun a hF => hK34 _ _ ?_ a hF
    refine we_region [(0, 0), (1, 0)] rfl ?_
    refine ge_batch [0, 1] (ans := []) (vs := [(21, .int .i64 (IntKind.i64.wrap (Int.fdiv (IntKind.u64.wrap (IntKind.i64.wrap (x1 + x3))) (2 ^ 1)))), (144, .int .i64 (IntKind.i64.wrap (Int.fdiv (IntKind.u64.wrap (IntKind.i64.wrap (x1 + x3))) (2 ^ 1))))]) (l := []) (by kernel_rfl) trivial ?_
    have hS91 := hS.bring 3 rfl
    have hS92 := hS91.bring 1 rfl
    have hS93 := hS92.bring 3 rfl
    have hS94 := hS93.bring 3 rfl
    obtain rfl := Option.some.inj h
    exact ge_nil fun a hF => hQ _ _ _ (Outs.again ⟨hS94, hF.weaken ⟨by kernel_rfl, by kernel_rfl, by kernel_rfl, by kernel_rfl, by kernel_rfl, by kernel_rfl, by kernel_rfl, by kernel_rfl, by kernel_rfl, trivial⟩⟩)
  · rw [if_neg hc17] at h
    refine we_known (t := 140) (b := decide (x2 > (IntKind.i64.wrap (Int.fdiv (IntKind.u64.wrap (IntKind.i64.wrap (x1 + x3))) (2 ^ 1))))) (v := false) (by kernel_rfl) (decide_eq_false hc17) ?_
    refine we_false (by kernel_rfl) ?_
    refine we_seq fun K35 hK35 => ?_
    refine we_region [(0, 0), (1, 0)] rfl ?_
    refine ge_batch [0, 1] (ans := []) (vs := [(20, .int .i64 x1), (145, .int .i64 x1)]) (l := []) (by kernel_rfl) trivial ?_
    refine ge_nil fun a hF => hK35 _ _ ?_ a hF
    refine we_region [(0, 0), (1, 0)] rfl ?_
    refine ge_batch [0, 1] (ans := []) (vs := [(21, .int .i64 x2), (146, .int .i64 x2)]) (l := []) (by kernel_rfl) trivial ?_
    have hS95 := hS.bring 3 rfl
    have hS96 := hS95.bring 1 rfl
    have hS97 := hS96.bring 3 rfl
    have hS98 := hS97.bring 3 rfl
    obtain rfl := Option.some.inj h
    exact ge_nil fun a hF => hQ _ _ _ (Outs.again ⟨hS98, hF.weaken ⟨by kernel_rfl, by kernel_rfl, by kernel_rfl, by kernel_rfl, by kernel_rfl, by kernel_rfl, by kernel_rfl, by kernel_rfl, by kernel_rfl, trivial⟩⟩)
abbrev slices_symMergeCmpFunc_int.A5 (K : Nat) (w0 : World) (l0 : List Int) (A0 : Option Addr) (c0 : Nat) (x1 : Int) (x2 : Int) (x3 : Int) (bg4_0 : Nat) (bg4_1 : Nat) (lg4_1 : List STask) (Ag4_1 : Option Addr) (cg4_1 : Nat) (LT : List Own) (hRg4_1 : RdL w0 Ag4_1 lg4_1) (hLg4_1 : lg4_1.length ≤ cg4_1) (recf : (List Int) → Int → Int → Int → (List STask) → Option (List Int)) (hrec : ∀ (l0 : List Int) (A0 : Option Addr) (c0 : Nat) (x1 : Int) (x2 : Int) (x3 : Int) (bg4_0 : Nat) (bg4_1 : Nat) (lg4_1 : List STask) (Ag4_1 : Option Addr) (cg4_1 : Nat) (w0 wE : World) (LT : List Own) (hS : St w0 wE [Own.of (.slice A0 l0.length c0) 3 l0, Own.blk bg4_0 (.cells #[.func (.func 37) #[] #[]] 74 (0, 0)), Own.blk bg4_1 (.cells #[.slice Ag4_1 lg4_1.length cg4_1] 22 (0, 0)), Own.all LT]) (hRg4_1 : RdL w0 Ag4_1 lg4_1) (hLg4_1 : lg4_1.length ≤ cg4_1) (r : List Int) (h : recf l0 x1 x2 x3 lg4_1 = some r), Calls Try.prog 79 #[(.slice A0 l0.length c0), .int .i64 x1, .int .i64 x2, .int .i64 x3, .func (.func 59) #[] #[.pointer (some ⟨bg4_0, 0, none⟩), .pointer (some ⟨bg4_1, 0, none⟩)]] wE (slices_symMergeCmpFunc_int.Post w0 l0 A0 c0 x1 x2 x3 bg4_0 bg4_1 lg4_1 Ag4_1 cg4_1 LT r)) (hc1 : ¬ ((IntKind.i64.wrap (x2 - x1)) = 1)) (hc9 : ¬ ((IntKind.i64.wrap (x3 - x2)) = 1)) (z13 : Int) (z14 : Int) : (Int × Int) → Act → World → Prop := fun (s : Int × Int) a w => St w0 w [Own.blk bg4_0 (.cells #[.func (.func 37) #[] #[]] 74 (0, 0)), Own.blk bg4_1 (.cells #[.slice Ag4_1 lg4_1.length cg4_1] 22 (0, 0)), Own.of (.slice A0 l0.length c0) 3 l0, Own.all LT] ∧ Frm 220 a [(0, (.slice A0 l0.length c0)), (1, .int .i64 x1), (2, .int .i64 x2), (3, .int .i64 x3), (4, .func (.func 59) #[] #[.pointer (some ⟨bg4_0, 0, none⟩), .pointer (some ⟨bg4_1, 0, none⟩)]), (18, .int .i64 (IntKind.i64.wrap (Int.fdiv (IntKind.u64.wrap (IntKind.i64.wrap (x1 + x3))) (2 ^ 1)))), (19, .int .i64 (IntKind.i64.wrap ((IntKind.i64.wrap (Int.fdiv (IntKind.u64.wrap (IntKind.i64.wrap (x1 + x3))) (2 ^ 1))) + x2))), (20, .int .i64 s.1), (21, .int .i64 s.2), (22, .int .i64 (IntKind.i64.wrap ((IntKind.i64.wrap ((IntKind.i64.wrap (Int.fdiv (IntKind.u64.wrap (IntKind.i64.wrap (x1 + x3))) (2 ^ 1))) + x2)) - 1)))]
abbrev slices_symMergeCmpFunc_int.B5 (K : Nat) (w0 : World) (l0 : List Int) (A0 : Option Addr) (c0 : Nat) (x1 : Int) (x2 : Int) (x3 : Int) (bg4_0 : Nat) (bg4_1 : Nat) (lg4_1 : List STask) (Ag4_1 : Option Addr) (cg4_1 : Nat) (LT : List Own) (hRg4_1 : RdL w0 Ag4_1 lg4_1) (hLg4_1 : lg4_1.length ≤ cg4_1) (recf : (List Int) → Int → Int → Int → (List STask) → Option (List Int)) (hrec : ∀ (l0 : List Int) (A0 : Option Addr) (c0 : Nat) (x1 : Int) (x2 : Int) (x3 : Int) (bg4_0 : Nat) (bg4_1 : Nat) (lg4_1 : List STask) (Ag4_1 : Option Addr) (cg4_1 : Nat) (w0 wE : World) (LT : List Own) (hS : St w0 wE [Own.of (.slice A0 l0.length c0) 3 l0, Own.blk bg4_0 (.cells #[.func (.func 37) #[] #[]] 74 (0, 0)), Own.blk bg4_1 (.cells #[.slice Ag4_1 lg4_1.length cg4_1] 22 (0, 0)), Own.all LT]) (hRg4_1 : RdL w0 Ag4_1 lg4_1) (hLg4_1 : lg4_1.length ≤ cg4_1) (r : List Int) (h : recf l0 x1 x2 x3 lg4_1 = some r), Calls Try.prog 79 #[(.slice A0 l0.length c0), .int .i64 x1, .int .i64 x2, .int .i64 x3, .func (.func 59) #[] #[.pointer (some ⟨bg4_0, 0, none⟩), .pointer (some ⟨bg4_1, 0, none⟩)]] wE (slices_symMergeCmpFunc_int.Post w0 l0 A0 c0 x1 x2 x3 bg4_0 bg4_1 lg4_1 Ag4_1 cg4_1 LT r)) (hc1 : ¬ ((IntKind.i64.wrap (x2 - x1)) = 1)) (hc9 : ¬ ((IntKind.i64.wrap (x3 - x2)) = 1)) (z13 : Int) (z14 : Int) : (Int ⊕ (List Int)) → Exit → Act → World → Prop := Exits 8 (fun (s : Int) a w => St w0 w [Own.blk bg4_0 (.cells #[.func (.func 37) #[] #[]] 74 (0, 0)), Own.blk bg4_1 (.cells #[.slice Ag4_1 lg4_1.length cg4_1] 22 (0, 0)), Own.of (.slice A0 l0.length c0) 3 l0, Own.all LT] ∧ Frm 220 a [(0, (.slice A0 l0.length c0)), (1, .int .i64 x1), (2, .int .i64 x2), (3, .int .i64 x3), (4, .func (.func 59) #[] #[.pointer (some ⟨bg4_0, 0, none⟩), .pointer (some ⟨bg4_1, 0, none⟩)]), (18, .int .i64 (IntKind.i64.wrap (Int.fdiv (IntKind.u64.wrap (IntKind.i64.wrap (x1 + x3))) (2 ^ 1)))), (19, .int .i64 (IntKind.i64.wrap ((IntKind.i64.wrap (Int.fdiv (IntKind.u64.wrap (IntKind.i64.wrap (x1 + x3))) (2 ^ 1))) + x2))), (20, .int .i64 s)]) (Rets Try.prog Try.f79 (slices_symMergeCmpFunc_int.Post w0 l0 A0 c0 x1 x2 x3 bg4_0 bg4_1 lg4_1 Ag4_1 cg4_1 LT))
theorem slices_symMergeCmpFunc_int_r5 (K : Nat) (w0 : World) (l0 : List Int) (A0 : Option Addr) (c0 : Nat) (x1 : Int) (x2 : Int) (x3 : Int) (bg4_0 : Nat) (bg4_1 : Nat) (lg4_1 : List STask) (Ag4_1 : Option Addr) (cg4_1 : Nat) (LT : List Own) (hRg4_1 : RdL w0 Ag4_1 lg4_1) (hLg4_1 : lg4_1.length ≤ cg4_1) (recf : (List Int) → Int → Int → Int → (List STask) → Option (List Int)) (hrec : ∀ (l0 : List Int) (A0 : Option Addr) (c0 : Nat) (x1 : Int) (x2 : Int) (x3 : Int) (bg4_0 : Nat) (bg4_1 : Nat) (lg4_1 : List STask) (Ag4_1 : Option Addr) (cg4_1 : Nat) (w0 wE : World) (LT : List Own) (hS : St w0 wE [Own.of (.slice A0 l0.length c0) 3 l0, Own.blk bg4_0 (.cells #[.func (.func 37) #[] #[]] 74 (0, 0)), Own.blk bg4_1 (.cells #[.slice Ag4_1 lg4_1.length cg4_1] 22 (0, 0)), Own.all LT]) (hRg4_1 : RdL w0 Ag4_1 lg4_1) (hLg4_1 : lg4_1.length ≤ cg4_1) (r : List Int) (h : recf l0 x1 x2 x3 lg4_1 = some r), Calls Try.prog 79 #[(.slice A0 l0.length c0), .int .i64 x1, .int .i64 x2, .int .i64 x3, .func (.func 59) #[] #[.pointer (some ⟨bg4_0, 0, none⟩), .pointer (some ⟨bg4_1, 0, none⟩)]] wE (slices_symMergeCmpFunc_int.Post w0 l0 A0 c0 x1 x2 x3 bg4_0 bg4_1 lg4_1 Ag4_1 cg4_1 LT r)) (hc1 : ¬ ((IntKind.i64.wrap (x2 - x1)) = 1)) (hc9 : ¬ ((IntKind.i64.wrap (x3 - x2)) = 1)) (z13 : Int) (z14 : Int) (s : Int × Int) (o : (Int × Int) ⊕ (Int ⊕ (List Int))) (h : slices_symMergeCmpFunc_int.r5 l0 x1 x2 x3 lg4_1 s = some o) (a : Act) (w : World) (hA : slices_symMergeCmpFunc_int.A5 K w0 l0 A0 c0 x1 x2 x3 bg4_0 bg4_1 lg4_1 Ag4_1 cg4_1 LT hRg4_1 hLg4_1 recf hrec hc1 hc9 z13 z14 s a w) (Q : Exit → Act → World → Prop) (hQ : ∀ x a w, Outs (slices_symMergeCmpFunc_int.A5 K w0 l0 A0 c0 x1 x2 x3 bg4_0 bg4_1 lg4_1 Ag4_1 cg4_1 LT hRg4_1 hLg4_1 recf hrec hc1 hc9 z13 z14) (slices_symMergeCmpFunc_int.B5 K w0 l0 A0 c0 x1 x2 x3 bg4_0 bg4_1 lg4_1 Ag4_1 cg4_1 LT hRg4_1 hLg4_1 recf hrec hc1 hc9 z13 z14) o x a w → Q x a w) : (subF Try.f79 [1, 1, 1, 1, 1, 1, 1, 0, 0, 0]).wp Try.prog Q a w := by
  obtain ⟨z15, z16⟩ := s
  obtain ⟨hS, hF⟩ := hA
  replace hS : St w0 w [Own.blk bg4_0 (.cells #[.func (.func 37) #[] #[]] 74 (0, 0)), Own.blk bg4_1 (.cells #[.slice Ag4_1 lg4_1.length cg4_1] 22 (0, 0)), Own.of (.slice A0 l0.length c0) 3 l0, Own.all LT] := hS
  simp only [slices_symMergeCmpFunc_int.r5] at h
  refine (?_ : WE Try.prog 220 (subF Try.f79 [1, 1, 1, 1, 1, 1, 1, 0, 0, 0]) Q [(0, (.slice A0 l0.length c0)), (1, .int .i64 x1), (2, .int .i64 x2), (3, .int .i64 x3), (4, .func (.func 59) #[] #[.pointer (some ⟨bg4_0, 0, none⟩), .pointer (some ⟨bg4_1, 0, none⟩)]), (18, .int .i64 (IntKind.i64.wrap (Int.fdiv (IntKind.u64.wrap (IntKind.i64.wrap (x1 + x3))) (2 ^ 1)))), (19, .int .i64 (IntKind.i64.wrap ((IntKind.i64.wrap (Int.fdiv (IntKind.u64.wrap (IntKind.i64.wrap (x1 + x3))) (2 ^ 1))) + x2))), (20, .int .i64 z15), (21, .int .i64 z16), (22, .int .i64 (IntKind.i64.wrap ((IntKind.i64.wrap ((IntKind.i64.wrap (Int.fdiv (IntKind.u64.wrap (IntKind.i64.wrap (x1 + x3))) (2 ^ 1))) + x2)) - 1)))] w) a hF
  clear hF a
  refine we_seq fun K38 hK38 => ?_
  refine we_seq fun K39 hK39 => ?_
  refine we_region [(0, 0), (1, 0), (2, 0)] rfl ?_
  refine ge_batch [0, 1, 2] (ans := []) (vs := [(151, .bool (decide (z15 < z16))), (150, .int .i64 z16), (149, .int .i64 z15)]) (l := []) (by kernel_rfl) trivial ?_
  refine ge_nil fun a hF => hK39 _ _ ?_ a hF
  by_cases hc18 : z15 < z16
  · rw [if_pos hc18] at h
    refine we_known (t := 151) (b := decide (z15 < z16)) (v := true) (by kernel_rfl) (decide_eq_true hc18) ?_
    refine we_true (by kernel_rfl) ?_
    refine we_skip fun a hF => hK38 _ _ ?_ a hF
    refine we_block ?_
    refine we_seq fun K40 hK40 => ?_
    refine we_region [(0, 0), (1, 0), (2, 0), (3, 0), (4, 0), (5, 0), (6, 0)] rfl ?_
    refine ge_batch [0, 1, 2, 3, 4, 5, 6] (ans := []) (vs := [(23, .int .i64 (IntKind.i64.wrap (Int.fdiv (IntKind.u64.wrap (IntKind.i64.wrap (z15 + z16))) (2 ^ 1)))), (157, .int .i64 (IntKind.i64.wrap (Int.fdiv (IntKind.u64.wrap (IntKind.i64.wrap (z15 + z16))) (2 ^ 1)))), (156, .int .u64 (Int.fdiv (IntKind.u64.wrap (IntKind.i64.wrap (z15 + z16))) (2 ^ 1))), (155, .int .u64 (IntKind.u64.wrap (IntKind.i64.wrap (z15 + z16)))), (154, .int .i64 (IntKind.i64.wrap (z15 + z16))), (153, .int .i64 z16), (152, .int .i64 z15)]) (l := []) (by kernel_rfl) trivial ?_
    refine ge_nil fun a hF => hK40 _ _ ?_ a hF
    refine we_seq fun K41 hK41 => ?_
    refine we_draws (by kernel_rfl) [(0, 0), (1, 0), (2, 0), (3, 0), (4, 0), (5, 0), (6, 0), (7, 0), (8, 0), (9, 0), (10, 0), (11, 1), (12, 0), (13, 0)] (by kernel_rfl) ?_
    have hS104 := hS.drew
    refine ge_batch [0, 1, 2, 3, 4] (ans := []) (vs := [(162, .int .i64 (IntKind.i64.wrap ((IntKind.i64.wrap ((IntKind.i64.wrap ((IntKind.i64.wrap (Int.fdiv (IntKind.u64.wrap (IntKind.i64.wrap (x1 + x3))) (2 ^ 1))) + x2)) - 1)) - (IntKind.i64.wrap (Int.fdiv (IntKind.u64.wrap (IntKind.i64.wrap (z15 + z16))) (2 ^ 1)))))), (161, .int .i64 (IntKind.i64.wrap (Int.fdiv (IntKind.u64.wrap (IntKind.i64.wrap (z15 + z16))) (2 ^ 1)))), (160, .int .i64 (IntKind.i64.wrap ((IntKind.i64.wrap ((IntKind.i64.wrap (Int.fdiv (IntKind.u64.wrap (IntKind.i64.wrap (x1 + x3))) (2 ^ 1))) + x2)) - 1))), (159, (.slice A0 l0.length c0)), (158, .func (.func 59) #[] #[.pointer (some ⟨bg4_0, 0, none⟩), .pointer (some ⟨bg4_1, 0, none⟩)])]) (l := []) (by kernel_rfl) trivial ?_
    by_cases hc19 : 0 ≤ (IntKind.i64.wrap ((IntKind.i64.wrap ((IntKind.i64.wrap ((IntKind.i64.wrap (Int.fdiv (IntKind.u64.wrap (IntKind.i64.wrap (x1 + x3))) (2 ^ 1))) + x2)) - 1)) - (IntKind.i64.wrap (Int.fdiv (IntKind.u64.wrap (IntKind.i64.wrap (z15 + z16))) (2 ^ 1)))))
    · rw [if_pos hc19] at h
      rcases hx11 : l0[(IntKind.i64.wrap ((IntKind.i64.wrap ((IntKind.i64.wrap ((IntKind.i64.wrap (Int.fdiv (IntKind.u64.wrap (IntKind.i64.wrap (x1 + x3))) (2 ^ 1))) + x2)) - 1)) - (IntKind.i64.wrap (Int.fdiv (IntKind.u64.wrap (IntKind.i64.wrap (z15 + z16))) (2 ^ 1))))).toNat]? with _ | e11
      · rw [hx11] at h; cases h
      rw [hx11] at h
      simp only [] at h
      refine ge_index (d := 163) (ty := 0) (t := 24) (el := 3) (sz := 1) (m := l0.length) (c := c0) (x := (.tmp 159)) (y := (.tmp 162)) (A := A0) (k' := .i64) (j := (IntKind.i64.wrap ((IntKind.i64.wrap ((IntKind.i64.wrap ((IntKind.i64.wrap (Int.fdiv (IntKind.u64.wrap (IntKind.i64.wrap (x1 + x3))) (2 ^ 1))) + x2)) - 1)) - (IntKind.i64.wrap (Int.fdiv (IntKind.u64.wrap (IntKind.i64.wrap (z15 + z16))) (2 ^ 1)))))) (jn := ((IntKind.i64.wrap ((IntKind.i64.wrap ((IntKind.i64.wrap ((IntKind.i64.wrap (Int.fdiv (IntKind.u64.wrap (IntKind.i64.wrap (x1 + x3))) (2 ^ 1))) + x2)) - 1)) - (IntKind.i64.wrap (Int.fdiv (IntKind.u64.wrap (IntKind.i64.wrap (z15 + z16))) (2 ^ 1))))).toNat)) (b0 := blkOf A0) (o0 := offOf A0) (by kernel_rfl) (by kernel_rfl) (by kernel_rfl) (by kernel_rfl) (by kernel_rfl) ((hS104.rdAt 2 rfl).eqSome (pos_of_get hx11)) (Int.toNat_of_nonneg hc19).symm (lt_of_get hx11) ?_
      refine ge_batch [6, 7, 8] (ans := [.val (.int .i64 e11)]) (vs := [(166, .int .i64 (IntKind.i64.wrap (Int.fdiv (IntKind.u64.wrap (IntKind.i64.wrap (z15 + z16))) (2 ^ 1)))), (165, (.slice A0 l0.length c0)), (164, .int .i64 e11)]) (l := [.loaded ⟨blkOf A0, offOf A0 + ((IntKind.i64.wrap ((IntKind.i64.wrap ((IntKind.i64.wrap ((IntKind.i64.wrap (Int.fdiv (IntKind.u64.wrap (IntKind.i64.wrap (x1 + x3))) (2 ^ 1))) + x2)) - 1)) - (IntKind.i64.wrap (Int.fdiv (IntKind.u64.wrap (IntKind.i64.wrap (z15 + z16))) (2 ^ 1))))).toNat) * 1, none⟩ (.int .i64 e11)]) (by kernel_rfl) ⟨RdL.cell (j := 0) (hS104.rdAt 2 rfl) hx11 rfl, trivial⟩ ?_
      by_cases hc20 : 0 ≤ (IntKind.i64.wrap (Int.fdiv (IntKind.u64.wrap (IntKind.i64.wrap (z15 + z16))) (2 ^ 1)))
      · rw [if_pos hc20] at h
        rcases hx12 : l0[(IntKind.i64.wrap (Int.fdiv (IntKind.u64.wrap (IntKind.i64.wrap (z15 + z16))) (2 ^ 1))).toNat]? with _ | e12
        · rw [hx12] at h; cases h
        rw [hx12] at h
        simp only [] at h
        refine ge_index (d := 167) (ty := 0) (t := 24) (el := 3) (sz := 1) (m := l0.length) (c := c0) (x := (.tmp 165)) (y := (.tmp 166)) (A := A0) (k' := .i64) (j := (IntKind.i64.wrap (Int.fdiv (IntKind.u64.wrap (IntKind.i64.wrap (z15 + z16))) (2 ^ 1)))) (jn := ((IntKind.i64.wrap (Int.fdiv (IntKind.u64.wrap (IntKind.i64.wrap (z15 + z16))) (2 ^ 1))).toNat)) (b0 := blkOf A0) (o0 := offOf A0) (by kernel_rfl) (by kernel_rfl) (by kernel_rfl) (by kernel_rfl) (by kernel_rfl) ((hS104.rdAt 2 rfl).eqSome (pos_of_get hx12)) (Int.toNat_of_nonneg hc20).symm (lt_of_get hx12) ?_
        rcases hq8 : fixed_ranked_1.f e11 e12 lg4_1 with _ | r3
        · rw [hq8] at h; cases h
        rw [hq8] at h
        simp only [] at h
        refine ge_batch [10] (ans := [.val (.int .i64 e12)]) (vs := [(168, .int .i64 e12)]) (l := [.loaded ⟨blkOf A0, offOf A0 + ((IntKind.i64.wrap (Int.fdiv (IntKind.u64.wrap (IntKind.i64.wrap (z15 + z16))) (2 ^ 1))).toNat) * 1, none⟩ (.int .i64 e12)]) (by kernel_rfl) ⟨RdL.cell (j := 0) (hS104.rdAt 2 rfl) hx12 rfl, trivial⟩ ?_
        refine ge_call (d := some 169) (f := 59) (args := #[.int .i64 e11, .int .i64 e12, .pointer (some ⟨bg4_0, 0, none⟩), .pointer (some ⟨bg4_1, 0, none⟩)]) (by kernel_rfl) (fixed_ranked_1_ok e11 e12 bg4_0 bg4_1 lg4_1 Ag4_1 cg4_1 _ (hS104.globOf 0 rfl) (hS104.rd hRg4_1) hLg4_1 (hS104.globOf 1 rfl) _ hq8) ?_
        rintro _ w12 ⟨rfl, hS105⟩
        refine ⟨_, rfl, hS105.below, ?_⟩
        have hS106 := hS104.call hS105
        refine ge_batch [12, 13] (ans := []) (vs := [(171, .bool (!(decide (r3 < 0)))), (170, .bool (decide (r3 < 0)))]) (l := []) (by kernel_rfl) trivial ?_
        refine ge_nil fun a hF => hK41 _ _ ?_ a hF
        by_cases hc21 : r3 < 0
        · rw [if_pos hc21] at h
          refine we_known (t := 171) (b := !(decide (r3 < 0))) (v := false) (by kernel_rfl) (congrArg (fun z => !z) (decide_eq_true hc21)) ?_
          refine we_false (by kernel_rfl) ?_
          refine we_region [(0, 0), (1, 0)] rfl ?_
          refine ge_batch [0, 1] (ans := []) (vs := [(21, .int .i64 (IntKind.i64.wrap (Int.fdiv (IntKind.u64.wrap (IntKind.i64.wrap (z15 + z16))) (2 ^ 1)))), (174, .int .i64 (IntKind.i64.wrap (Int.fdiv (IntKind.u64.wrap (IntKind.i64.wrap (z15 + z16))) (2 ^ 1))))]) (l := []) (by kernel_rfl) trivial ?_
          have hS107 := hS106.bring 3 rfl
          have hS108 := hS107.bring 3 rfl
          have hS109 := hS108.bring 3 rfl
          have hS110 := hS109.bring 3 rfl
          obtain rfl := Option.some.inj h
          exact ge_nil fun a hF => hQ _ _ _ (Outs.again ⟨hS110, hF.weaken ⟨by kernel_rfl, by kernel_rfl, by kernel_rfl, by kernel_rfl, by kernel_rfl, by kernel_rfl, by kernel_rfl, by kernel_rfl, by kernel_rfl, by kernel_rfl, trivial⟩⟩)
        · rw [if_neg hc21] at h
          refine we_known (t := 171) (b := !(decide (r3 < 0))) (v := true) (by kernel_rfl) (congrArg (fun z => !z) (decide_eq_false hc21)) ?_
          refine we_true (by kernel_rfl) ?_
          refine we_region [(0, 0), (1, 0), (2, 0)] rfl ?_
          refine ge_batch [0, 1, 2] (ans := []) (vs := [(20, .int .i64 (IntKind.i64.wrap ((IntKind.i64.wrap (Int.fdiv (IntKind.u64.wrap (IntKind.i64.wrap (z15 + z16))) (2 ^ 1))) + 1))), (173, .int .i64 (IntKind.i64.wrap ((IntKind.i64.wrap (Int.fdiv (IntKind.u64.wrap (IntKind.i64.wrap (z15 + z16))) (2 ^ 1))) + 1))), (172, .int .i64 (IntKind.i64.wrap (Int.fdiv (IntKind.u64.wrap (IntKind.i64.wrap (z15 + z16))) (2 ^ 1))))]) (l := []) (by kernel_rfl) trivial ?_
          have hS111 := hS106.bring 3 rfl
          have hS112 := hS111.bring 3 rfl
          have hS113 := hS112.bring 3 rfl
          have hS114 := hS113.bring 3 rfl
          obtain rfl := Option.some.inj h
          exact ge_nil fun a hF => hQ _ _ _ (Outs.again ⟨hS114, hF.weaken ⟨by kernel_rfl, by kernel_rfl, by kernel_rfl, by kernel_rfl, by kernel_rfl, by kernel_rfl, by kernel_rfl, by kernel_rfl, by kernel_rfl, by kernel_rfl, trivial⟩⟩)
      · rw [if_neg hc20] at h
        cases h
    · rw [if_neg hc19] at h
      cases h
  · rw [if_neg hc18] at h
    refine we_known (t := 151) (b := decide (z15 < z16)) (v := false) (by kernel_rfl) (decide_eq_false hc18) ?_
    refine we_false (by kernel_rfl) ?_
    have hS115 := hS.bring 3 rfl
    have hS116 := hS115.bring 3 rfl
    have hS117 := hS116.bring 3 rfl
    have hS118 := hS117.bring 3 rfl
    obtain rfl := Option.some.inj h
    exact we_exit fun a hF => hQ _ _ _ (Outs.out nofun (Exits.here ⟨hS118, hF.weaken ⟨by kernel_rfl, by kernel_rfl, by kernel_rfl, by kernel_rfl, by kernel_rfl, by kernel_rfl, by kernel_rfl, by kernel_rfl, trivial⟩⟩))
abbrev slices_symMergeCmpFunc_int.A6 (K : Nat) (w0 : World) (l0 : List Int) (A0 : Option Addr) (c0 : Nat) (x1 : Int) (x2 : Int) (x3 : Int) (bg4_0 : Nat) (bg4_1 : Nat) (lg4_1 : List STask) (Ag4_1 : Option Addr) (cg4_1 : Nat) (LT : List Own) (hRg4_1 : RdL w0 Ag4_1 lg4_1) (hLg4_1 : lg4_1.length ≤ cg4_1) (recf : (List Int) → Int → Int → Int → (List STask) → Option (List Int)) (hrec : ∀ (l0 : List Int) (A0 : Option Addr) (c0 : Nat) (x1 : Int) (x2 : Int) (x3 : Int) (bg4_0 : Nat) (bg4_1 : Nat) (lg4_1 : List STask) (Ag4_1 : Option Addr) (cg4_1 : Nat) (w0 wE : World) (LT : List Own) (hS : St w0 wE [Own.of (.slice A0 l0.length c0) 3 l0, Own.blk bg4_0 (.cells #[.func (.func 37) #[] #[]] 74 (0, 0)), Own.blk bg4_1 (.cells #[.slice Ag4_1 lg4_1.length cg4_1] 22 (0, 0)), Own.all LT]) (hRg4_1 : RdL w0 Ag4_1 lg4_1) (hLg4_1 : lg4_1.length ≤ cg4_1) (r : List Int) (h : recf l0 x1 x2 x3 lg4_1 = some r), Calls Try.prog 79 #[(.slice A0 l0.length c0), .int .i64 x1, .int .i64 x2, .int .i64 x3, .func (.func 59) #[] #[.pointer (some ⟨bg4_0, 0, none⟩), .pointer (some ⟨bg4_1, 0, none⟩)]] wE (slices_symMergeCmpFunc_int.Post w0 l0 A0 c0 x1 x2 x3 bg4_0 bg4_1 lg4_1 Ag4_1 cg4_1 LT r)) (hc1 : ¬ ((IntKind.i64.wrap (x2 - x1)) = 1)) (hc9 : ¬ ((IntKind.i64.wrap (x3 - x2)) = 1)) (z13 : Int) (z14 : Int) (z18 : Int) : (List Int) → Act → World → Prop := fun (s : (List Int)) a w => l0.length = s.length ∧ St w0 w [Own.blk bg4_0 (.cells #[.func (.func 37) #[] #[]] 74 (0, 0)), Own.blk bg4_1 (.cells #[.slice Ag4_1 lg4_1.length cg4_1] 22 (0, 0)), Own.of (.slice A0 s.length c0) 3 s, Own.all LT] ∧ Frm 220 a [(0, (.slice A0 s.length c0)), (1, .int .i64 x1), (3, .int .i64 x3), (4, .func (.func 59) #[] #[.pointer (some ⟨bg4_0, 0, none⟩), .pointer (some ⟨bg4_1, 0, none⟩)]), (18, .int .i64 (IntKind.i64.wrap (Int.fdiv (IntKind.u64.wrap (IntKind.i64.wrap (x1 + x3))) (2 ^ 1)))), (20, .int .i64 z18), (24, .int .i64 (IntKind.i64.wrap ((IntKind.i64.wrap ((IntKind.i64.wrap (Int.fdiv (IntKind.u64.wrap (IntKind.i64.wrap (x1 + x3))) (2 ^ 1))) + x2)) - z18)))]
abbrev slices_symMergeCmpFunc_int.B6 (K : Nat) (w0 : World) (l0 : List Int) (A0 : Option Addr) (c0 : Nat) (x1 : Int) (x2 : Int) (x3 : Int) (bg4_0 : Nat) (bg4_1 : Nat) (lg4_1 : List STask) (Ag4_1 : Option Addr) (cg4_1 : Nat) (LT : List Own) (hRg4_1 : RdL w0 Ag4_1 lg4_1) (hLg4_1 : lg4_1.length ≤ cg4_1) (recf : (List Int) → Int → Int → Int → (List STask) → Option (List Int)) (hrec : ∀ (l0 : List Int) (A0 : Option Addr) (c0 : Nat) (x1 : Int) (x2 : Int) (x3 : Int) (bg4_0 : Nat) (bg4_1 : Nat) (lg4_1 : List STask) (Ag4_1 : Option Addr) (cg4_1 : Nat) (w0 wE : World) (LT : List Own) (hS : St w0 wE [Own.of (.slice A0 l0.length c0) 3 l0, Own.blk bg4_0 (.cells #[.func (.func 37) #[] #[]] 74 (0, 0)), Own.blk bg4_1 (.cells #[.slice Ag4_1 lg4_1.length cg4_1] 22 (0, 0)), Own.all LT]) (hRg4_1 : RdL w0 Ag4_1 lg4_1) (hLg4_1 : lg4_1.length ≤ cg4_1) (r : List Int) (h : recf l0 x1 x2 x3 lg4_1 = some r), Calls Try.prog 79 #[(.slice A0 l0.length c0), .int .i64 x1, .int .i64 x2, .int .i64 x3, .func (.func 59) #[] #[.pointer (some ⟨bg4_0, 0, none⟩), .pointer (some ⟨bg4_1, 0, none⟩)]] wE (slices_symMergeCmpFunc_int.Post w0 l0 A0 c0 x1 x2 x3 bg4_0 bg4_1 lg4_1 Ag4_1 cg4_1 LT r)) (hc1 : ¬ ((IntKind.i64.wrap (x2 - x1)) = 1)) (hc9 : ¬ ((IntKind.i64.wrap (x3 - x2)) = 1)) (z13 : Int) (z14 : Int) (z18 : Int) : (List Int) → Exit → Act → World → Prop := Rets Try.prog Try.f79 (slices_symMergeCmpFunc_int.Post w0 l0 A0 c0 x1 x2 x3 bg4_0 bg4_1 lg4_1 Ag4_1 cg4_1 LT)
theorem slices_symMergeCmpFunc_int_p6 (K : Nat) (w0 : World) (l0 : List Int) (A0 : Option Addr) (c0 : Nat) (x1 : Int) (x2 : Int) (x3 : Int) (bg4_0 : Nat) (bg4_1 : Nat) (lg4_1 : List STask) (Ag4_1 : Option Addr) (cg4_1 : Nat) (LT : List Own) (hRg4_1 : RdL w0 Ag4_1 lg4_1) (hLg4_1 : lg4_1.length ≤ cg4_1) (recf : (List Int) → Int → Int → Int → (List STask) → Option (List Int)) (hrec : ∀ (l0 : List Int) (A0 : Option Addr) (c0 : Nat) (x1 : Int) (x2 : Int) (x3 : Int) (bg4_0 : Nat) (bg4_1 : Nat) (lg4_1 : List STask) (Ag4_1 : Option Addr) (cg4_1 : Nat) (w0 wE : World) (LT : List Own) (hS : St w0 wE [Own.of (.slice A0 l0.length c0) 3 l0, Own.blk bg4_0 (.cells #[.func (.func 37) #[] #[]] 74 (0, 0)), Own.blk bg4_1 (.cells #[.slice Ag4_1 lg4_1.length cg4_1] 22 (0, 0)), Own.all LT]) (hRg4_1 : RdL w0 Ag4_1 lg4_1) (hLg4_1 : lg4_1.length ≤ cg4_1) (r : List Int) (h : recf l0 x1 x2 x3 lg4_1 = some r), Calls Try.prog 79 #[(.slice A0 l0.length c0), .int .i64 x1, .int .i64 x2, .int .i64 x3, .func (.func 59) #[] #[.pointer (some ⟨bg4_0, 0, none⟩), .pointer (some ⟨bg4_1, 0, none⟩)]] wE (slices_symMergeCmpFunc_int.Post w0 l0 A0 c0 x1 x2 x3 bg4_0 bg4_1 lg4_1 Ag4_1 cg4_1 LT r)) (hc1 : ¬ ((IntKind.i64.wrap (x2 - x1)) = 1)) (hc9 : ¬ ((IntKind.i64.wrap (x3 - x2)) = 1)) (z13 : Int) (z14 : Int) (z18 : Int) (o : (List Int) ⊕ (List Int)) (h : slices_symMergeCmpFunc_int.p6 K l0 x1 x2 x3 lg4_1 z18 = some o) (w : World) (hS : St w0 w [Own.blk bg4_0 (.cells #[.func (.func 37) #[] #[]] 74 (0, 0)), Own.blk bg4_1 (.cells #[.slice Ag4_1 lg4_1.length cg4_1] 22 (0, 0)), Own.of (.slice A0 l0.length c0) 3 l0, Own.all LT]) (Q : Exit → Act → World → Prop) (hQ : ∀ x a w, Outs (slices_symMergeCmpFunc_int.A6 K w0 l0 A0 c0 x1 x2 x3 bg4_0 bg4_1 lg4_1 Ag4_1 cg4_1 LT hRg4_1 hLg4_1 recf hrec hc1 hc9 z13 z14 z18) (slices_symMergeCmpFunc_int.B6 K w0 l0 A0 c0 x1 x2 x3 bg4_0 bg4_1 lg4_1 Ag4_1 cg4_1 LT hRg4_1 hLg4_1 recf hrec hc1 hc9 z13 z14 z18) o x a w → Q x a w) : WE Try.prog 220 (subF Try.f79 [1, 1, 1, 1, 1, 1, 1, 1, 1, 0]) Q [(0, (.slice A0 l0.length c0)), (1, .int .i64 x1), (2, .int .i64 x2), (3, .int .i64 x3), (4, .func (.func 59) #[] #[.pointer (some ⟨bg4_0, 0, none⟩), .pointer (some ⟨bg4_1, 0, none⟩)]), (18, .int .i64 (IntKind.i64.wrap (Int.fdiv (IntKind.u64.wrap (IntKind.i64.wrap (x1 + x3))) (2 ^ 1)))), (19, .int .i64 (IntKind.i64.wrap ((IntKind.i64.wrap (Int.fdiv (IntKind.u64.wrap (IntKind.i64.wrap (x1 + x3))) (2 ^ 1))) + x2))), (20, .int .i64 z18), (24, .int .i64 (IntKind.i64.wrap ((IntKind.i64.wrap ((IntKind.i64.wrap (Int.fdiv (IntKind.u64.wrap (IntKind.i64.wrap (x1 + x3))) (2 ^ 1))) + x2)) - z18))), (175, .int .i64 (IntKind.i64.wrap ((IntKind.i64.wrap (Int.fdiv (IntKind.u64.wrap (IntKind.i64.wrap (x1 + x3))) (2 ^ 1))) + x2))), (176, .int .i64 z18), (177, .int .i64 (IntKind.i64.wrap ((IntKind.i64.wrap ((IntKind.i64.wrap (Int.fdiv (IntKind.u64.wrap (IntKind.i64.wrap (x1 + x3))) (2 ^ 1))) + x2)) - z18)))] w := by
  simp only [slices_symMergeCmpFunc_int.p6] at h
  refine we_seq fun K44 hK44 => ?_
  refine we_region [(0, 0), (1, 0), (2, 0), (3, 0), (4, 0), (5, 0), (6, 0), (7, 0)] rfl ?_
  refine ge_batch [0, 1, 2, 3] (ans := []) (vs := [(181, .bool (decide (z18 < x2))), (180, .bool (decide (z18 < x2))), (179, .int .i64 x2), (178, .int .i64 z18)]) (l := []) (by kernel_rfl) trivial ?_
  by_cases hc22 : z18 < x2
  · rw [if_pos hc22] at h
    refine ge_known (t := 181) (b := decide (z18 < x2)) (c := true) (by kernel_rfl) (decide_eq_true hc22) ?_
    refine ge_batch [4, 5, 6, 7] (ans := []) (vs := [(185, .bool (decide (x2 < (IntKind.i64.wrap ((IntKind.i64.wrap ((IntKind.i64.wrap (Int.fdiv (IntKind.u64.wrap (IntKind.i64.wrap (x1 + x3))) (2 ^ 1))) + x2)) - z18))))), (184, .bool (decide (x2 < (IntKind.i64.wrap ((IntKind.i64.wrap ((IntKind.i64.wrap (Int.fdiv (IntKind.u64.wrap (IntKind.i64.wrap (x1 + x3))) (2 ^ 1))) + x2)) - z18))))), (183, .int .i64 (IntKind.i64.wrap ((IntKind.i64.wrap ((IntKind.i64.wrap (Int.fdiv (IntKind.u64.wrap (IntKind.i64.wrap (x1 + x3))) (2 ^ 1))) + x2)) - z18))), (182, .int .i64 x2)]) (l := []) (by kernel_rfl) trivial ?_
    refine ge_nil fun a hF => hK44 _ _ ?_ a hF
    by_cases hc23 : x2 < (IntKind.i64.wrap ((IntKind.i64.wrap ((IntKind.i64.wrap (Int.fdiv (IntKind.u64.wrap (IntKind.i64.wrap (x1 + x3))) (2 ^ 1))) + x2)) - z18))
    · rw [if_pos hc23] at h
      refine we_known (t := 185) (b := decide (x2 < (IntKind.i64.wrap ((IntKind.i64.wrap ((IntKind.i64.wrap (Int.fdiv (IntKind.u64.wrap (IntKind.i64.wrap (x1 + x3))) (2 ^ 1))) + x2)) - z18)))) (v := true) (by kernel_rfl) (decide_eq_true hc23) ?_
      refine we_true (by kernel_rfl) ?_
      refine we_region [(0, 0), (1, 0), (2, 0), (3, 0), (4, 0), (5, 2)] rfl ?_
      refine ge_batch [0, 1, 2, 3, 4] (ans := []) (vs := [(190, .func (.func 59) #[] #[.pointer (some ⟨bg4_0, 0, none⟩), .pointer (some ⟨bg4_1, 0, none⟩)]), (189, .int .i64 (IntKind.i64.wrap ((IntKind.i64.wrap ((IntKind.i64.wrap (Int.fdiv (IntKind.u64.wrap (IntKind.i64.wrap (x1 + x3))) (2 ^ 1))) + x2)) - z18))), (188, .int .i64 x2), (187, .int .i64 z18), (186, (.slice A0 l0.length c0))]) (l := []) (by kernel_rfl) trivial ?_
      rcases hq10 : slices_rotateCmpFunc_int.f K l0 z18 x2 (IntKind.i64.wrap ((IntKind.i64.wrap ((IntKind.i64.wrap (Int.fdiv (IntKind.u64.wrap (IntKind.i64.wrap (x1 + x3))) (2 ^ 1))) + x2)) - z18)) lg4_1 with _ | r4
      · rw [hq10] at h; cases h
      rw [hq10] at h
      simp only [] at h
      have hS120 := hS.bring 1 rfl
      have hS121 := hS120.bring 1 rfl
      have hS122 := hS121.bring 2 rfl
      have hS124 : St w0 w [Own.of (.slice A0 l0.length c0) 3 l0, Own.blk bg4_0 (.cells #[.func (.func 37) #[] #[]] 74 (0, 0)), Own.blk bg4_1 (.cells #[.slice Ag4_1 lg4_1.length cg4_1] 22 (0, 0)), Own.all [Own.all LT]] := hS122.packN 3
      refine ge_call2 (m := 0) (d := some 191) (f := 86) (args := #[.slice A0 l0.length c0, .int .i64 z18, .int .i64 x2, .int .i64 (IntKind.i64.wrap ((IntKind.i64.wrap ((IntKind.i64.wrap (Int.fdiv (IntKind.u64.wrap (IntKind.i64.wrap (x1 + x3))) (2 ^ 1))) + x2)) - z18)), .func (.func 59) #[] #[.pointer (some ⟨bg4_0, 0, none⟩), .pointer (some ⟨bg4_1, 0, none⟩)]]) (by kernel_rfl) (slices_rotateCmpFunc_int_ok K l0 A0 c0 z18 x2 (IntKind.i64.wrap ((IntKind.i64.wrap ((IntKind.i64.wrap (Int.fdiv (IntKind.u64.wrap (IntKind.i64.wrap (x1 + x3))) (2 ^ 1))) + x2)) - z18)) bg4_0 bg4_1 lg4_1 Ag4_1 cg4_1 _ _ _ hS124 hRg4_1 hLg4_1 _ hq10) ?_
      rintro _ w14 ⟨rfl, hE5, hS123⟩
      refine ⟨_, rfl, ?_⟩
      have hS125 : St w0 w14 [Own.of (.slice A0 r4.length c0) 3 r4, Own.blk bg4_0 (.cells #[.func (.func 37) #[] #[]] 74 (0, 0)), Own.blk bg4_1 (.cells #[.slice Ag4_1 lg4_1.length cg4_1] 22 (0, 0)), Own.all LT] := hS123.unpack [Own.of (.slice A0 r4.length c0) 3 r4, Own.blk bg4_0 (.cells #[.func (.func 37) #[] #[]] 74 (0, 0)), Own.blk bg4_1 (.cells #[.slice Ag4_1 lg4_1.length cg4_1] 22 (0, 0))]
      refine ge_same (t := 0) (v := (.slice A0 l0.length c0)) (v' := (.slice A0 r4.length c0)) (by kernel_rfl) (by rw [show l0.length = r4.length from hE5]) ?_
      refine ge_same (t := 186) (v := (.slice A0 l0.length c0)) (v' := (.slice A0 r4.length c0)) (by kernel_rfl) (by rw [show l0.length = r4.length from hE5]) ?_
      have hLio6 : l0.length = r4.length := Eq.trans rfl hE5
      have hS126 := hS125.bring 3 rfl
      have hS127 := hS126.bring 1 rfl
      have hS128 := hS127.bring 3 rfl
      have hS129 := hS128.bring 3 rfl
      obtain rfl := Option.some.inj h
      exact ge_nil fun a hF => hQ _ _ _ (Outs.again ⟨hLio6, hS129, hF.weaken ⟨by kernel_rfl, by kernel_rfl, by kernel_rfl, by kernel_rfl, by kernel_rfl, by kernel_rfl, by kernel_rfl, trivial⟩⟩)
    · rw [if_neg hc23] at h
      refine we_known (t := 185) (b := decide (x2 < (IntKind.i64.wrap ((IntKind.i64.wrap ((IntKind.i64.wrap (Int.fdiv (IntKind.u64.wrap (IntKind.i64.wrap (x1 + x3))) (2 ^ 1))) + x2)) - z18)))) (v := false) (by kernel_rfl) (decide_eq_false hc23) ?_
      refine we_false (by kernel_rfl) ?_
      have hS130 := hS.bring 3 rfl
      have hS131 := hS130.bring 3 rfl
      have hS132 := hS131.bring 3 rfl
      have hS133 := hS132.bring 3 rfl
      obtain rfl := Option.some.inj h
      exact we_skip fun a hF => hQ _ _ _ (Outs.again ⟨rfl, hS133, hF.weaken ⟨by kernel_rfl, by kernel_rfl, by kernel_rfl, by kernel_rfl, by kernel_rfl, by kernel_rfl, by kernel_rfl, trivial⟩⟩)
  · rw [if_neg hc22] at h
    refine ge_known (t := 181) (b := decide (z18 < x2)) (c := false) (by kernel_rfl) (decide_eq_false hc22) ?_
    refine ge_batch [4, 5, 6, 7] (ans := []) (vs := [(185, .bool false), (184, undef), (183, undef), (182, undef)]) (l := []) (by kernel_rfl) trivial ?_
    refine ge_nil fun a hF => hK44 _ _ ?_ a hF
    refine we_false (by kernel_rfl) ?_
    have hS134 := hS.bring 3 rfl
    have hS135 := hS134.bring 3 rfl
    have hS136 := hS135.bring 3 rfl
    have hS137 := hS136.bring 3 rfl
    obtain rfl := Option.some.inj h
    exact we_skip fun a hF => hQ _ _ _ (Outs.again ⟨rfl, hS137, hF.weaken ⟨by kernel_rfl, by kernel_rfl, by kernel_rfl, by kernel_rfl, by kernel_rfl, by kernel_rfl, by kernel_rfl, trivial⟩⟩)
theorem slices_symMergeCmpFunc_int_step (K : Nat) (recf : (List Int) → Int → Int → Int → (List STask) → Option (List Int)) (hrec : ∀ (l0 : List Int) (A0 : Option Addr) (c0 : Nat) (x1 : Int) (x2 : Int) (x3 : Int) (bg4_0 : Nat) (bg4_1 : Nat) (lg4_1 : List STask) (Ag4_1 : Option Addr) (cg4_1 : Nat) (w0 wE : World) (LT : List Own) (hS : St w0 wE [Own.of (.slice A0 l0.length c0) 3 l0, Own.blk bg4_0 (.cells #[.func (.func 37) #[] #[]] 74 (0, 0)), Own.blk bg4_1 (.cells #[.slice Ag4_1 lg4_1.length cg4_1] 22 (0, 0)), Own.all LT]) (hRg4_1 : RdL w0 Ag4_1 lg4_1) (hLg4_1 : lg4_1.length ≤ cg4_1) (r : List Int) (h : recf l0 x1 x2 x3 lg4_1 = some r), Calls Try.prog 79 #[(.slice A0 l0.length c0), .int .i64 x1, .int .i64 x2, .int .i64 x3, .func (.func 59) #[] #[.pointer (some ⟨bg4_0, 0, none⟩), .pointer (some ⟨bg4_1, 0, none⟩)]] wE (slices_symMergeCmpFunc_int.Post w0 l0 A0 c0 x1 x2 x3 bg4_0 bg4_1 lg4_1 Ag4_1 cg4_1 LT r)) (l0 : List Int) (A0 : Option Addr) (c0 : Nat) (x1 : Int) (x2 : Int) (x3 : Int) (bg4_0 : Nat) (bg4_1 : Nat) (lg4_1 : List STask) (Ag4_1 : Option Addr) (cg4_1 : Nat) (w0 wE : World) (LT : List Own) (hS : St w0 wE [Own.of (.slice A0 l0.length c0) 3 l0, Own.blk bg4_0 (.cells #[.func (.func 37) #[] #[]] 74 (0, 0)), Own.blk bg4_1 (.cells #[.slice Ag4_1 lg4_1.length cg4_1] 22 (0, 0)), Own.all LT]) (hRg4_1 : RdL w0 Ag4_1 lg4_1) (hLg4_1 : lg4_1.length ≤ cg4_1) (r : List Int) (h : slices_symMergeCmpFunc_int.b K recf l0 x1 x2 x3 lg4_1 = some r) :
    Calls Try.prog 79 #[(.slice A0 l0.length c0), .int .i64 x1, .int .i64 x2, .int .i64 x3, .func (.func 59) #[] #[.pointer (some ⟨bg4_0, 0, none⟩), .pointer (some ⟨bg4_1, 0, none⟩)]] wE (slices_symMergeCmpFunc_int.Post w0 l0 A0 c0 x1 x2 x3 bg4_0 bg4_1 lg4_1 Ag4_1 cg4_1 LT r) := by
  unfold slices_symMergeCmpFunc_int.b at h
  refine calls_enter (n := 220) (args := [(.slice A0 l0.length c0), .int .i64 x1, .int .i64 x2, .int .i64 x3, .func (.func 59) #[] #[.pointer (some ⟨bg4_0, 0, none⟩), .pointer (some ⟨bg4_1, 0, none⟩)]]) (fn := Try.f79) rfl rfl rfl rfl ?_
  show WE _ _ _ _ [(0, (.slice A0 l0.length c0)), (1, .int .i64 x1), (2, .int .i64 x2), (3, .int .i64 x3), (4, .func (.func 59) #[] #[.pointer (some ⟨bg4_0, 0, none⟩), .pointer (some ⟨bg4_1, 0, none⟩)])] _
  refine we_seq fun K1 hK1 => ?_
  refine we_seq fun K2 hK2 => ?_
  refine we_region [(0, 0), (1, 0), (2, 0), (3, 0)] rfl ?_
  refine ge_batch [0, 1, 2, 3] (ans := []) (vs := [(28, .bool ((IntKind.i64.wrap (x2 - x1)) == 1)), (27, .int .i64 (IntKind.i64.wrap (x2 - x1))), (26, .int .i64 x1), (25, .int .i64 x2)]) (l := []) (by kernel_rfl) trivial ?_
  refine ge_nil fun a hF => hK2 _ _ ?_ a hF
  by_cases hc1 : (IntKind.i64.wrap (x2 - x1)) = 1
  · rw [if_pos hc1] at h
    refine we_known (t := 28) (b := ((IntKind.i64.wrap (x2 - x1)) == 1)) (v := true) (by kernel_rfl) (beq_iff_eq.2 hc1) ?_
    refine we_true (by kernel_rfl) ?_
    refine we_seq fun K3 hK3 => ?_
    refine we_region [(0, 0), (1, 0)] rfl ?_
    refine ge_batch [0, 1] (ans := []) (vs := [(10, .int .i64 x2), (29, .int .i64 x2)]) (l := []) (by kernel_rfl) trivial ?_
    refine ge_nil fun a hF => hK3 _ _ ?_ a hF
    refine we_seq fun K4 hK4 => ?_
    refine we_region [(0, 0), (1, 0)] rfl ?_
    refine ge_batch [0, 1] (ans := []) (vs := [(11, .int .i64 x3), (30, .int .i64 x3)]) (l := []) (by kernel_rfl) trivial ?_
    refine ge_nil fun a hF => hK4 _ _ ?_ a hF
    refine we_seq fun K5 hK5 => ?_
    refine we_block ?_
    have hS1 := hS.bring 3 rfl
    have hS2 := hS1.bring 1 rfl
    have hS3 := hS2.bring 3 rfl
    have hS4 := hS3.bring 3 rfl
    rcases hq2 : iter (slices_symMergeCmpFunc_int.r0 l0 x1 lg4_1) K (x2, x3) with _ | (z4 | rr2)
    · rw [hq2] at h; cases h
    · rw [hq2] at h
      simp only [] at h
      refine we_iter (A := slices_symMergeCmpFunc_int.A0 K w0 l0 A0 c0 x1 x2 x3 bg4_0 bg4_1 lg4_1 Ag4_1 cg4_1 LT hRg4_1 hLg4_1 recf hrec hc1) (B := slices_symMergeCmpFunc_int.B0 K w0 l0 A0 c0 x1 x2 x3 bg4_0 bg4_1 lg4_1 Ag4_1 cg4_1 LT hRg4_1 hLg4_1 recf hrec hc1) hq2 (fun a hF => ⟨hS4, hF.weaken ⟨by kernel_rfl, by kernel_rfl, by kernel_rfl, by kernel_rfl, by kernel_rfl, trivial⟩⟩) (fun s o hf a w hA Q hQ => slices_symMergeCmpFunc_int_r0 K w0 l0 A0 c0 x1 x2 x3 bg4_0 bg4_1 lg4_1 Ag4_1 cg4_1 LT hRg4_1 hLg4_1 recf hrec hc1 s o hf a w hA Q hQ) ?_
      rintro _ a w2 _ ⟨rfl, hS20, hF⟩
      replace hS20 : St w0 w2 [Own.blk bg4_0 (.cells #[.func (.func 37) #[] #[]] 74 (0, 0)), Own.blk bg4_1 (.cells #[.slice Ag4_1 lg4_1.length cg4_1] 22 (0, 0)), Own.of (.slice A0 l0.length c0) 3 l0, Own.all LT] := hS20
      refine hK5 [(0, (.slice A0 l0.length c0)), (1, .int .i64 x1), (4, .func (.func 59) #[] #[.pointer (some ⟨bg4_0, 0, none⟩), .pointer (some ⟨bg4_1, 0, none⟩)]), (10, .int .i64 z4)] w2 ?_ a hF
      refine we_seq fun K10 hK10 => ?_
      refine we_seq fun K11 hK11 => ?_
      refine we_region [(0, 0), (1, 0)] rfl ?_
      refine ge_batch [0, 1] (ans := []) (vs := [(13, .int .i64 x1), (54, .int .i64 x1)]) (l := []) (by kernel_rfl) trivial ?_
      refine ge_nil fun a hF => hK11 _ _ ?_ a hF
      refine we_block ?_
      have hS21 := hS20.bring 3 rfl
      have hS22 := hS21.bring 3 rfl
      have hS23 := hS22.bring 3 rfl
      have hS24 := hS23.bring 3 rfl
      rcases hq3 : iter (slices_symMergeCmpFunc_int.r1 z4) K (x1, l0) with _ | (m3 | rr1)
      · rw [hq3] at h; cases h
      · rw [hq3] at h
        simp only [] at h
        refine we_iter (A := slices_symMergeCmpFunc_int.A1 K w0 l0 A0 c0 x1 x2 x3 bg4_0 bg4_1 lg4_1 Ag4_1 cg4_1 LT hRg4_1 hLg4_1 recf hrec hc1 z4) (B := slices_symMergeCmpFunc_int.B1 K w0 l0 A0 c0 x1 x2 x3 bg4_0 bg4_1 lg4_1 Ag4_1 cg4_1 LT hRg4_1 hLg4_1 recf hrec hc1 z4) hq3 (fun a hF => ⟨rfl, hS24, hF.weaken ⟨by kernel_rfl, by kernel_rfl, by kernel_rfl, by kernel_rfl, trivial⟩⟩) (fun s o hf a w hA Q hQ => slices_symMergeCmpFunc_int_r1 K w0 l0 A0 c0 x1 x2 x3 bg4_0 bg4_1 lg4_1 Ag4_1 cg4_1 LT hRg4_1 hLg4_1 recf hrec hc1 z4 s o hf a w hA Q hQ) ?_
        rintro _ a w5 _ ⟨rfl, hRz1, hS41, hF⟩
        replace hS41 : St w0 w5 [Own.blk bg4_0 (.cells #[.func (.func 37) #[] #[]] 74 (0, 0)), Own.blk bg4_1 (.cells #[.slice Ag4_1 lg4_1.length cg4_1] 22 (0, 0)), Own.of (.slice A0 m3.length c0) 3 m3, Own.all LT] := hS41
        refine hK10 [(0, (.slice A0 m3.length c0)), (4, .func (.func 59) #[] #[.pointer (some ⟨bg4_0, 0, none⟩), .pointer (some ⟨bg4_1, 0, none⟩)])] w5 ?_ a hF
        have hS42 := hS41.bring 3 rfl
        have hS43 := hS42.bring 2 rfl
        have hS44 := hS43.bring 2 rfl
        have hS45 := hS44.bring 3 rfl
        obtain rfl := Option.some.inj h
        exact we_ret (post_ret (rs := []) (ans := []) (vs := []) (l := []) rfl (by kernel_rfl) trivial ⟨rfl, hRz1, hS45⟩)
      · rw [hq3] at h
        simp only [] at h
        refine we_iter (A := slices_symMergeCmpFunc_int.A1 K w0 l0 A0 c0 x1 x2 x3 bg4_0 bg4_1 lg4_1 Ag4_1 cg4_1 LT hRg4_1 hLg4_1 recf hrec hc1 z4) (B := slices_symMergeCmpFunc_int.B1 K w0 l0 A0 c0 x1 x2 x3 bg4_0 bg4_1 lg4_1 Ag4_1 cg4_1 LT hRg4_1 hLg4_1 recf hrec hc1 z4) hq3 (fun a hF => ⟨rfl, hS24, hF.weaken ⟨by kernel_rfl, by kernel_rfl, by kernel_rfl, by kernel_rfl, trivial⟩⟩) (fun s o hf a w hA Q hQ => slices_symMergeCmpFunc_int_r1 K w0 l0 A0 c0 x1 x2 x3 bg4_0 bg4_1 lg4_1 Ag4_1 cg4_1 LT hRg4_1 hLg4_1 recf hrec hc1 z4 s o hf a w hA Q hQ) ?_
        rintro _ a w1 _ ⟨rfl, hb⟩
        obtain rfl := Option.some.inj h
        exact hb
    · rw [hq2] at h
      simp only [] at h
      refine we_iter (A := slices_symMergeCmpFunc_int.A0 K w0 l0 A0 c0 x1 x2 x3 bg4_0 bg4_1 lg4_1 Ag4_1 cg4_1 LT hRg4_1 hLg4_1 recf hrec hc1) (B := slices_symMergeCmpFunc_int.B0 K w0 l0 A0 c0 x1 x2 x3 bg4_0 bg4_1 lg4_1 Ag4_1 cg4_1 LT hRg4_1 hLg4_1 recf hrec hc1) hq2 (fun a hF => ⟨hS4, hF.weaken ⟨by kernel_rfl, by kernel_rfl, by kernel_rfl, by kernel_rfl, by kernel_rfl, trivial⟩⟩) (fun s o hf a w hA Q hQ => slices_symMergeCmpFunc_int_r0 K w0 l0 A0 c0 x1 x2 x3 bg4_0 bg4_1 lg4_1 Ag4_1 cg4_1 LT hRg4_1 hLg4_1 recf hrec hc1 s o hf a w hA Q hQ) ?_
      rintro _ a w1 _ ⟨rfl, hb⟩
      obtain rfl := Option.some.inj h
      exact hb
  · rw [if_neg hc1] at h
    refine we_known (t := 28) (b := ((IntKind.i64.wrap (x2 - x1)) == 1)) (v := false) (by kernel_rfl) (beq_eq_false_iff_ne.2 hc1) ?_
    refine we_false (by kernel_rfl) ?_
    refine we_skip fun a hF => hK1 _ _ ?_ a hF
    refine we_seq fun K15 hK15 => ?_
    refine we_seq fun K16 hK16 => ?_
    refine we_region [(0, 0), (1, 0), (2, 0), (3, 0)] rfl ?_
    refine ge_batch [0, 1, 2, 3] (ans := []) (vs := [(80, .bool ((IntKind.i64.wrap (x3 - x2)) == 1)), (79, .int .i64 (IntKind.i64.wrap (x3 - x2))), (78, .int .i64 x2), (77, .int .i64 x3)]) (l := []) (by kernel_rfl) trivial ?_
    refine ge_nil fun a hF => hK16 _ _ ?_ a hF
    by_cases hc9 : (IntKind.i64.wrap (x3 - x2)) = 1
    · rw [if_pos hc9] at h
      refine we_known (t := 80) (b := ((IntKind.i64.wrap (x3 - x2)) == 1)) (v := true) (by kernel_rfl) (beq_iff_eq.2 hc9) ?_
      refine we_true (by kernel_rfl) ?_
      refine we_seq fun K17 hK17 => ?_
      refine we_region [(0, 0), (1, 0)] rfl ?_
      refine ge_batch [0, 1] (ans := []) (vs := [(14, .int .i64 x1), (81, .int .i64 x1)]) (l := []) (by kernel_rfl) trivial ?_
      refine ge_nil fun a hF => hK17 _ _ ?_ a hF
      refine we_seq fun K18 hK18 => ?_
      refine we_region [(0, 0), (1, 0)] rfl ?_
      refine ge_batch [0, 1] (ans := []) (vs := [(15, .int .i64 x2), (82, .int .i64 x2)]) (l := []) (by kernel_rfl) trivial ?_
      refine ge_nil fun a hF => hK18 _ _ ?_ a hF
      refine we_seq fun K19 hK19 => ?_
      refine we_block ?_
      have hS46 := hS.bring 3 rfl
      have hS47 := hS46.bring 1 rfl
      have hS48 := hS47.bring 3 rfl
      have hS49 := hS48.bring 3 rfl
      rcases hq5 : iter (slices_symMergeCmpFunc_int.r2 l0 x2 lg4_1) K (x1, x2) with _ | (z9 | rr4)
      · rw [hq5] at h; cases h
      · rw [hq5] at h
        simp only [] at h
        refine we_iter (A := slices_symMergeCmpFunc_int.A2 K w0 l0 A0 c0 x1 x2 x3 bg4_0 bg4_1 lg4_1 Ag4_1 cg4_1 LT hRg4_1 hLg4_1 recf hrec hc1 hc9) (B := slices_symMergeCmpFunc_int.B2 K w0 l0 A0 c0 x1 x2 x3 bg4_0 bg4_1 lg4_1 Ag4_1 cg4_1 LT hRg4_1 hLg4_1 recf hrec hc1 hc9) hq5 (fun a hF => ⟨hS49, hF.weaken ⟨by kernel_rfl, by kernel_rfl, by kernel_rfl, by kernel_rfl, by kernel_rfl, trivial⟩⟩) (fun s o hf a w hA Q hQ => slices_symMergeCmpFunc_int_r2 K w0 l0 A0 c0 x1 x2 x3 bg4_0 bg4_1 lg4_1 Ag4_1 cg4_1 LT hRg4_1 hLg4_1 recf hrec hc1 hc9 s o hf a w hA Q hQ) ?_
        rintro _ a w7 _ ⟨rfl, hS65, hF⟩
        replace hS65 : St w0 w7 [Own.blk bg4_0 (.cells #[.func (.func 37) #[] #[]] 74 (0, 0)), Own.blk bg4_1 (.cells #[.slice Ag4_1 lg4_1.length cg4_1] 22 (0, 0)), Own.of (.slice A0 l0.length c0) 3 l0, Own.all LT] := hS65
        refine hK19 [(0, (.slice A0 l0.length c0)), (2, .int .i64 x2), (4, .func (.func 59) #[] #[.pointer (some ⟨bg4_0, 0, none⟩), .pointer (some ⟨bg4_1, 0, none⟩)]), (14, .int .i64 z9)] w7 ?_ a hF
        refine we_seq fun K24 hK24 => ?_
        refine we_seq fun K25 hK25 => ?_
        refine we_region [(0, 0), (1, 0)] rfl ?_
        refine ge_batch [0, 1] (ans := []) (vs := [(17, .int .i64 x2), (107, .int .i64 x2)]) (l := []) (by kernel_rfl) trivial ?_
        refine ge_nil fun a hF => hK25 _ _ ?_ a hF
        refine we_block ?_
        have hS66 := hS65.bring 3 rfl
        have hS67 := hS66.bring 3 rfl
        have hS68 := hS67.bring 3 rfl
        have hS69 := hS68.bring 3 rfl
        rcases hq6 : iter (slices_symMergeCmpFunc_int.r3 z9) K (x2, l0) with _ | (m6 | rr3)
        · rw [hq6] at h; cases h
        · rw [hq6] at h
          simp only [] at h
          refine we_iter (A := slices_symMergeCmpFunc_int.A3 K w0 l0 A0 c0 x1 x2 x3 bg4_0 bg4_1 lg4_1 Ag4_1 cg4_1 LT hRg4_1 hLg4_1 recf hrec hc1 hc9 z9) (B := slices_symMergeCmpFunc_int.B3 K w0 l0 A0 c0 x1 x2 x3 bg4_0 bg4_1 lg4_1 Ag4_1 cg4_1 LT hRg4_1 hLg4_1 recf hrec hc1 hc9 z9) hq6 (fun a hF => ⟨rfl, hS69, hF.weaken ⟨by kernel_rfl, by kernel_rfl, by kernel_rfl, by kernel_rfl, trivial⟩⟩) (fun s o hf a w hA Q hQ => slices_symMergeCmpFunc_int_r3 K w0 l0 A0 c0 x1 x2 x3 bg4_0 bg4_1 lg4_1 Ag4_1 cg4_1 LT hRg4_1 hLg4_1 recf hrec hc1 hc9 z9 s o hf a w hA Q hQ) ?_
          rintro _ a w10 _ ⟨rfl, hRz2, hS86, hF⟩
          replace hS86 : St w0 w10 [Own.blk bg4_0 (.cells #[.func (.func 37) #[] #[]] 74 (0, 0)), Own.blk bg4_1 (.cells #[.slice Ag4_1 lg4_1.length cg4_1] 22 (0, 0)), Own.of (.slice A0 m6.length c0) 3 m6, Own.all LT] := hS86
          refine hK24 [(0, (.slice A0 m6.length c0)), (4, .func (.func 59) #[] #[.pointer (some ⟨bg4_0, 0, none⟩), .pointer (some ⟨bg4_1, 0, none⟩)])] w10 ?_ a hF
          have hS87 := hS86.bring 3 rfl
          have hS88 := hS87.bring 2 rfl
          have hS89 := hS88.bring 2 rfl
          have hS90 := hS89.bring 3 rfl
          obtain rfl := Option.some.inj h
          exact we_ret (post_ret (rs := []) (ans := []) (vs := []) (l := []) rfl (by kernel_rfl) trivial ⟨rfl, hRz2, hS90⟩)
        · rw [hq6] at h
          simp only [] at h
          refine we_iter (A := slices_symMergeCmpFunc_int.A3 K w0 l0 A0 c0 x1 x2 x3 bg4_0 bg4_1 lg4_1 Ag4_1 cg4_1 LT hRg4_1 hLg4_1 recf hrec hc1 hc9 z9) (B := slices_symMergeCmpFunc_int.B3 K w0 l0 A0 c0 x1 x2 x3 bg4_0 bg4_1 lg4_1 Ag4_1 cg4_1 LT hRg4_1 hLg4_1 recf hrec hc1 hc9 z9) hq6 (fun a hF => ⟨rfl, hS69, hF.weaken ⟨by kernel_rfl, by kernel_rfl, by kernel_rfl, by kernel_rfl, trivial⟩⟩) (fun s o hf a w hA Q hQ => slices_symMergeCmpFunc_int_r3 K w0 l0 A0 c0 x1 x2 x3 bg4_0 bg4_1 lg4_1 Ag4_1 cg4_1 LT hRg4_1 hLg4_1 recf hrec hc1 hc9 z9 s o hf a w hA Q hQ) ?_
          rintro _ a w1 _ ⟨rfl, hb⟩
          obtain rfl := Option.some.inj h
          exact hb
      · rw [hq5] at h
        simp only [] at h
        refine we_iter (A := slices_symMergeCmpFunc_int.A2 K w0 l0 A0 c0 x1 x2 x3 bg4_0 bg4_1 lg4_1 Ag4_1 cg4_1 LT hRg4_1 hLg4_1 recf hrec hc1 hc9) (B := slices_symMergeCmpFunc_int.B2 K w0 l0 A0 c0 x1 x2 x3 bg4_0 bg4_1 lg4_1 Ag4_1 cg4_1 LT hRg4_1 hLg4_1 recf hrec hc1 hc9) hq5 (fun a hF => ⟨hS49, hF.weaken ⟨by kernel_rfl, by kernel_rfl, by kernel_rfl, by kernel_rfl, by kernel_rfl, trivial⟩⟩) (fun s o hf a w hA Q hQ => slices_symMergeCmpFunc_int_r2 K w0 l0 A0 c0 x1 x2 x3 bg4_0 bg4_1 lg4_1 Ag4_1 cg4_1 LT hRg4_1 hLg4_1 recf hrec hc1 hc9 s o hf a w hA Q hQ) ?_
        rintro _ a w1 _ ⟨rfl, hb⟩
        obtain rfl := Option.some.inj h
        exact hb
    · rw [if_neg hc9] at h
      refine we_known (t := 80) (b := ((IntKind.i64.wrap (x3 - x2)) == 1)) (v := false) (by kernel_rfl) (beq_eq_false_iff_ne.2 hc9) ?_
      refine we_false (by kernel_rfl) ?_
      refine we_skip fun a hF => hK15 _ _ ?_ a hF
      refine we_seq fun K29 hK29 => ?_
      refine we_region [(0, 0), (1, 0), (2, 0), (3, 0), (4, 0), (5, 0), (6, 0)] rfl ?_
      refine ge_batch [0, 1, 2, 3, 4, 5, 6] (ans := []) (vs := [(18, .int .i64 (IntKind.i64.wrap (Int.fdiv (IntKind.u64.wrap (IntKind.i64.wrap (x1 + x3))) (2 ^ 1)))), (134, .int .i64 (IntKind.i64.wrap (Int.fdiv (IntKind.u64.wrap (IntKind.i64.wrap (x1 + x3))) (2 ^ 1)))), (133, .int .u64 (Int.fdiv (IntKind.u64.wrap (IntKind.i64.wrap (x1 + x3))) (2 ^ 1))), (132, .int .u64 (IntKind.u64.wrap (IntKind.i64.wrap (x1 + x3)))), (131, .int .i64 (IntKind.i64.wrap (x1 + x3))), (130, .int .i64 x3), (129, .int .i64 x1)]) (l := []) (by kernel_rfl) trivial ?_
      refine ge_nil fun a hF => hK29 _ _ ?_ a hF
      refine we_seq fun K30 hK30 => ?_
      refine we_region [(0, 0), (1, 0), (2, 0), (3, 0)] rfl ?_
      refine ge_batch [0, 1, 2, 3] (ans := []) (vs := [(19, .int .i64 (IntKind.i64.wrap ((IntKind.i64.wrap (Int.fdiv (IntKind.u64.wrap (IntKind.i64.wrap (x1 + x3))) (2 ^ 1))) + x2))), (137, .int .i64 (IntKind.i64.wrap ((IntKind.i64.wrap (Int.fdiv (IntKind.u64.wrap (IntKind.i64.wrap (x1 + x3))) (2 ^ 1))) + x2))), (136, .int .i64 x2), (135, .int .i64 (IntKind.i64.wrap (Int.fdiv (IntKind.u64.wrap (IntKind.i64.wrap (x1 + x3))) (2 ^ 1))))]) (l := []) (by kernel_rfl) trivial ?_
      refine ge_nil fun a hF => hK30 _ _ ?_ a hF
      refine we_seq fun K31 hK31 => ?_
      refine we_region [(0, 0), (1, 0)] rfl ?_
      refine ge_batch [0, 1] (ans := []) (vs := [(21, .int .i64 0), (20, .int .i64 0)]) (l := []) (by kernel_rfl) trivial ?_
      refine ge_nil fun a hF => hK31 _ _ ?_ a hF
      refine we_seq fun K32 hK32 => ?_
      rcases hq7 : slices_symMergeCmpFunc_int.p4 x1 x2 x3 with _ | (⟨z13, z14⟩ | rr7)
      · rw [hq7] at h; cases h
      · rw [hq7] at h
        simp only [] at h
        refine we_keep (e' := [(0, (.slice A0 l0.length c0)), (1, .int .i64 x1), (2, .int .i64 x2), (3, .int .i64 x3), (4, .func (.func 59) #[] #[.pointer (some ⟨bg4_0, 0, none⟩), .pointer (some ⟨bg4_1, 0, none⟩)]), (18, .int .i64 (IntKind.i64.wrap (Int.fdiv (IntKind.u64.wrap (IntKind.i64.wrap (x1 + x3))) (2 ^ 1)))), (19, .int .i64 (IntKind.i64.wrap ((IntKind.i64.wrap (Int.fdiv (IntKind.u64.wrap (IntKind.i64.wrap (x1 + x3))) (2 ^ 1))) + x2))), (20, .int .i64 0), (21, .int .i64 0), (25, .int .i64 x2), (26, .int .i64 x1), (27, .int .i64 (IntKind.i64.wrap (x2 - x1))), (28, .bool false), (77, .int .i64 x3), (78, .int .i64 x2), (79, .int .i64 (IntKind.i64.wrap (x3 - x2))), (80, .bool false), (129, .int .i64 x1), (130, .int .i64 x3), (131, .int .i64 (IntKind.i64.wrap (x1 + x3))), (132, .int .u64 (IntKind.u64.wrap (IntKind.i64.wrap (x1 + x3)))), (133, .int .u64 (Int.fdiv (IntKind.u64.wrap (IntKind.i64.wrap (x1 + x3))) (2 ^ 1))), (134, .int .i64 (IntKind.i64.wrap (Int.fdiv (IntKind.u64.wrap (IntKind.i64.wrap (x1 + x3))) (2 ^ 1)))), (135, .int .i64 (IntKind.i64.wrap (Int.fdiv (IntKind.u64.wrap (IntKind.i64.wrap (x1 + x3))) (2 ^ 1)))), (136, .int .i64 x2), (137, .int .i64 (IntKind.i64.wrap ((IntKind.i64.wrap (Int.fdiv (IntKind.u64.wrap (IntKind.i64.wrap (x1 + x3))) (2 ^ 1))) + x2)))]) ⟨by kernel_rfl, by kernel_rfl, by kernel_rfl, by kernel_rfl, by kernel_rfl, by kernel_rfl, by kernel_rfl, by kernel_rfl, by kernel_rfl, by kernel_rfl, by kernel_rfl, by kernel_rfl, by kernel_rfl, by kernel_rfl, by kernel_rfl, by kernel_rfl, by kernel_rfl, by kernel_rfl, by kernel_rfl, by kernel_rfl, by kernel_rfl, by kernel_rfl, by kernel_rfl, by kernel_rfl, by kernel_rfl, by kernel_rfl, trivial⟩ (slices_symMergeCmpFunc_int_p4 K w0 l0 A0 c0 x1 x2 x3 bg4_0 bg4_1 lg4_1 Ag4_1 cg4_1 LT hRg4_1 hLg4_1 recf hrec hc1 hc9 _ hq7 _ hS _ ?_)
        rintro _ a w11 ⟨rfl, hS99, hF⟩
        replace hS99 : St w0 w11 [Own.blk bg4_0 (.cells #[.func (.func 37) #[] #[]] 74 (0, 0)), Own.blk bg4_1 (.cells #[.slice Ag4_1 lg4_1.length cg4_1] 22 (0, 0)), Own.of (.slice A0 l0.length c0) 3 l0, Own.all LT] := hS99
        refine hK32 [(0, (.slice A0 l0.length c0)), (1, .int .i64 x1), (2, .int .i64 x2), (3, .int .i64 x3), (4, .func (.func 59) #[] #[.pointer (some ⟨bg4_0, 0, none⟩), .pointer (some ⟨bg4_1, 0, none⟩)]), (18, .int .i64 (IntKind.i64.wrap (Int.fdiv (IntKind.u64.wrap (IntKind.i64.wrap (x1 + x3))) (2 ^ 1)))), (19, .int .i64 (IntKind.i64.wrap ((IntKind.i64.wrap (Int.fdiv (IntKind.u64.wrap (IntKind.i64.wrap (x1 + x3))) (2 ^ 1))) + x2))), (20, .int .i64 z13), (21, .int .i64 z14)] w11 ?_ a hF
        refine we_seq fun K36 hK36 => ?_
        refine we_region [(0, 0), (1, 0), (2, 0)] rfl ?_
        refine ge_batch [0, 1, 2] (ans := []) (vs := [(22, .int .i64 (IntKind.i64.wrap ((IntKind.i64.wrap ((IntKind.i64.wrap (Int.fdiv (IntKind.u64.wrap (IntKind.i64.wrap (x1 + x3))) (2 ^ 1))) + x2)) - 1))), (148, .int .i64 (IntKind.i64.wrap ((IntKind.i64.wrap ((IntKind.i64.wrap (Int.fdiv (IntKind.u64.wrap (IntKind.i64.wrap (x1 + x3))) (2 ^ 1))) + x2)) - 1))), (147, .int .i64 (IntKind.i64.wrap ((IntKind.i64.wrap (Int.fdiv (IntKind.u64.wrap (IntKind.i64.wrap (x1 + x3))) (2 ^ 1))) + x2)))]) (l := []) (by kernel_rfl) trivial ?_
        refine ge_nil fun a hF => hK36 _ _ ?_ a hF
        refine we_seq fun K37 hK37 => ?_
        refine we_block ?_
        have hS100 := hS99.bring 3 rfl
        have hS101 := hS100.bring 3 rfl
        have hS102 := hS101.bring 3 rfl
        have hS103 := hS102.bring 3 rfl
        rcases hq9 : iter (slices_symMergeCmpFunc_int.r5 l0 x1 x2 x3 lg4_1) K (z13, z14) with _ | (z18 | rr6)
        · rw [hq9] at h; cases h
        · rw [hq9] at h
          simp only [] at h
          refine we_iter (A := slices_symMergeCmpFunc_int.A5 K w0 l0 A0 c0 x1 x2 x3 bg4_0 bg4_1 lg4_1 Ag4_1 cg4_1 LT hRg4_1 hLg4_1 recf hrec hc1 hc9 z13 z14) (B := slices_symMergeCmpFunc_int.B5 K w0 l0 A0 c0 x1 x2 x3 bg4_0 bg4_1 lg4_1 Ag4_1 cg4_1 LT hRg4_1 hLg4_1 recf hrec hc1 hc9 z13 z14) hq9 (fun a hF => ⟨hS103, hF.weaken ⟨by kernel_rfl, by kernel_rfl, by kernel_rfl, by kernel_rfl, by kernel_rfl, by kernel_rfl, by kernel_rfl, by kernel_rfl, by kernel_rfl, by kernel_rfl, trivial⟩⟩) (fun s o hf a w hA Q hQ => slices_symMergeCmpFunc_int_r5 K w0 l0 A0 c0 x1 x2 x3 bg4_0 bg4_1 lg4_1 Ag4_1 cg4_1 LT hRg4_1 hLg4_1 recf hrec hc1 hc9 z13 z14 s o hf a w hA Q hQ) ?_
          rintro _ a w13 _ ⟨rfl, hS119, hF⟩
          replace hS119 : St w0 w13 [Own.blk bg4_0 (.cells #[.func (.func 37) #[] #[]] 74 (0, 0)), Own.blk bg4_1 (.cells #[.slice Ag4_1 lg4_1.length cg4_1] 22 (0, 0)), Own.of (.slice A0 l0.length c0) 3 l0, Own.all LT] := hS119
          refine hK37 [(0, (.slice A0 l0.length c0)), (1, .int .i64 x1), (2, .int .i64 x2), (3, .int .i64 x3), (4, .func (.func 59) #[] #[.pointer (some ⟨bg4_0, 0, none⟩), .pointer (some ⟨bg4_1, 0, none⟩)]), (18, .int .i64 (IntKind.i64.wrap (Int.fdiv (IntKind.u64.wrap (IntKind.i64.wrap (x1 + x3))) (2 ^ 1)))), (19, .int .i64 (IntKind.i64.wrap ((IntKind.i64.wrap (Int.fdiv (IntKind.u64.wrap (IntKind.i64.wrap (x1 + x3))) (2 ^ 1))) + x2))), (20, .int .i64 z18)] w13 ?_ a hF
          refine we_seq fun K42 hK42 => ?_
          refine we_region [(0, 0), (1, 0), (2, 0), (3, 0)] rfl ?_
          refine ge_batch [0, 1, 2, 3] (ans := []) (vs := [(24, .int .i64 (IntKind.i64.wrap ((IntKind.i64.wrap ((IntKind.i64.wrap (Int.fdiv (IntKind.u64.wrap (IntKind.i64.wrap (x1 + x3))) (2 ^ 1))) + x2)) - z18))), (177, .int .i64 (IntKind.i64.wrap ((IntKind.i64.wrap ((IntKind.i64.wrap (Int.fdiv (IntKind.u64.wrap (IntKind.i64.wrap (x1 + x3))) (2 ^ 1))) + x2)) - z18))), (176, .int .i64 z18), (175, .int .i64 (IntKind.i64.wrap ((IntKind.i64.wrap (Int.fdiv (IntKind.u64.wrap (IntKind.i64.wrap (x1 + x3))) (2 ^ 1))) + x2)))]) (l := []) (by kernel_rfl) trivial ?_
          refine ge_nil fun a hF => hK42 _ _ ?_ a hF
          refine we_seq fun K43 hK43 => ?_
          rcases hq11 : slices_symMergeCmpFunc_int.p6 K l0 x1 x2 x3 lg4_1 z18 with _ | (m8 | rr5)
          · rw [hq11] at h; cases h
          · rw [hq11] at h
            simp only [] at h
            refine we_keep (e' := [(0, (.slice A0 l0.length c0)), (1, .int .i64 x1), (2, .int .i64 x2), (3, .int .i64 x3), (4, .func (.func 59) #[] #[.pointer (some ⟨bg4_0, 0, none⟩), .pointer (some ⟨bg4_1, 0, none⟩)]), (18, .int .i64 (IntKind.i64.wrap (Int.fdiv (IntKind.u64.wrap (IntKind.i64.wrap (x1 + x3))) (2 ^ 1)))), (19, .int .i64 (IntKind.i64.wrap ((IntKind.i64.wrap (Int.fdiv (IntKind.u64.wrap (IntKind.i64.wrap (x1 + x3))) (2 ^ 1))) + x2))), (20, .int .i64 z18), (24, .int .i64 (IntKind.i64.wrap ((IntKind.i64.wrap ((IntKind.i64.wrap (Int.fdiv (IntKind.u64.wrap (IntKind.i64.wrap (x1 + x3))) (2 ^ 1))) + x2)) - z18))), (175, .int .i64 (IntKind.i64.wrap ((IntKind.i64.wrap (Int.fdiv (IntKind.u64.wrap (IntKind.i64.wrap (x1 + x3))) (2 ^ 1))) + x2))), (176, .int .i64 z18), (177, .int .i64 (IntKind.i64.wrap ((IntKind.i64.wrap ((IntKind.i64.wrap (Int.fdiv (IntKind.u64.wrap (IntKind.i64.wrap (x1 + x3))) (2 ^ 1))) + x2)) - z18)))]) ⟨by kernel_rfl, by kernel_rfl, by kernel_rfl, by kernel_rfl, by kernel_rfl, by kernel_rfl, by kernel_rfl, by kernel_rfl, by kernel_rfl, by kernel_rfl, by kernel_rfl, by kernel_rfl, trivial⟩ (slices_symMergeCmpFunc_int_p6 K w0 l0 A0 c0 x1 x2 x3 bg4_0 bg4_1 lg4_1 Ag4_1 cg4_1 LT hRg4_1 hLg4_1 recf hrec hc1 hc9 z13 z14 z18 _ hq11 _ hS119 _ ?_)
            rintro _ a w15 ⟨rfl, hRz3, hS138, hF⟩
            replace hS138 : St w0 w15 [Own.blk bg4_0 (.cells #[.func (.func 37) #[] #[]] 74 (0, 0)), Own.blk bg4_1 (.cells #[.slice Ag4_1 lg4_1.length cg4_1] 22 (0, 0)), Own.of (.slice A0 m8.length c0) 3 m8, Own.all LT] := hS138
            refine hK43 [(0, (.slice A0 m8.length c0)), (1, .int .i64 x1), (3, .int .i64 x3), (4, .func (.func 59) #[] #[.pointer (some ⟨bg4_0, 0, none⟩), .pointer (some ⟨bg4_1, 0, none⟩)]), (18, .int .i64 (IntKind.i64.wrap (Int.fdiv (IntKind.u64.wrap (IntKind.i64.wrap (x1 + x3))) (2 ^ 1)))), (20, .int .i64 z18), (24, .int .i64 (IntKind.i64.wrap ((IntKind.i64.wrap ((IntKind.i64.wrap (Int.fdiv (IntKind.u64.wrap (IntKind.i64.wrap (x1 + x3))) (2 ^ 1))) + x2)) - z18)))] w15 ?_ a hF
            refine we_seq fun K45 hK45 => ?_
            refine we_seq fun K46 hK46 => ?_
            refine we_region [(0, 0), (1, 0), (2, 0), (3, 0), (4, 0), (5, 0), (6, 0), (7, 0)] rfl ?_
            refine ge_batch [0, 1, 2, 3] (ans := []) (vs := [(195, .bool (decide (x1 < z18))), (194, .bool (decide (x1 < z18))), (193, .int .i64 z18), (192, .int .i64 x1)]) (l := []) (by kernel_rfl) trivial ?_
            by_cases hc24 : x1 < z18
            · rw [if_pos hc24] at h
              refine ge_known (t := 195) (b := decide (x1 < z18)) (c := true) (by kernel_rfl) (decide_eq_true hc24) ?_
              refine ge_batch [4, 5, 6, 7] (ans := []) (vs := [(199, .bool (decide (z18 < (IntKind.i64.wrap (Int.fdiv (IntKind.u64.wrap (IntKind.i64.wrap (x1 + x3))) (2 ^ 1)))))), (198, .bool (decide (z18 < (IntKind.i64.wrap (Int.fdiv (IntKind.u64.wrap (IntKind.i64.wrap (x1 + x3))) (2 ^ 1)))))), (197, .int .i64 (IntKind.i64.wrap (Int.fdiv (IntKind.u64.wrap (IntKind.i64.wrap (x1 + x3))) (2 ^ 1)))), (196, .int .i64 z18)]) (l := []) (by kernel_rfl) trivial ?_
              refine ge_nil fun a hF => hK46 _ _ ?_ a hF
              by_cases hc25 : z18 < (IntKind.i64.wrap (Int.fdiv (IntKind.u64.wrap (IntKind.i64.wrap (x1 + x3))) (2 ^ 1)))
              · rw [if_pos hc25] at h
                refine we_known (t := 199) (b := decide (z18 < (IntKind.i64.wrap (Int.fdiv (IntKind.u64.wrap (IntKind.i64.wrap (x1 + x3))) (2 ^ 1))))) (v := true) (by kernel_rfl) (decide_eq_true hc25) ?_
                refine we_true (by kernel_rfl) ?_
                refine we_region [(0, 0), (1, 0), (2, 0), (3, 0), (4, 0), (5, 2)] rfl ?_
                refine ge_batch [0, 1, 2, 3, 4] (ans := []) (vs := [(204, .func (.func 59) #[] #[.pointer (some ⟨bg4_0, 0, none⟩), .pointer (some ⟨bg4_1, 0, none⟩)]), (203, .int .i64 (IntKind.i64.wrap (Int.fdiv (IntKind.u64.wrap (IntKind.i64.wrap (x1 + x3))) (2 ^ 1)))), (202, .int .i64 z18), (201, .int .i64 x1), (200, (.slice A0 m8.length c0))]) (l := []) (by kernel_rfl) trivial ?_
                rcases hq12 : recf m8 x1 z18 (IntKind.i64.wrap (Int.fdiv (IntKind.u64.wrap (IntKind.i64.wrap (x1 + x3))) (2 ^ 1))) lg4_1 with _ | r5
                · rw [hq12] at h; cases h
                rw [hq12] at h
                simp only [] at h
                have hS139 := hS138.bring 1 rfl
                have hS140 := hS139.bring 1 rfl
                have hS141 := hS140.bring 2 rfl
                have hS143 : St w0 w15 [Own.of (.slice A0 m8.length c0) 3 m8, Own.blk bg4_0 (.cells #[.func (.func 37) #[] #[]] 74 (0, 0)), Own.blk bg4_1 (.cells #[.slice Ag4_1 lg4_1.length cg4_1] 22 (0, 0)), Own.all [Own.all LT]] := hS141.packN 3
                refine ge_call2 (m := 0) (d := some 205) (f := 79) (args := #[.slice A0 m8.length c0, .int .i64 x1, .int .i64 z18, .int .i64 (IntKind.i64.wrap (Int.fdiv (IntKind.u64.wrap (IntKind.i64.wrap (x1 + x3))) (2 ^ 1))), .func (.func 59) #[] #[.pointer (some ⟨bg4_0, 0, none⟩), .pointer (some ⟨bg4_1, 0, none⟩)]]) (by kernel_rfl) (hrec m8 A0 c0 x1 z18 (IntKind.i64.wrap (Int.fdiv (IntKind.u64.wrap (IntKind.i64.wrap (x1 + x3))) (2 ^ 1))) bg4_0 bg4_1 lg4_1 Ag4_1 cg4_1 _ _ _ hS143 hRg4_1 hLg4_1 _ hq12) ?_
                rintro _ w16 ⟨rfl, hE6, hS142⟩
                refine ⟨_, rfl, ?_⟩
                have hS144 : St w0 w16 [Own.of (.slice A0 r5.length c0) 3 r5, Own.blk bg4_0 (.cells #[.func (.func 37) #[] #[]] 74 (0, 0)), Own.blk bg4_1 (.cells #[.slice Ag4_1 lg4_1.length cg4_1] 22 (0, 0)), Own.all LT] := hS142.unpack [Own.of (.slice A0 r5.length c0) 3 r5, Own.blk bg4_0 (.cells #[.func (.func 37) #[] #[]] 74 (0, 0)), Own.blk bg4_1 (.cells #[.slice Ag4_1 lg4_1.length cg4_1] 22 (0, 0))]
                refine ge_same (t := 0) (v := (.slice A0 m8.length c0)) (v' := (.slice A0 r5.length c0)) (by kernel_rfl) (by rw [show m8.length = r5.length from hE6]) ?_
                refine ge_same (t := 200) (v := (.slice A0 m8.length c0)) (v' := (.slice A0 r5.length c0)) (by kernel_rfl) (by rw [show m8.length = r5.length from hE6]) ?_
                have hLio7 : l0.length = r5.length := Eq.trans hRz3 hE6
                refine ge_nil fun a hF => hK45 _ _ ?_ a hF
                refine we_seq fun K47 hK47 => ?_
                refine we_region [(0, 0), (1, 0), (2, 0), (3, 0), (4, 0), (5, 0), (6, 0), (7, 0)] rfl ?_
                refine ge_batch [0, 1, 2, 3] (ans := []) (vs := [(209, .bool (decide ((IntKind.i64.wrap (Int.fdiv (IntKind.u64.wrap (IntKind.i64.wrap (x1 + x3))) (2 ^ 1))) < (IntKind.i64.wrap ((IntKind.i64.wrap ((IntKind.i64.wrap (Int.fdiv (IntKind.u64.wrap (IntKind.i64.wrap (x1 + x3))) (2 ^ 1))) + x2)) - z18))))), (208, .bool (decide ((IntKind.i64.wrap (Int.fdiv (IntKind.u64.wrap (IntKind.i64.wrap (x1 + x3))) (2 ^ 1))) < (IntKind.i64.wrap ((IntKind.i64.wrap ((IntKind.i64.wrap (Int.fdiv (IntKind.u64.wrap (IntKind.i64.wrap (x1 + x3))) (2 ^ 1))) + x2)) - z18))))), (207, .int .i64 (IntKind.i64.wrap ((IntKind.i64.wrap ((IntKind.i64.wrap (Int.fdiv (IntKind.u64.wrap (IntKind.i64.wrap (x1 + x3))) (2 ^ 1))) + x2)) - z18))), (206, .int .i64 (IntKind.i64.wrap (Int.fdiv (IntKind.u64.wrap (IntKind.i64.wrap (x1 + x3))) (2 ^ 1))))]) (l := []) (by kernel_rfl) trivial ?_
                by_cases hc26 : (IntKind.i64.wrap (Int.fdiv (IntKind.u64.wrap (IntKind.i64.wrap (x1 + x3))) (2 ^ 1))) < (IntKind.i64.wrap ((IntKind.i64.wrap ((IntKind.i64.wrap (Int.fdiv (IntKind.u64.wrap (IntKind.i64.wrap (x1 + x3))) (2 ^ 1))) + x2)) - z18))
                · rw [if_pos hc26] at h
                  refine ge_known (t := 209) (b := decide ((IntKind.i64.wrap (Int.fdiv (IntKind.u64.wrap (IntKind.i64.wrap (x1 + x3))) (2 ^ 1))) < (IntKind.i64.wrap ((IntKind.i64.wrap ((IntKind.i64.wrap (Int.fdiv (IntKind.u64.wrap (IntKind.i64.wrap (x1 + x3))) (2 ^ 1))) + x2)) - z18)))) (c := true) (by kernel_rfl) (decide_eq_true hc26) ?_
                  refine ge_batch [4, 5, 6, 7] (ans := []) (vs := [(213, .bool (decide ((IntKind.i64.wrap ((IntKind.i64.wrap ((IntKind.i64.wrap (Int.fdiv (IntKind.u64.wrap (IntKind.i64.wrap (x1 + x3))) (2 ^ 1))) + x2)) - z18)) < x3))), (212, .bool (decide ((IntKind.i64.wrap ((IntKind.i64.wrap ((IntKind.i64.wrap (Int.fdiv (IntKind.u64.wrap (IntKind.i64.wrap (x1 + x3))) (2 ^ 1))) + x2)) - z18)) < x3))), (211, .int .i64 x3), (210, .int .i64 (IntKind.i64.wrap ((IntKind.i64.wrap ((IntKind.i64.wrap (Int.fdiv (IntKind.u64.wrap (IntKind.i64.wrap (x1 + x3))) (2 ^ 1))) + x2)) - z18)))]) (l := []) (by kernel_rfl) trivial ?_
                  refine ge_nil fun a hF => hK47 _ _ ?_ a hF
                  by_cases hc27 : (IntKind.i64.wrap ((IntKind.i64.wrap ((IntKind.i64.wrap (Int.fdiv (IntKind.u64.wrap (IntKind.i64.wrap (x1 + x3))) (2 ^ 1))) + x2)) - z18)) < x3
                  · rw [if_pos hc27] at h
                    refine we_known (t := 213) (b := decide ((IntKind.i64.wrap ((IntKind.i64.wrap ((IntKind.i64.wrap (Int.fdiv (IntKind.u64.wrap (IntKind.i64.wrap (x1 + x3))) (2 ^ 1))) + x2)) - z18)) < x3)) (v := true) (by kernel_rfl) (decide_eq_true hc27) ?_
                    refine we_true (by kernel_rfl) ?_
                    refine we_region [(0, 0), (1, 0), (2, 0), (3, 0), (4, 0), (5, 2)] rfl ?_
                    refine ge_batch [0, 1, 2, 3, 4] (ans := []) (vs := [(218, .func (.func 59) #[] #[.pointer (some ⟨bg4_0, 0, none⟩), .pointer (some ⟨bg4_1, 0, none⟩)]), (217, .int .i64 x3), (216, .int .i64 (IntKind.i64.wrap ((IntKind.i64.wrap ((IntKind.i64.wrap (Int.fdiv (IntKind.u64.wrap (IntKind.i64.wrap (x1 + x3))) (2 ^ 1))) + x2)) - z18))), (215, .int .i64 (IntKind.i64.wrap (Int.fdiv (IntKind.u64.wrap (IntKind.i64.wrap (x1 + x3))) (2 ^ 1)))), (214, (.slice A0 r5.length c0))]) (l := []) (by kernel_rfl) trivial ?_
                    rcases hq13 : recf r5 (IntKind.i64.wrap (Int.fdiv (IntKind.u64.wrap (IntKind.i64.wrap (x1 + x3))) (2 ^ 1))) (IntKind.i64.wrap ((IntKind.i64.wrap ((IntKind.i64.wrap (Int.fdiv (IntKind.u64.wrap (IntKind.i64.wrap (x1 + x3))) (2 ^ 1))) + x2)) - z18)) x3 lg4_1 with _ | r6
                    · rw [hq13] at h; cases h
                    rw [hq13] at h
                    simp only [] at h
                    have hS145 := hS144.bring 2 rfl
                    have hS146 := hS145.bring 2 rfl
                    have hS147 := hS146.bring 2 rfl
                    have hS149 : St w0 w16 [Own.of (.slice A0 r5.length c0) 3 r5, Own.blk bg4_0 (.cells #[.func (.func 37) #[] #[]] 74 (0, 0)), Own.blk bg4_1 (.cells #[.slice Ag4_1 lg4_1.length cg4_1] 22 (0, 0)), Own.all [Own.all LT]] := hS147.packN 3
                    refine ge_call2 (m := 0) (d := some 219) (f := 79) (args := #[.slice A0 r5.length c0, .int .i64 (IntKind.i64.wrap (Int.fdiv (IntKind.u64.wrap (IntKind.i64.wrap (x1 + x3))) (2 ^ 1))), .int .i64 (IntKind.i64.wrap ((IntKind.i64.wrap ((IntKind.i64.wrap (Int.fdiv (IntKind.u64.wrap (IntKind.i64.wrap (x1 + x3))) (2 ^ 1))) + x2)) - z18)), .int .i64 x3, .func (.func 59) #[] #[.pointer (some ⟨bg4_0, 0, none⟩), .pointer (some ⟨bg4_1, 0, none⟩)]]) (by kernel_rfl) (hrec r5 A0 c0 (IntKind.i64.wrap (Int.fdiv (IntKind.u64.wrap (IntKind.i64.wrap (x1 + x3))) (2 ^ 1))) (IntKind.i64.wrap ((IntKind.i64.wrap ((IntKind.i64.wrap (Int.fdiv (IntKind.u64.wrap (IntKind.i64.wrap (x1 + x3))) (2 ^ 1))) + x2)) - z18)) x3 bg4_0 bg4_1 lg4_1 Ag4_1 cg4_1 _ _ _ hS149 hRg4_1 hLg4_1 _ hq13) ?_
                    rintro _ w17 ⟨rfl, hE7, hS148⟩
                    refine ⟨_, rfl, ?_⟩
                    have hS150 : St w0 w17 [Own.of (.slice A0 r6.length c0) 3 r6, Own.blk bg4_0 (.cells #[.func (.func 37) #[] #[]] 74 (0, 0)), Own.blk bg4_1 (.cells #[.slice Ag4_1 lg4_1.length cg4_1] 22 (0, 0)), Own.all LT] := hS148.unpack [Own.of (.slice A0 r6.length c0) 3 r6, Own.blk bg4_0 (.cells #[.func (.func 37) #[] #[]] 74 (0, 0)), Own.blk bg4_1 (.cells #[.slice Ag4_1 lg4_1.length cg4_1] 22 (0, 0))]
                    refine ge_same (t := 0) (v := (.slice A0 r5.length c0)) (v' := (.slice A0 r6.length c0)) (by kernel_rfl) (by rw [show r5.length = r6.length from hE7]) ?_
                    refine ge_same (t := 200) (v := (.slice A0 r5.length c0)) (v' := (.slice A0 r6.length c0)) (by kernel_rfl) (by rw [show r5.length = r6.length from hE7]) ?_
                    refine ge_same (t := 214) (v := (.slice A0 r5.length c0)) (v' := (.slice A0 r6.length c0)) (by kernel_rfl) (by rw [show r5.length = r6.length from hE7]) ?_
                    have hLio8 : l0.length = r6.length := Eq.trans hLio7 hE7
                    have hS151 := hS150.bring 3 rfl
                    have hS152 := hS151.bring 3 rfl
                    have hS153 := hS152.bring 3 rfl
                    have hS154 := hS153.bring 3 rfl
                    obtain rfl := Option.some.inj h
                    exact ge_nil (post_end (rs := []) (ans := []) (vs := []) (l := []) rfl (by kernel_rfl) trivial ⟨rfl, hLio8, hS154⟩)
                  · rw [if_neg hc27] at h
                    refine we_known (t := 213) (b := decide ((IntKind.i64.wrap ((IntKind.i64.wrap ((IntKind.i64.wrap (Int.fdiv (IntKind.u64.wrap (IntKind.i64.wrap (x1 + x3))) (2 ^ 1))) + x2)) - z18)) < x3)) (v := false) (by kernel_rfl) (decide_eq_false hc27) ?_
                    refine we_false (by kernel_rfl) ?_
                    have hS155 := hS144.bring 3 rfl
                    have hS156 := hS155.bring 3 rfl
                    have hS157 := hS156.bring 3 rfl
                    have hS158 := hS157.bring 3 rfl
                    obtain rfl := Option.some.inj h
                    exact we_skip (post_end (rs := []) (ans := []) (vs := []) (l := []) rfl (by kernel_rfl) trivial ⟨rfl, hLio7, hS158⟩)
                · rw [if_neg hc26] at h
                  refine ge_known (t := 209) (b := decide ((IntKind.i64.wrap (Int.fdiv (IntKind.u64.wrap (IntKind.i64.wrap (x1 + x3))) (2 ^ 1))) < (IntKind.i64.wrap ((IntKind.i64.wrap ((IntKind.i64.wrap (Int.fdiv (IntKind.u64.wrap (IntKind.i64.wrap (x1 + x3))) (2 ^ 1))) + x2)) - z18)))) (c := false) (by kernel_rfl) (decide_eq_false hc26) ?_
                  refine ge_batch [4, 5, 6, 7] (ans := []) (vs := [(213, .bool false), (212, undef), (211, undef), (210, undef)]) (l := []) (by kernel_rfl) trivial ?_
                  refine ge_nil fun a hF => hK47 _ _ ?_ a hF
                  refine we_false (by kernel_rfl) ?_
                  have hS159 := hS144.bring 3 rfl
                  have hS160 := hS159.bring 3 rfl
                  have hS161 := hS160.bring 3 rfl
                  have hS162 := hS161.bring 3 rfl
                  obtain rfl := Option.some.inj h
                  exact we_skip (post_end (rs := []) (ans := []) (vs := []) (l := []) rfl (by kernel_rfl) trivial ⟨rfl, hLio7, hS162⟩)
              · rw [if_neg hc25] at h
                refine we_known (t := 199) (b := decide (z18 < (IntKind.i64.wrap (Int.fdiv (IntKind.u64.wrap (IntKind.i64.wrap (x1 + x3))) (2 ^ 1))))) (v := false) (by kernel_rfl) (decide_eq_false hc25) ?_
                refine we_false (by kernel_rfl) ?_
                refine we_skip fun a hF => hK45 _ _ ?_ a hF
                refine we_seq fun K48 hK48 => ?_
                refine we_region [(0, 0), (1, 0), (2, 0), (3, 0), (4, 0), (5, 0), (6, 0), (7, 0)] rfl ?_
                refine ge_batch [0, 1, 2, 3] (ans := []) (vs := [(209, .bool (decide ((IntKind.i64.wrap (Int.fdiv (IntKind.u64.wrap (IntKind.i64.wrap (x1 + x3))) (2 ^ 1))) < (IntKind.i64.wrap ((IntKind.i64.wrap ((IntKind.i64.wrap (Int.fdiv (IntKind.u64.wrap (IntKind.i64.wrap (x1 + x3))) (2 ^ 1))) + x2)) - z18))))), (208, .bool (decide ((IntKind.i64.wrap (Int.fdiv (IntKind.u64.wrap (IntKind.i64.wrap (x1 + x3))) (2 ^ 1))) < (IntKind.i64.wrap ((IntKind.i64.wrap ((IntKind.i64.wrap (Int.fdiv (IntKind.u64.wrap (IntKind.i64.wrap (x1 + x3))) (2 ^ 1))) + x2)) - z18))))), (207, .int .i64 (IntKind.i64.wrap ((IntKind.i64.wrap ((IntKind.i64.wrap (Int.fdiv (IntKind.u64.wrap (IntKind.i64.wrap (x1 + x3))) (2 ^ 1))) + x2)) - z18))), (206, .int .i64 (IntKind.i64.wrap (Int.fdiv (IntKind.u64.wrap (IntKind.i64.wrap (x1 + x3))) (2 ^ 1))))]) (l := []) (by kernel_rfl) trivial ?_
                by_cases hc28 : (IntKind.i64.wrap (Int.fdiv (IntKind.u64.wrap (IntKind.i64.wrap (x1 + x3))) (2 ^ 1))) < (IntKind.i64.wrap ((IntKind.i64.wrap ((IntKind.i64.wrap (Int.fdiv (IntKind.u64.wrap (IntKind.i64.wrap (x1 + x3))) (2 ^ 1))) + x2)) - z18))
                · rw [if_pos hc28] at h
                  refine ge_known (t := 209) (b := decide ((IntKind.i64.wrap (Int.fdiv (IntKind.u64.wrap (IntKind.i64.wrap (x1 + x3))) (2 ^ 1))) < (IntKind.i64.wrap ((IntKind.i64.wrap ((IntKind.i64.wrap (Int.fdiv (IntKind.u64.wrap (IntKind.i64.wrap (x1 + x3))) (2 ^ 1))) + x2)) - z18)))) (c := true) (by kernel_rfl) (decide_eq_true hc28) ?_
                  refine ge_batch [4, 5, 6, 7] (ans := []) (vs := [(213, .bool (decide ((IntKind.i64.wrap ((IntKind.i64.wrap ((IntKind.i64.wrap (Int.fdiv (IntKind.u64.wrap (IntKind.i64.wrap (x1 + x3))) (2 ^ 1))) + x2)) - z18)) < x3))), (212, .bool (decide ((IntKind.i64.wrap ((IntKind.i64.wrap ((IntKind.i64.wrap (Int.fdiv (IntKind.u64.wrap (IntKind.i64.wrap (x1 + x3))) (2 ^ 1))) + x2)) - z18)) < x3))), (211, .int .i64 x3), (210, .int .i64 (IntKind.i64.wrap ((IntKind.i64.wrap ((IntKind.i64.wrap (Int.fdiv (IntKind.u64.wrap (IntKind.i64.wrap (x1 + x3))) (2 ^ 1))) + x2)) - z18)))]) (l := []) (by kernel_rfl) trivial ?_
                  refine ge_nil fun a hF => hK48 _ _ ?_ a hF
                  by_cases hc29 : (IntKind.i64.wrap ((IntKind.i64.wrap ((IntKind.i64.wrap (Int.fdiv (IntKind.u64.wrap (IntKind.i64.wrap (x1 + x3))) (2 ^ 1))) + x2)) - z18)) < x3
                  · rw [if_pos hc29] at h
                    refine we_known (t := 213) (b := decide ((IntKind.i64.wrap ((IntKind.i64.wrap ((IntKind.i64.wrap (Int.fdiv (IntKind.u64.wrap (IntKind.i64.wrap (x1 + x3))) (2 ^ 1))) + x2)) - z18)) < x3)) (v := true) (by kernel_rfl) (decide_eq_true hc29) ?_
                    refine we_true (by kernel_rfl) ?_
                    refine we_region [(0, 0), (1, 0), (2, 0), (3, 0), (4, 0), (5, 2)] rfl ?_
                    refine ge_batch [0, 1, 2, 3, 4] (ans := []) (vs := [(218, .func (.func 59) #[] #[.pointer (some ⟨bg4_0, 0, none⟩), .pointer (some ⟨bg4_1, 0, none⟩)]), (217, .int .i64 x3), (216, .int .i64 (IntKind.i64.wrap ((IntKind.i64.wrap ((IntKind.i64.wrap (Int.fdiv (IntKind.u64.wrap (IntKind.i64.wrap (x1 + x3))) (2 ^ 1))) + x2)) - z18))), (215, .int .i64 (IntKind.i64.wrap (Int.fdiv (IntKind.u64.wrap (IntKind.i64.wrap (x1 + x3))) (2 ^ 1)))), (214, (.slice A0 m8.length c0))]) (l := []) (by kernel_rfl) trivial ?_
                    rcases hq14 : recf m8 (IntKind.i64.wrap (Int.fdiv (IntKind.u64.wrap (IntKind.i64.wrap (x1 + x3))) (2 ^ 1))) (IntKind.i64.wrap ((IntKind.i64.wrap ((IntKind.i64.wrap (Int.fdiv (IntKind.u64.wrap (IntKind.i64.wrap (x1 + x3))) (2 ^ 1))) + x2)) - z18)) x3 lg4_1 with _ | r7
                    · rw [hq14] at h; cases h
                    rw [hq14] at h
                    simp only [] at h
                    have hS163 := hS138.bring 1 rfl
                    have hS164 := hS163.bring 1 rfl
                    have hS165 := hS164.bring 2 rfl
                    have hS167 : St w0 w15 [Own.of (.slice A0 m8.length c0) 3 m8, Own.blk bg4_0 (.cells #[.func (.func 37) #[] #[]] 74 (0, 0)), Own.blk bg4_1 (.cells #[.slice Ag4_1 lg4_1.length cg4_1] 22 (0, 0)), Own.all [Own.all LT]] := hS165.packN 3
                    refine ge_call2 (m := 0) (d := some 219) (f := 79) (args := #[.slice A0 m8.length c0, .int .i64 (IntKind.i64.wrap (Int.fdiv (IntKind.u64.wrap (IntKind.i64.wrap (x1 + x3))) (2 ^ 1))), .int .i64 (IntKind.i64.wrap ((IntKind.i64.wrap ((IntKind.i64.wrap (Int.fdiv (IntKind.u64.wrap (IntKind.i64.wrap (x1 + x3))) (2 ^ 1))) + x2)) - z18)), .int .i64 x3, .func (.func 59) #[] #[.pointer (some ⟨bg4_0, 0, none⟩), .pointer (some ⟨bg4_1, 0, none⟩)]]) (by kernel_rfl) (hrec m8 A0 c0 (IntKind.i64.wrap (Int.fdiv (IntKind.u64.wrap (IntKind.i64.wrap (x1 + x3))) (2 ^ 1))) (IntKind.i64.wrap ((IntKind.i64.wrap ((IntKind.i64.wrap (Int.fdiv (IntKind.u64.wrap (IntKind.i64.wrap (x1 + x3))) (2 ^ 1))) + x2)) - z18)) x3 bg4_0 bg4_1 lg4_1 Ag4_1 cg4_1 _ _ _ hS167 hRg4_1 hLg4_1 _ hq14) ?_
                    rintro _ w18 ⟨rfl, hE8, hS166⟩
                    refine ⟨_, rfl, ?_⟩
                    have hS168 : St w0 w18 [Own.of (.slice A0 r7.length c0) 3 r7, Own.blk bg4_0 (.cells #[.func (.func 37) #[] #[]] 74 (0, 0)), Own.blk bg4_1 (.cells #[.slice Ag4_1 lg4_1.length cg4_1] 22 (0, 0)), Own.all LT] := hS166.unpack [Own.of (.slice A0 r7.length c0) 3 r7, Own.blk bg4_0 (.cells #[.func (.func 37) #[] #[]] 74 (0, 0)), Own.blk bg4_1 (.cells #[.slice Ag4_1 lg4_1.length cg4_1] 22 (0, 0))]
                    refine ge_same (t := 0) (v := (.slice A0 m8.length c0)) (v' := (.slice A0 r7.length c0)) (by kernel_rfl) (by rw [show m8.length = r7.length from hE8]) ?_
                    refine ge_same (t := 214) (v := (.slice A0 m8.length c0)) (v' := (.slice A0 r7.length c0)) (by kernel_rfl) (by rw [show m8.length = r7.length from hE8]) ?_
                    have hLio9 : l0.length = r7.length := Eq.trans hRz3 hE8
                    have hS169 := hS168.bring 3 rfl
                    have hS170 := hS169.bring 3 rfl
                    have hS171 := hS170.bring 3 rfl
                    have hS172 := hS171.bring 3 rfl
                    obtain rfl := Option.some.inj h
                    exact ge_nil (post_end (rs := []) (ans := []) (vs := []) (l := []) rfl (by kernel_rfl) trivial ⟨rfl, hLio9, hS172⟩)
                  · rw [if_neg hc29] at h
                    refine we_known (t := 213) (b := decide ((IntKind.i64.wrap ((IntKind.i64.wrap ((IntKind.i64.wrap (Int.fdiv (IntKind.u64.wrap (IntKind.i64.wrap (x1 + x3))) (2 ^ 1))) + x2)) - z18)) < x3)) (v := false) (by kernel_rfl) (decide_eq_false hc29) ?_
                    refine we_false (by kernel_rfl) ?_
                    have hS173 := hS138.bring 3 rfl
                    have hS174 := hS173.bring 2 rfl
                    have hS175 := hS174.bring 2 rfl
                    have hS176 := hS175.bring 3 rfl
                    obtain rfl := Option.some.inj h
                    exact we_skip (post_end (rs := []) (ans := []) (vs := []) (l := []) rfl (by kernel_rfl) trivial ⟨rfl, hRz3, hS176⟩)
                · rw [if_neg hc28] at h
                  refine ge_known (t := 209) (b := decide ((IntKind.i64.wrap (Int.fdiv (IntKind.u64.wrap (IntKind.i64.wrap (x1 + x3))) (2 ^ 1))) < (IntKind.i64.wrap ((IntKind.i64.wrap ((IntKind.i64.wrap (Int.fdiv (IntKind.u64.wrap (IntKind.i64.wrap (x1 + x3))) (2 ^ 1))) + x2)) - z18)))) (c := false) (by kernel_rfl) (decide_eq_false hc28) ?_
                  refine ge_batch [4, 5, 6, 7] (ans := []) (vs := [(213, .bool false), (212, undef), (211, undef), (210, undef)]) (l := []) (by kernel_rfl) trivial ?_
                  refine ge_nil fun a hF => hK48 _ _ ?_ a hF
                  refine we_false (by kernel_rfl) ?_
                  have hS177 := hS138.bring 3 rfl
                  have hS178 := hS177.bring 2 rfl
                  have hS179 := hS178.bring 2 rfl
                  have hS180 := hS179.bring 3 rfl
                  obtain rfl := Option.some.inj h
                  exact we_skip (post_end (rs := []) (ans := []) (vs := []) (l := []) rfl (by kernel_rfl) trivial ⟨rfl, hRz3, hS180⟩)
            · rw [if_neg hc24] at h
              refine ge_known (t := 195) (b := decide (x1 < z18)) (c := false) (by kernel_rfl) (decide_eq_false hc24) ?_
              refine ge_batch [4, 5, 6, 7] (ans := []) (vs := [(199, .bool false), (198, undef), (197, undef), (196, undef)]) (l := []) (by kernel_rfl) trivial ?_
              refine ge_nil fun a hF => hK46 _ _ ?_ a hF
              refine we_false (by kernel_rfl) ?_
              refine we_skip fun a hF => hK45 _ _ ?_ a hF
              refine we_seq fun K49 hK49 => ?_
              refine we_region [(0, 0), (1, 0), (2, 0), (3, 0), (4, 0), (5, 0), (6, 0), (7, 0)] rfl ?_
              refine ge_batch [0, 1, 2, 3] (ans := []) (vs := [(209, .bool (decide ((IntKind.i64.wrap (Int.fdiv (IntKind.u64.wrap (IntKind.i64.wrap (x1 + x3))) (2 ^ 1))) < (IntKind.i64.wrap ((IntKind.i64.wrap ((IntKind.i64.wrap (Int.fdiv (IntKind.u64.wrap (IntKind.i64.wrap (x1 + x3))) (2 ^ 1))) + x2)) - z18))))), (208, .bool (decide ((IntKind.i64.wrap (Int.fdiv (IntKind.u64.wrap (IntKind.i64.wrap (x1 + x3))) (2 ^ 1))) < (IntKind.i64.wrap ((IntKind.i64.wrap ((IntKind.i64.wrap (Int.fdiv (IntKind.u64.wrap (IntKind.i64.wrap (x1 + x3))) (2 ^ 1))) + x2)) - z18))))), (207, .int .i64 (IntKind.i64.wrap ((IntKind.i64.wrap ((IntKind.i64.wrap (Int.fdiv (IntKind.u64.wrap (IntKind.i64.wrap (x1 + x3))) (2 ^ 1))) + x2)) - z18))), (206, .int .i64 (IntKind.i64.wrap (Int.fdiv (IntKind.u64.wrap (IntKind.i64.wrap (x1 + x3))) (2 ^ 1))))]) (l := []) (by kernel_rfl) trivial ?_
              by_cases hc30 : (IntKind.i64.wrap (Int.fdiv (IntKind.u64.wrap (IntKind.i64.wrap (x1 + x3))) (2 ^ 1))) < (IntKind.i64.wrap ((IntKind.i64.wrap ((IntKind.i64.wrap (Int.fdiv (IntKind.u64.wrap (IntKind.i64.wrap (x1 + x3))) (2 ^ 1))) + x2)) - z18))
              · rw [if_pos hc30] at h
                refine ge_known (t := 209) (b := decide ((IntKind.i64.wrap (Int.fdiv (IntKind.u64.wrap (IntKind.i64.wrap (x1 + x3))) (2 ^ 1))) < (IntKind.i64.wrap ((IntKind.i64.wrap ((IntKind.i64.wrap (Int.fdiv (IntKind.u64.wrap (IntKind.i64.wrap (x1 + x3))) (2 ^ 1))) + x2)) - z18)))) (c := true) (by kernel_rfl) (decide_eq_true hc30) ?_
                refine ge_batch [4, 5, 6, 7] (ans := []) (vs := [(213, .bool (decide ((IntKind.i64.wrap ((IntKind.i64.wrap ((IntKind.i64.wrap (Int.fdiv (IntKind.u64.wrap (IntKind.i64.wrap (x1 + x3))) (2 ^ 1))) + x2)) - z18)) < x3))), (212, .bool (decide ((IntKind.i64.wrap ((IntKind.i64.wrap ((IntKind.i64.wrap (Int.fdiv (IntKind.u64.wrap (IntKind.i64.wrap (x1 + x3))) (2 ^ 1))) + x2)) - z18)) < x3))), (211, .int .i64 x3), (210, .int .i64 (IntKind.i64.wrap ((IntKind.i64.wrap ((IntKind.i64.wrap (Int.fdiv (IntKind.u64.wrap (IntKind.i64.wrap (x1 + x3))) (2 ^ 1))) + x2)) - z18)))]) (l := []) (by kernel_rfl) trivial ?_
                refine ge_nil fun a hF => hK49 _ _ ?_ a hF
                by_cases hc31 : (IntKind.i64.wrap ((IntKind.i64.wrap ((IntKind.i64.wrap (Int.fdiv (IntKind.u64.wrap (IntKind.i64.wrap (x1 + x3))) (2 ^ 1))) + x2)) - z18)) < x3
                · rw [if_pos hc31] at h
                  refine we_known (t := 213) (b := decide ((IntKind.i64.wrap ((IntKind.i64.wrap ((IntKind.i64.wrap (Int.fdiv (IntKind.u64.wrap (IntKind.i64.wrap (x1 + x3))) (2 ^ 1))) + x2)) - z18)) < x3)) (v := true) (by kernel_rfl) (decide_eq_true hc31) ?_
                  refine we_true (by kernel_rfl) ?_
                  refine we_region [(0, 0), (1, 0), (2, 0), (3, 0), (4, 0), (5, 2)] rfl ?_
                  refine ge_batch [0, 1, 2, 3, 4] (ans := []) (vs := [(218, .func (.func 59) #[] #[.pointer (some ⟨bg4_0, 0, none⟩), .pointer (some ⟨bg4_1, 0, none⟩)]), (217, .int .i64 x3), (216, .int .i64 (IntKind.i64.wrap ((IntKind.i64.wrap ((IntKind.i64.wrap (Int.fdiv (IntKind.u64.wrap (IntKind.i64.wrap (x1 + x3))) (2 ^ 1))) + x2)) - z18))), (215, .int .i64 (IntKind.i64.wrap (Int.fdiv (IntKind.u64.wrap (IntKind.i64.wrap (x1 + x3))) (2 ^ 1)))), (214, (.slice A0 m8.length c0))]) (l := []) (by kernel_rfl) trivial ?_
                  rcases hq15 : recf m8 (IntKind.i64.wrap (Int.fdiv (IntKind.u64.wrap (IntKind.i64.wrap (x1 + x3))) (2 ^ 1))) (IntKind.i64.wrap ((IntKind.i64.wrap ((IntKind.i64.wrap (Int.fdiv (IntKind.u64.wrap (IntKind.i64.wrap (x1 + x3))) (2 ^ 1))) + x2)) - z18)) x3 lg4_1 with _ | r8
                  · rw [hq15] at h; cases h
                  rw [hq15] at h
                  simp only [] at h
                  have hS181 := hS138.bring 1 rfl
                  have hS182 := hS181.bring 1 rfl
                  have hS183 := hS182.bring 2 rfl
                  have hS185 : St w0 w15 [Own.of (.slice A0 m8.length c0) 3 m8, Own.blk bg4_0 (.cells #[.func (.func 37) #[] #[]] 74 (0, 0)), Own.blk bg4_1 (.cells #[.slice Ag4_1 lg4_1.length cg4_1] 22 (0, 0)), Own.all [Own.all LT]] := hS183.packN 3
                  refine ge_call2 (m := 0) (d := some 219) (f := 79) (args := #[.slice A0 m8.length c0, .int .i64 (IntKind.i64.wrap (Int.fdiv (IntKind.u64.wrap (IntKind.i64.wrap (x1 + x3))) (2 ^ 1))), .int .i64 (IntKind.i64.wrap ((IntKind.i64.wrap ((IntKind.i64.wrap (Int.fdiv (IntKind.u64.wrap (IntKind.i64.wrap (x1 + x3))) (2 ^ 1))) + x2)) - z18)), .int .i64 x3, .func (.func 59) #[] #[.pointer (some ⟨bg4_0, 0, none⟩), .pointer (some ⟨bg4_1, 0, none⟩)]]) (by kernel_rfl) (hrec m8 A0 c0 (IntKind.i64.wrap (Int.fdiv (IntKind.u64.wrap (IntKind.i64.wrap (x1 + x3))) (2 ^ 1))) (IntKind.i64.wrap ((IntKind.i64.wrap ((IntKind.i64.wrap (Int.fdiv (IntKind.u64.wrap (IntKind.i64.wrap (x1 + x3))) (2 ^ 1))) + x2)) - z18)) x3 bg4_0 bg4_1 lg4_1 Ag4_1 cg4_1 _ _ _ hS185 hRg4_1 hLg4_1 _ hq15) ?_
                  rintro _ w19 ⟨rfl, hE9, hS184⟩
                  refine ⟨_, rfl, ?_⟩
                  have hS186 : St w0 w19 [Own.of (.slice A0 r8.length c0) 3 r8, Own.blk bg4_0 (.cells #[.func (.func 37) #[] #[]] 74 (0, 0)), Own.blk bg4_1 (.cells #[.slice Ag4_1 lg4_1.length cg4_1] 22 (0, 0)), Own.all LT] := hS184.unpack [Own.of (.slice A0 r8.length c0) 3 r8, Own.blk bg4_0 (.cells #[.func (.func 37) #[] #[]] 74 (0, 0)), Own.blk bg4_1 (.cells #[.slice Ag4_1 lg4_1.length cg4_1] 22 (0, 0))]
                  refine ge_same (t := 0) (v := (.slice A0 m8.length c0)) (v' := (.slice A0 r8.length c0)) (by kernel_rfl) (by rw [show m8.length = r8.length from hE9]) ?_
                  refine ge_same (t := 214) (v := (.slice A0 m8.length c0)) (v' := (.slice A0 r8.length c0)) (by kernel_rfl) (by rw [show m8.length = r8.length from hE9]) ?_
                  have hLio10 : l0.length = r8.length := Eq.trans hRz3 hE9
                  have hS187 := hS186.bring 3 rfl
                  have hS188 := hS187.bring 3 rfl
                  have hS189 := hS188.bring 3 rfl
                  have hS190 := hS189.bring 3 rfl
                  obtain rfl := Option.some.inj h
                  exact ge_nil (post_end (rs := []) (ans := []) (vs := []) (l := []) rfl (by kernel_rfl) trivial ⟨rfl, hLio10, hS190⟩)
                · rw [if_neg hc31] at h
                  refine we_known (t := 213) (b := decide ((IntKind.i64.wrap ((IntKind.i64.wrap ((IntKind.i64.wrap (Int.fdiv (IntKind.u64.wrap (IntKind.i64.wrap (x1 + x3))) (2 ^ 1))) + x2)) - z18)) < x3)) (v := false) (by kernel_rfl) (decide_eq_false hc31) ?_
                  refine we_false (by kernel_rfl) ?_
                  have hS191 := hS138.bring 3 rfl
                  have hS192 := hS191.bring 2 rfl
                  have hS193 := hS192.bring 2 rfl
                  have hS194 := hS193.bring 3 rfl
                  obtain rfl := Option.some.inj h
                  exact we_skip (post_end (rs := []) (ans := []) (vs := []) (l := []) rfl (by kernel_rfl) trivial ⟨rfl, hRz3, hS194⟩)
              · rw [if_neg hc30] at h
                refine ge_known (t := 209) (b := decide ((IntKind.i64.wrap (Int.fdiv (IntKind.u64.wrap (IntKind.i64.wrap (x1 + x3))) (2 ^ 1))) < (IntKind.i64.wrap ((IntKind.i64.wrap ((IntKind.i64.wrap (Int.fdiv (IntKind.u64.wrap (IntKind.i64.wrap (x1 + x3))) (2 ^ 1))) + x2)) - z18)))) (c := false) (by kernel_rfl) (decide_eq_false hc30) ?_
                refine ge_batch [4, 5, 6, 7] (ans := []) (vs := [(213, .bool false), (212, undef), (211, undef), (210, undef)]) (l := []) (by kernel_rfl) trivial ?_
                refine ge_nil fun a hF => hK49 _ _ ?_ a hF
                refine we_false (by kernel_rfl) ?_
                have hS195 := hS138.bring 3 rfl
                have hS196 := hS195.bring 2 rfl
                have hS197 := hS196.bring 2 rfl
                have hS198 := hS197.bring 3 rfl
                obtain rfl := Option.some.inj h
                exact we_skip (post_end (rs := []) (ans := []) (vs := []) (l := []) rfl (by kernel_rfl) trivial ⟨rfl, hRz3, hS198⟩)
          · rw [hq11] at h
            simp only [] at h
            refine we_keep (e' := [(0, (.slice A0 l0.length c0)), (1, .int .i64 x1), (2, .int .i64 x2), (3, .int .i64 x3), (4, .func (.func 59) #[] #[.pointer (some ⟨bg4_0, 0, none⟩), .pointer (some ⟨bg4_1, 0, none⟩)]), (18, .int .i64 (IntKind.i64.wrap (Int.fdiv (IntKind.u64.wrap (IntKind.i64.wrap (x1 + x3))) (2 ^ 1)))), (19, .int .i64 (IntKind.i64.wrap ((IntKind.i64.wrap (Int.fdiv (IntKind.u64.wrap (IntKind.i64.wrap (x1 + x3))) (2 ^ 1))) + x2))), (20, .int .i64 z18), (24, .int .i64 (IntKind.i64.wrap ((IntKind.i64.wrap ((IntKind.i64.wrap (Int.fdiv (IntKind.u64.wrap (IntKind.i64.wrap (x1 + x3))) (2 ^ 1))) + x2)) - z18))), (175, .int .i64 (IntKind.i64.wrap ((IntKind.i64.wrap (Int.fdiv (IntKind.u64.wrap (IntKind.i64.wrap (x1 + x3))) (2 ^ 1))) + x2))), (176, .int .i64 z18), (177, .int .i64 (IntKind.i64.wrap ((IntKind.i64.wrap ((IntKind.i64.wrap (Int.fdiv (IntKind.u64.wrap (IntKind.i64.wrap (x1 + x3))) (2 ^ 1))) + x2)) - z18)))]) ⟨by kernel_rfl, by kernel_rfl, by kernel_rfl, by kernel_rfl, by kernel_rfl, by kernel_rfl, by kernel_rfl, by kernel_rfl, by kernel_rfl, by kernel_rfl, by kernel_rfl, by kernel_rfl, trivial⟩ (slices_symMergeCmpFunc_int_p6 K w0 l0 A0 c0 x1 x2 x3 bg4_0 bg4_1 lg4_1 Ag4_1 cg4_1 LT hRg4_1 hLg4_1 recf hrec hc1 hc9 z13 z14 z18 _ hq11 _ hS119 _ ?_)
            rintro _ a w1 ⟨_, rfl, hb⟩
            obtain rfl := Option.some.inj h
            exact hb
        · rw [hq9] at h
          simp only [] at h
          refine we_iter (A := slices_symMergeCmpFunc_int.A5 K w0 l0 A0 c0 x1 x2 x3 bg4_0 bg4_1 lg4_1 Ag4_1 cg4_1 LT hRg4_1 hLg4_1 recf hrec hc1 hc9 z13 z14) (B := slices_symMergeCmpFunc_int.B5 K w0 l0 A0 c0 x1 x2 x3 bg4_0 bg4_1 lg4_1 Ag4_1 cg4_1 LT hRg4_1 hLg4_1 recf hrec hc1 hc9 z13 z14) hq9 (fun a hF => ⟨hS103, hF.weaken ⟨by kernel_rfl, by kernel_rfl, by kernel_rfl, by kernel_rfl, by kernel_rfl, by kernel_rfl, by kernel_rfl, by kernel_rfl, by kernel_rfl, by kernel_rfl, trivial⟩⟩) (fun s o hf a w hA Q hQ => slices_symMergeCmpFunc_int_r5 K w0 l0 A0 c0 x1 x2 x3 bg4_0 bg4_1 lg4_1 Ag4_1 cg4_1 LT hRg4_1 hLg4_1 recf hrec hc1 hc9 z13 z14 s o hf a w hA Q hQ) ?_
          rintro _ a w1 _ ⟨rfl, hb⟩
          obtain rfl := Option.some.inj h
          exact hb
      · rw [hq7] at h
        simp only [] at h
        refine we_keep (e' := [(0, (.slice A0 l0.length c0)), (1, .int .i64 x1), (2, .int .i64 x2), (3, .int .i64 x3), (4, .func (.func 59) #[] #[.pointer (some ⟨bg4_0, 0, none⟩), .pointer (some ⟨bg4_1, 0, none⟩)]), (18, .int .i64 (IntKind.i64.wrap (Int.fdiv (IntKind.u64.wrap (IntKind.i64.wrap (x1 + x3))) (2 ^ 1)))), (19, .int .i64 (IntKind.i64.wrap ((IntKind.i64.wrap (Int.fdiv (IntKind.u64.wrap (IntKind.i64.wrap (x1 + x3))) (2 ^ 1))) + x2))), (20, .int .i64 0), (21, .int .i64 0), (25, .int .i64 x2), (26, .int .i64 x1), (27, .int .i64 (IntKind.i64.wrap (x2 - x1))), (28, .bool false), (77, .int .i64 x3), (78, .int .i64 x2), (79, .int .i64 (IntKind.i64.wrap (x3 - x2))), (80, .bool false), (129, .int .i64 x1), (130, .int .i64 x3), (131, .int .i64 (IntKind.i64.wrap (x1 + x3))), (132, .int .u64 (IntKind.u64.wrap (IntKind.i64.wrap (x1 + x3)))), (133, .int .u64 (Int.fdiv (IntKind.u64.wrap (IntKind.i64.wrap (x1 + x3))) (2 ^ 1))), (134, .int .i64 (IntKind.i64.wrap (Int.fdiv (IntKind.u64.wrap (IntKind.i64.wrap (x1 + x3))) (2 ^ 1)))), (135, .int .i64 (IntKind.i64.wrap (Int.fdiv (IntKind.u64.wrap (IntKind.i64.wrap (x1 + x3))) (2 ^ 1)))), (136, .int .i64 x2), (137, .int .i64 (IntKind.i64.wrap ((IntKind.i64.wrap (Int.fdiv (IntKind.u64.wrap (IntKind.i64.wrap (x1 + x3))) (2 ^ 1))) + x2)))]) ⟨by kernel_rfl, by kernel_rfl, by kernel_rfl, by kernel_rfl, by kernel_rfl, by kernel_rfl, by kernel_rfl, by kernel_rfl, by kernel_rfl, by kernel_rfl, by kernel_rfl, by kernel_rfl, by kernel_rfl, by kernel_rfl, by kernel_rfl, by kernel_rfl, by kernel_rfl, by kernel_rfl, by kernel_rfl, by kernel_rfl, by kernel_rfl, by kernel_rfl, by kernel_rfl, by kernel_rfl, by kernel_rfl, by kernel_rfl, trivial⟩ (slices_symMergeCmpFunc_int_p4 K w0 l0 A0 c0 x1 x2 x3 bg4_0 bg4_1 lg4_1 Ag4_1 cg4_1 LT hRg4_1 hLg4_1 recf hrec hc1 hc9 _ hq7 _ hS _ ?_)
        rintro _ a w1 ⟨_, rfl, hb⟩
        obtain rfl := Option.some.inj h
        exact hb
def slices_symMergeCmpFunc_int.rec (K : Nat) : Nat → (List Int) → Int → Int → Int → (List STask) → Option (List Int)
  | 0 => fun _ _ _ _ _ => none
  | n + 1 => fun l0 x1 x2 x3 lg4_1 => slices_symMergeCmpFunc_int.b K (slices_symMergeCmpFunc_int.rec K n) l0 x1 x2 x3 lg4_1
def slices_symMergeCmpFunc_int.f (K : Nat) (l0 : List Int) (x1 : Int) (x2 : Int) (x3 : Int) (lg4_1 : List STask) : Option (List Int) := slices_symMergeCmpFunc_int.rec K K l0 x1 x2 x3 lg4_1
theorem slices_symMergeCmpFunc_int_ok (K : Nat) (l0 : List Int) (A0 : Option Addr) (c0 : Nat) (x1 : Int) (x2 : Int) (x3 : Int) (bg4_0 : Nat) (bg4_1 : Nat) (lg4_1 : List STask) (Ag4_1 : Option Addr) (cg4_1 : Nat) (w0 wE : World) (LT : List Own) (hS : St w0 wE [Own.of (.slice A0 l0.length c0) 3 l0, Own.blk bg4_0 (.cells #[.func (.func 37) #[] #[]] 74 (0, 0)), Own.blk bg4_1 (.cells #[.slice Ag4_1 lg4_1.length cg4_1] 22 (0, 0)), Own.all LT]) (hRg4_1 : RdL w0 Ag4_1 lg4_1) (hLg4_1 : lg4_1.length ≤ cg4_1) (r : List Int) (h : slices_symMergeCmpFunc_int.f K l0 x1 x2 x3 lg4_1 = some r) :
    Calls Try.prog 79 #[(.slice A0 l0.length c0), .int .i64 x1, .int .i64 x2, .int .i64 x3, .func (.func 59) #[] #[.pointer (some ⟨bg4_0, 0, none⟩), .pointer (some ⟨bg4_1, 0, none⟩)]] wE (slices_symMergeCmpFunc_int.Post w0 l0 A0 c0 x1 x2 x3 bg4_0 bg4_1 lg4_1 Ag4_1 cg4_1 LT r) := by
  have key : ∀ (n : Nat) (l0 : List Int) (A0 : Option Addr) (c0 : Nat) (x1 : Int) (x2 : Int) (x3 : Int) (bg4_0 : Nat) (bg4_1 : Nat) (lg4_1 : List STask) (Ag4_1 : Option Addr) (cg4_1 : Nat) (w0 wE : World) (LT : List Own) (hS : St w0 wE [Own.of (.slice A0 l0.length c0) 3 l0, Own.blk bg4_0 (.cells #[.func (.func 37) #[] #[]] 74 (0, 0)), Own.blk bg4_1 (.cells #[.slice Ag4_1 lg4_1.length cg4_1] 22 (0, 0)), Own.all LT]) (hRg4_1 : RdL w0 Ag4_1 lg4_1) (hLg4_1 : lg4_1.length ≤ cg4_1) (r : List Int) (h : slices_symMergeCmpFunc_int.rec K n l0 x1 x2 x3 lg4_1 = some r), Calls Try.prog 79 #[(.slice A0 l0.length c0), .int .i64 x1, .int .i64 x2, .int .i64 x3, .func (.func 59) #[] #[.pointer (some ⟨bg4_0, 0, none⟩), .pointer (some ⟨bg4_1, 0, none⟩)]] wE (slices_symMergeCmpFunc_int.Post w0 l0 A0 c0 x1 x2 x3 bg4_0 bg4_1 lg4_1 Ag4_1 cg4_1 LT r) := by
    intro n
    induction n with
    | zero => intros; rename_i h; cases h
    | succ n ih => exact fun l0 A0 c0 x1 x2 x3 bg4_0 bg4_1 lg4_1 Ag4_1 cg4_1 w0 wE LT hS hRg4_1 hLg4_1 r h => slices_symMergeCmpFunc_int_step K (slices_symMergeCmpFunc_int.rec K n) ih l0 A0 c0 x1 x2 x3 bg4_0 bg4_1 lg4_1 Ag4_1 cg4_1 w0 wE LT hS hRg4_1 hLg4_1 r h
  exact key K l0 A0 c0 x1 x2 x3 bg4_0 bg4_1 lg4_1 Ag4_1 cg4_1 w0 wE LT hS hRg4_1 hLg4_1 r h

/-! slices.stableCmpFunc[int] -/
abbrev slices_stableCmpFunc_int.Post (w0 : World) (l0 : List Int) (A0 : Option Addr) (c0 : Nat) (x1 : Int) (bg2_0 : Nat) (bg2_1 : Nat) (lg2_1 : List STask) (Ag2_1 : Option Addr) (cg2_1 : Nat) (LT : List Own) (r : List Int) (e : Ending) (w : World) : Prop := e = .returned (.tuple #[]) ∧ l0.length = r.length ∧ St w0 w [Own.of (.slice A0 r.length c0) 3 r, Own.blk bg2_0 (.cells #[.func (.func 37) #[] #[]] 74 (0, 0)), Own.blk bg2_1 (.cells #[.slice Ag2_1 lg2_1.length cg2_1] 22 (0, 0)), Own.all LT]
def slices_stableCmpFunc_int.r0 (K : Nat) (x1 : Int) (lg2_1 : List STask) : Int × Int × (List Int) → Option ((Int × Int × (List Int)) ⊕ ((Int × (List Int)) ⊕ (List Int)))
  | (z1, z2, m1) =>
    if z2 ≤ x1 then
      match slices_insertionSortCmpFunc_int.f K m1 z1 z2 lg2_1 with
      | none => none
      | some r1 =>
        some (.inl (z2, IntKind.i64.wrap (z2 + 20), r1))
    else
      some (.inr (.inl (z1, m1)))
def slices_stableCmpFunc_int.r2 (K : Nat) (x1 : Int) (lg2_1 : List STask) (z5 : Int) : Int × Int × (List Int) → Option ((Int × Int × (List Int)) ⊕ ((Int × (List Int)) ⊕ (List Int)))
  | (z6, z7, m6) =>
    if z7 ≤ x1 then
      match slices_symMergeCmpFunc_int.f K m6 z6 (IntKind.i64.wrap (z6 + z5)) z7 lg2_1 with
      | none => none
      | some r3 =>
        some (.inl (z7, IntKind.i64.wrap (z7 + (IntKind.i64.wrap (2 * z5))), r3))
    else
      some (.inr (.inl (z6, m6)))
def slices_stableCmpFunc_int.r1 (K : Nat) (x1 : Int) (lg2_1 : List STask) (r2 : List Int) : Int × (List Int) → Option ((Int × (List Int)) ⊕ ((List Int) ⊕ (List Int)))
  | (z5, m4) =>
    if z5 < x1 then
      match iter (slices_stableCmpFunc_int.r2 K x1 lg2_1 z5) K (0, IntKind.i64.wrap (2 * z5), m4) with
      | none => none
      | some (.inl (z9, m8)) =>
        if (IntKind.i64.wrap (z9 + z5)) < x1 then
          match slices_symMergeCmpFunc_int.f K m8 z9 (IntKind.i64.wrap (z9 + z5)) x1 lg2_1 with
          | none => none
          | some r4 =>
            some (.inl (IntKind.i64.wrap (z5 * 2), r4))
        else
          some (.inl (IntKind.i64.wrap (z5 * 2), m8))
      | some (.inr rr1) =>
        some (.inr (.inr rr1))
    else
      some (.inr (.inl m4))
def slices_stableCmpFunc_int.f (K : Nat) (l0 : List Int) (x1 : Int) (lg2_1 : List STask) : Option (List Int) :=
  match iter (slices_stableCmpFunc_int.r0 K x1 lg2_1) K (0, 20, l0) with
  | none => none
  | some (.inl (z4, m3)) =>
    match slices_insertionSortCmpFunc_int.f K m3 z4 x1 lg2_1 with
    | none => none
    | some r2 =>
      match iter (slices_stableCmpFunc_int.r1 K x1 lg2_1 r2) K (20, r2) with
      | none => none
      | some (.inl m9) =>
        some m9
      | some (.inr rr2) =>
        some rr2
  | some (.inr rr3) =>
    some rr3
abbrev slices_stableCmpFunc_int.A0 (K : Nat) (w0 : World) (l0 : List Int) (A0 : Option Addr) (c0 : Nat) (x1 : Int) (bg2_0 : Nat) (bg2_1 : Nat) (lg2_1 : List STask) (Ag2_1 : Option Addr) (cg2_1 : Nat) (LT : List Own) (hRg2_1 : RdL w0 Ag2_1 lg2_1) (hLg2_1 : lg2_1.length ≤ cg2_1) : (Int × Int × (List Int)) → Act → World → Prop := fun (s : Int × Int × (List Int)) a w => l0.length = s.2.2.length ∧ St w0 w [Own.blk bg2_0 (.cells #[.func (.func 37) #[] #[]] 74 (0, 0)), Own.blk bg2_1 (.cells #[.slice Ag2_1 lg2_1.length cg2_1] 22 (0, 0)), Own.of (.slice A0 s.2.2.length c0) 3 s.2.2, Own.all LT] ∧ Frm 63 a [(0, (.slice A0 s.2.2.length c0)), (1, .int .i64 x1), (2, .func (.func 59) #[] #[.pointer (some ⟨bg2_0, 0, none⟩), .pointer (some ⟨bg2_1, 0, none⟩)]), (6, .int .i64 20), (7, .int .i64 s.1), (8, .int .i64 s.2.1)]
abbrev slices_stableCmpFunc_int.B0 (K : Nat) (w0 : World) (l0 : List Int) (A0 : Option Addr) (c0 : Nat) (x1 : Int) (bg2_0 : Nat) (bg2_1 : Nat) (lg2_1 : List STask) (Ag2_1 : Option Addr) (cg2_1 : Nat) (LT : List Own) (hRg2_1 : RdL w0 Ag2_1 lg2_1) (hLg2_1 : lg2_1.length ≤ cg2_1) : ((Int × (List Int)) ⊕ (List Int)) → Exit → Act → World → Prop := Exits 0 (fun (s : Int × (List Int)) a w => l0.length = s.2.length ∧ St w0 w [Own.blk bg2_0 (.cells #[.func (.func 37) #[] #[]] 74 (0, 0)), Own.blk bg2_1 (.cells #[.slice Ag2_1 lg2_1.length cg2_1] 22 (0, 0)), Own.of (.slice A0 s.2.length c0) 3 s.2, Own.all LT] ∧ Frm 63 a [(0, (.slice A0 s.2.length c0)), (1, .int .i64 x1), (2, .func (.func 59) #[] #[.pointer (some ⟨bg2_0, 0, none⟩), .pointer (some ⟨bg2_1, 0, none⟩)]), (6, .int .i64 20), (7, .int .i64 s.1)]) (Rets Try.prog Try.f66 (slices_stableCmpFunc_int.Post w0 l0 A0 c0 x1 bg2_0 bg2_1 lg2_1 Ag2_1 cg2_1 LT))
theorem slices_stableCmpFunc_int_r0 (K : Nat) (w0 : World) (l0 : List Int) (A0 : Option Addr) (c0 : Nat) (x1 : Int) (bg2_0 : Nat) (bg2_1 : Nat) (lg2_1 : List STask) (Ag2_1 : Option Addr) (cg2_1 : Nat) (LT : List Own) (hRg2_1 : RdL w0 Ag2_1 lg2_1) (hLg2_1 : lg2_1.length ≤ cg2_1) (s : Int × Int × (List Int)) (o : (Int × Int × (List Int)) ⊕ ((Int × (List Int)) ⊕ (List Int))) (h : slices_stableCmpFunc_int.r0 K x1 lg2_1 s = some o) (a : Act) (w : World) (hA : slices_stableCmpFunc_int.A0 K w0 l0 A0 c0 x1 bg2_0 bg2_1 lg2_1 Ag2_1 cg2_1 LT hRg2_1 hLg2_1 s a w) (Q : Exit → Act → World → Prop) (hQ : ∀ x a w, Outs (slices_stableCmpFunc_int.A0 K w0 l0 A0 c0 x1 bg2_0 bg2_1 lg2_1 Ag2_1 cg2_1 LT hRg2_1 hLg2_1) (slices_stableCmpFunc_int.B0 K w0 l0 A0 c0 x1 bg2_0 bg2_1 lg2_1 Ag2_1 cg2_1 LT hRg2_1 hLg2_1) o x a w → Q x a w) : (subF Try.f66 [1, 1, 0, 0, 0]).wp Try.prog Q a w := by
  obtain ⟨z1, z2, m1⟩ := s
  obtain ⟨hLio1, hS, hF⟩ := hA
  replace hS : St w0 w [Own.blk bg2_0 (.cells #[.func (.func 37) #[] #[]] 74 (0, 0)), Own.blk bg2_1 (.cells #[.slice Ag2_1 lg2_1.length cg2_1] 22 (0, 0)), Own.of (.slice A0 m1.length c0) 3 m1, Own.all LT] := hS
  simp only [slices_stableCmpFunc_int.r0] at h
  refine (?_ : WE Try.prog 63 (subF Try.f66 [1, 1, 0, 0, 0]) Q [(0, (.slice A0 m1.length c0)), (1, .int .i64 x1), (2, .func (.func 59) #[] #[.pointer (some ⟨bg2_0, 0, none⟩), .pointer (some ⟨bg2_1, 0, none⟩)]), (6, .int .i64 20), (7, .int .i64 z1), (8, .int .i64 z2)] w) a hF
  clear hF a
  refine we_seq fun K4 hK4 => ?_
  refine we_seq fun K5 hK5 => ?_
  refine we_region [(0, 0), (1, 0), (2, 0)] rfl ?_
  refine ge_batch [0, 1, 2] (ans := []) (vs := [(13, .bool (decide (z2 ≤ x1))), (12, .int .i64 x1), (11, .int .i64 z2)]) (l := []) (by kernel_rfl) trivial ?_
  refine ge_nil fun a hF => hK5 _ _ ?_ a hF
  by_cases hc1 : z2 ≤ x1
  · rw [if_pos hc1] at h
    refine we_known (t := 13) (b := decide (z2 ≤ x1)) (v := true) (by kernel_rfl) (decide_eq_true hc1) ?_
    refine we_true (by kernel_rfl) ?_
    refine we_skip fun a hF => hK4 _ _ ?_ a hF
    refine we_block ?_
    refine we_seq fun K6 hK6 => ?_
    refine we_region [(0, 0), (1, 0), (2, 0), (3, 0), (4, 2)] rfl ?_
    refine ge_batch [0, 1, 2, 3] (ans := []) (vs := [(17, .func (.func 59) #[] #[.pointer (some ⟨bg2_0, 0, none⟩), .pointer (some ⟨bg2_1, 0, none⟩)]), (16, .int .i64 z2), (15, .int .i64 z1), (14, (.slice A0 m1.length c0))]) (l := []) (by kernel_rfl) trivial ?_
    rcases hq1 : slices_insertionSortCmpFunc_int.f K m1 z1 z2 lg2_1 with _ | r1
    · rw [hq1] at h; cases h
    rw [hq1] at h
    simp only [] at h
    have hS5 := hS.bring 1 rfl
    have hS6 := hS5.bring 1 rfl
    have hS7 := hS6.bring 2 rfl
    have hS9 : St w0 w [Own.of (.slice A0 m1.length c0) 3 m1, Own.blk bg2_0 (.cells #[.func (.func 37) #[] #[]] 74 (0, 0)), Own.blk bg2_1 (.cells #[.slice Ag2_1 lg2_1.length cg2_1] 22 (0, 0)), Own.all [Own.all LT]] := hS7.packN 3
    refine ge_call2 (m := 0) (d := some 18) (f := 69) (args := #[.slice A0 m1.length c0, .int .i64 z1, .int .i64 z2, .func (.func 59) #[] #[.pointer (some ⟨bg2_0, 0, none⟩), .pointer (some ⟨bg2_1, 0, none⟩)]]) (by kernel_rfl) (slices_insertionSortCmpFunc_int_ok K m1 A0 c0 z1 z2 bg2_0 bg2_1 lg2_1 Ag2_1 cg2_1 _ _ _ hS9 hRg2_1 hLg2_1 _ hq1) ?_
    rintro _ w1 ⟨rfl, hE1, hS8⟩
    refine ⟨_, rfl, ?_⟩
    have hS10 : St w0 w1 [Own.of (.slice A0 r1.length c0) 3 r1, Own.blk bg2_0 (.cells #[.func (.func 37) #[] #[]] 74 (0, 0)), Own.blk bg2_1 (.cells #[.slice Ag2_1 lg2_1.length cg2_1] 22 (0, 0)), Own.all LT] := hS8.unpack [Own.of (.slice A0 r1.length c0) 3 r1, Own.blk bg2_0 (.cells #[.func (.func 37) #[] #[]] 74 (0, 0)), Own.blk bg2_1 (.cells #[.slice Ag2_1 lg2_1.length cg2_1] 22 (0, 0))]
    refine ge_same (t := 0) (v := (.slice A0 m1.length c0)) (v' := (.slice A0 r1.length c0)) (by kernel_rfl) (by rw [show m1.length = r1.length from hE1]) ?_
    refine ge_same (t := 14) (v := (.slice A0 m1.length c0)) (v' := (.slice A0 r1.length c0)) (by kernel_rfl) (by rw [show m1.length = r1.length from hE1]) ?_
    have hLio3 : l0.length = r1.length := Eq.trans hLio1 hE1
    refine ge_nil fun a hF => hK6 _ _ ?_ a hF
    refine we_seq fun K7 hK7 => ?_
    refine we_region [(0, 0), (1, 0)] rfl ?_
    refine ge_batch [0, 1] (ans := []) (vs := [(7, .int .i64 z2), (19, .int .i64 z2)]) (l := []) (by kernel_rfl) trivial ?_
    refine ge_nil fun a hF => hK7 _ _ ?_ a hF
    refine we_region [(0, 0), (1, 0), (2, 0), (3, 0)] rfl ?_
    refine ge_batch [0, 1, 2, 3] (ans := []) (vs := [(8, .int .i64 (IntKind.i64.wrap (z2 + 20))), (22, .int .i64 (IntKind.i64.wrap (z2 + 20))), (21, .int .i64 20), (20, .int .i64 z2)]) (l := []) (by kernel_rfl) trivial ?_
    have hS11 := hS10.bring 3 rfl
    have hS12 := hS11.bring 1 rfl
    have hS13 := hS12.bring 3 rfl
    have hS14 := hS13.bring 3 rfl
    obtain rfl := Option.some.inj h
    exact ge_nil fun a hF => hQ _ _ _ (Outs.again ⟨hLio3, hS14, hF.weaken ⟨by kernel_rfl, by kernel_rfl, by kernel_rfl, by kernel_rfl, by kernel_rfl, by kernel_rfl, trivial⟩⟩)
  · rw [if_neg hc1] at h
    refine we_known (t := 13) (b := decide (z2 ≤ x1)) (v := false) (by kernel_rfl) (decide_eq_false hc1) ?_
    refine we_false (by kernel_rfl) ?_
    have hS15 := hS.bring 3 rfl
    have hS16 := hS15.bring 3 rfl
    have hS17 := hS16.bring 3 rfl
    have hS18 := hS17.bring 3 rfl
    obtain rfl := Option.some.inj h
    exact we_exit fun a hF => hQ _ _ _ (Outs.out nofun (Exits.here ⟨hLio1, hS18, hF.weaken ⟨by kernel_rfl, by kernel_rfl, by kernel_rfl, by kernel_rfl, by kernel_rfl, trivial⟩⟩))
abbrev slices_stableCmpFunc_int.A2 (K : Nat) (w0 : World) (l0 : List Int) (A0 : Option Addr) (c0 : Nat) (x1 : Int) (bg2_0 : Nat) (bg2_1 : Nat) (lg2_1 : List STask) (Ag2_1 : Option Addr) (cg2_1 : Nat) (LT : List Own) (hRg2_1 : RdL w0 Ag2_1 lg2_1) (hLg2_1 : lg2_1.length ≤ cg2_1) (z4 : Int) (m3 : List Int) (hRz1 : l0.length = m3.length) (r2 : List Int) (hLio4 : l0.length = r2.length) (z5 : Int) (m4 : List Int) (hLio5 : l0.length = m4.length) (hc2 : z5 < x1) : (Int × Int × (List Int)) → Act → World → Prop := fun (s : Int × Int × (List Int)) a w => l0.length = s.2.2.length ∧ St w0 w [Own.blk bg2_0 (.cells #[.func (.func 37) #[] #[]] 74 (0, 0)), Own.blk bg2_1 (.cells #[.slice Ag2_1 lg2_1.length cg2_1] 22 (0, 0)), Own.of (.slice A0 s.2.2.length c0) 3 s.2.2, Own.all LT] ∧ Frm 63 a [(0, (.slice A0 s.2.2.length c0)), (1, .int .i64 x1), (2, .func (.func 59) #[] #[.pointer (some ⟨bg2_0, 0, none⟩), .pointer (some ⟨bg2_1, 0, none⟩)]), (6, .int .i64 z5), (7, .int .i64 s.1), (8, .int .i64 s.2.1)]
abbrev slices_stableCmpFunc_int.B2 (K : Nat) (w0 : World) (l0 : List Int) (A0 : Option Addr) (c0 : Nat) (x1 : Int) (bg2_0 : Nat) (bg2_1 : Nat) (lg2_1 : List STask) (Ag2_1 : Option Addr) (cg2_1 : Nat) (LT : List Own) (hRg2_1 : RdL w0 Ag2_1 lg2_1) (hLg2_1 : lg2_1.length ≤ cg2_1) (z4 : Int) (m3 : List Int) (hRz1 : l0.length = m3.length) (r2 : List Int) (hLio4 : l0.length = r2.length) (z5 : Int) (m4 : List Int) (hLio5 : l0.length = m4.length) (hc2 : z5 < x1) : ((Int × (List Int)) ⊕ (List Int)) → Exit → Act → World → Prop := Exits 4 (fun (s : Int × (List Int)) a w => l0.length = s.2.length ∧ St w0 w [Own.blk bg2_0 (.cells #[.func (.func 37) #[] #[]] 74 (0, 0)), Own.blk bg2_1 (.cells #[.slice Ag2_1 lg2_1.length cg2_1] 22 (0, 0)), Own.of (.slice A0 s.2.length c0) 3 s.2, Own.all LT] ∧ Frm 63 a [(0, (.slice A0 s.2.length c0)), (1, .int .i64 x1), (2, .func (.func 59) #[] #[.pointer (some ⟨bg2_0, 0, none⟩), .pointer (some ⟨bg2_1, 0, none⟩)]), (6, .int .i64 z5), (7, .int .i64 s.1)]) (Rets Try.prog Try.f66 (slices_stableCmpFunc_int.Post w0 l0 A0 c0 x1 bg2_0 bg2_1 lg2_1 Ag2_1 cg2_1 LT))
theorem slices_stableCmpFunc_int_r2 (K : Nat) (w0 : World) (l0 : List Int) (A0 : Option Addr) (c0 : Nat) (x1 : Int) (bg2_0 : Nat) (bg2_1 : Nat) (lg2_1 : List STask) (Ag2_1 : Option Addr) (cg2_1 : Nat) (LT : List Own) (hRg2_1 : RdL w0 Ag2_1 lg2_1) (hLg2_1 : lg2_1.length ≤ cg2_1) (z4 : Int) (m3 : List Int) (hRz1 : l0.length = m3.length) (r2 : List Int) (hLio4 : l0.length = r2.length) (z5 : Int) (m4 : List Int) (hLio5 : l0.length = m4.length) (hc2 : z5 < x1) (s : Int × Int × (List Int)) (o : (Int × Int × (List Int)) ⊕ ((Int × (List Int)) ⊕ (List Int))) (h : slices_stableCmpFunc_int.r2 K x1 lg2_1 z5 s = some o) (a : Act) (w : World) (hA : slices_stableCmpFunc_int.A2 K w0 l0 A0 c0 x1 bg2_0 bg2_1 lg2_1 Ag2_1 cg2_1 LT hRg2_1 hLg2_1 z4 m3 hRz1 r2 hLio4 z5 m4 hLio5 hc2 s a w) (Q : Exit → Act → World → Prop) (hQ : ∀ x a w, Outs (slices_stableCmpFunc_int.A2 K w0 l0 A0 c0 x1 bg2_0 bg2_1 lg2_1 Ag2_1 cg2_1 LT hRg2_1 hLg2_1 z4 m3 hRz1 r2 hLio4 z5 m4 hLio5 hc2) (slices_stableCmpFunc_int.B2 K w0 l0 A0 c0 x1 bg2_0 bg2_1 lg2_1 Ag2_1 cg2_1 LT hRg2_1 hLg2_1 z4 m3 hRz1 r2 hLio4 z5 m4 hLio5 hc2) o x a w → Q x a w) : (subF Try.f66 [1, 1, 1, 1, 0, 0, 1, 0, 1, 0, 0, 0]).wp Try.prog Q a w := by
  obtain ⟨z6, z7, m6⟩ := s
  obtain ⟨hLio7, hS, hF⟩ := hA
  replace hS : St w0 w [Own.blk bg2_0 (.cells #[.func (.func 37) #[] #[]] 74 (0, 0)), Own.blk bg2_1 (.cells #[.slice Ag2_1 lg2_1.length cg2_1] 22 (0, 0)), Own.of (.slice A0 m6.length c0) 3 m6, Own.all LT] := hS
  simp only [slices_stableCmpFunc_int.r2] at h
  refine (?_ : WE Try.prog 63 (subF Try.f66 [1, 1, 1, 1, 0, 0, 1, 0, 1, 0, 0, 0]) Q [(0, (.slice A0 m6.length c0)), (1, .int .i64 x1), (2, .func (.func 59) #[] #[.pointer (some ⟨bg2_0, 0, none⟩), .pointer (some ⟨bg2_1, 0, none⟩)]), (6, .int .i64 z5), (7, .int .i64 z6), (8, .int .i64 z7)] w) a hF
  clear hF a
  refine we_seq fun K13 hK13 => ?_
  refine we_seq fun K14 hK14 => ?_
  refine we_region [(0, 0), (1, 0), (2, 0)] rfl ?_
  refine ge_batch [0, 1, 2] (ans := []) (vs := [(35, .bool (decide (z7 ≤ x1))), (34, .int .i64 x1), (33, .int .i64 z7)]) (l := []) (by kernel_rfl) trivial ?_
  refine ge_nil fun a hF => hK14 _ _ ?_ a hF
  by_cases hc3 : z7 ≤ x1
  · rw [if_pos hc3] at h
    refine we_known (t := 35) (b := decide (z7 ≤ x1)) (v := true) (by kernel_rfl) (decide_eq_true hc3) ?_
    refine we_true (by kernel_rfl) ?_
    refine we_skip fun a hF => hK13 _ _ ?_ a hF
    refine we_block ?_
    refine we_seq fun K15 hK15 => ?_
    refine we_region [(0, 0), (1, 0), (2, 0), (3, 0), (4, 0), (5, 0), (6, 0), (7, 2)] rfl ?_
    refine ge_batch [0, 1, 2, 3, 4, 5, 6] (ans := []) (vs := [(42, .func (.func 59) #[] #[.pointer (some ⟨bg2_0, 0, none⟩), .pointer (some ⟨bg2_1, 0, none⟩)]), (41, .int .i64 z7), (40, .int .i64 (IntKind.i64.wrap (z6 + z5))), (39, .int .i64 z5), (38, .int .i64 z6), (37, .int .i64 z6), (36, (.slice A0 m6.length c0))]) (l := []) (by kernel_rfl) trivial ?_
    rcases hq4 : slices_symMergeCmpFunc_int.f K m6 z6 (IntKind.i64.wrap (z6 + z5)) z7 lg2_1 with _ | r3
    · rw [hq4] at h; cases h
    rw [hq4] at h
    simp only [] at h
    have hS34 := hS.bring 1 rfl
    have hS35 := hS34.bring 1 rfl
    have hS36 := hS35.bring 2 rfl
    have hS38 : St w0 w [Own.of (.slice A0 m6.length c0) 3 m6, Own.blk bg2_0 (.cells #[.func (.func 37) #[] #[]] 74 (0, 0)), Own.blk bg2_1 (.cells #[.slice Ag2_1 lg2_1.length cg2_1] 22 (0, 0)), Own.all [Own.all LT]] := hS36.packN 3
    refine ge_call2 (m := 0) (d := some 43) (f := 79) (args := #[.slice A0 m6.length c0, .int .i64 z6, .int .i64 (IntKind.i64.wrap (z6 + z5)), .int .i64 z7, .func (.func 59) #[] #[.pointer (some ⟨bg2_0, 0, none⟩), .pointer (some ⟨bg2_1, 0, none⟩)]]) (by kernel_rfl) (slices_symMergeCmpFunc_int_ok K m6 A0 c0 z6 (IntKind.i64.wrap (z6 + z5)) z7 bg2_0 bg2_1 lg2_1 Ag2_1 cg2_1 _ _ _ hS38 hRg2_1 hLg2_1 _ hq4) ?_
    rintro _ w4 ⟨rfl, hE3, hS37⟩
    refine ⟨_, rfl, ?_⟩
    have hS39 : St w0 w4 [Own.of (.slice A0 r3.length c0) 3 r3, Own.blk bg2_0 (.cells #[.func (.func 37) #[] #[]] 74 (0, 0)), Own.blk bg2_1 (.cells #[.slice Ag2_1 lg2_1.length cg2_1] 22 (0, 0)), Own.all LT] := hS37.unpack [Own.of (.slice A0 r3.length c0) 3 r3, Own.blk bg2_0 (.cells #[.func (.func 37) #[] #[]] 74 (0, 0)), Own.blk bg2_1 (.cells #[.slice Ag2_1 lg2_1.length cg2_1] 22 (0, 0))]
    refine ge_same (t := 0) (v := (.slice A0 m6.length c0)) (v' := (.slice A0 r3.length c0)) (by kernel_rfl) (by rw [show m6.length = r3.length from hE3]) ?_
    refine ge_same (t := 36) (v := (.slice A0 m6.length c0)) (v' := (.slice A0 r3.length c0)) (by kernel_rfl) (by rw [show m6.length = r3.length from hE3]) ?_
    have hLio9 : l0.length = r3.length := Eq.trans hLio7 hE3
    refine ge_nil fun a hF => hK15 _ _ ?_ a hF
    refine we_seq fun K16 hK16 => ?_
    refine we_region [(0, 0), (1, 0)] rfl ?_
    refine ge_batch [0, 1] (ans := []) (vs := [(7, .int .i64 z7), (44, .int .i64 z7)]) (l := []) (by kernel_rfl) trivial ?_
    refine ge_nil fun a hF => hK16 _ _ ?_ a hF
    refine we_region [(0, 0), (1, 0), (2, 0), (3, 0), (4, 0)] rfl ?_
    refine ge_batch [0, 1, 2, 3, 4] (ans := []) (vs := [(8, .int .i64 (IntKind.i64.wrap (z7 + (IntKind.i64.wrap (2 * z5))))), (48, .int .i64 (IntKind.i64.wrap (z7 + (IntKind.i64.wrap (2 * z5))))), (47, .int .i64 (IntKind.i64.wrap (2 * z5))), (46, .int .i64 z5), (45, .int .i64 z7)]) (l := []) (by kernel_rfl) trivial ?_
    have hS40 := hS39.bring 3 rfl
    have hS41 := hS40.bring 1 rfl
    have hS42 := hS41.bring 3 rfl
    have hS43 := hS42.bring 3 rfl
    obtain rfl := Option.some.inj h
    exact ge_nil fun a hF => hQ _ _ _ (Outs.again ⟨hLio9, hS43, hF.weaken ⟨by kernel_rfl, by kernel_rfl, by kernel_rfl, by kernel_rfl, by kernel_rfl, by kernel_rfl, trivial⟩⟩)
  · rw [if_neg hc3] at h
    refine we_known (t := 35) (b := decide (z7 ≤ x1)) (v := false) (by kernel_rfl) (decide_eq_false hc3) ?_
    refine we_false (by kernel_rfl) ?_
    have hS44 := hS.bring 3 rfl
    have hS45 := hS44.bring 3 rfl
    have hS46 := hS45.bring 3 rfl
    have hS47 := hS46.bring 3 rfl
    obtain rfl := Option.some.inj h
    exact we_exit fun a hF => hQ _ _ _ (Outs.out nofun (Exits.here ⟨hLio7, hS47, hF.weaken ⟨by kernel_rfl, by kernel_rfl, by kernel_rfl, by kernel_rfl, by kernel_rfl, trivial⟩⟩))
abbrev slices_stableCmpFunc_int.A1 (K : Nat) (w0 : World) (l0 : List Int) (A0 : Option Addr) (c0 : Nat) (x1 : Int) (bg2_0 : Nat) (bg2_1 : Nat) (lg2_1 : List STask) (Ag2_1 : Option Addr) (cg2_1 : Nat) (LT : List Own) (hRg2_1 : RdL w0 Ag2_1 lg2_1) (hLg2_1 : lg2_1.length ≤ cg2_1) (z4 : Int) (m3 : List Int) (hRz1 : l0.length = m3.length) (r2 : List Int) (hLio4 : l0.length = r2.length) : (Int × (List Int)) → Act → World → Prop := fun (s : Int × (List Int)) a w => l0.length = s.2.length ∧ St w0 w [Own.blk bg2_0 (.cells #[.func (.func 37) #[] #[]] 74 (0, 0)), Own.blk bg2_1 (.cells #[.slice Ag2_1 lg2_1.length cg2_1] 22 (0, 0)), Own.of (.slice A0 s.2.length c0) 3 s.2, Own.all LT] ∧ Frm 63 a [(0, (.slice A0 s.2.length c0)), (1, .int .i64 x1), (2, .func (.func 59) #[] #[.pointer (some ⟨bg2_0, 0, none⟩), .pointer (some ⟨bg2_1, 0, none⟩)]), (6, .int .i64 s.1)]
abbrev slices_stableCmpFunc_int.B1 (K : Nat) (w0 : World) (l0 : List Int) (A0 : Option Addr) (c0 : Nat) (x1 : Int) (bg2_0 : Nat) (bg2_1 : Nat) (lg2_1 : List STask) (Ag2_1 : Option Addr) (cg2_1 : Nat) (LT : List Own) (hRg2_1 : RdL w0 Ag2_1 lg2_1) (hLg2_1 : lg2_1.length ≤ cg2_1) (z4 : Int) (m3 : List Int) (hRz1 : l0.length = m3.length) (r2 : List Int) (hLio4 : l0.length = r2.length) : ((List Int) ⊕ (List Int)) → Exit → Act → World → Prop := Exits 2 (fun (s : (List Int)) a w => l0.length = s.length ∧ St w0 w [Own.blk bg2_0 (.cells #[.func (.func 37) #[] #[]] 74 (0, 0)), Own.blk bg2_1 (.cells #[.slice Ag2_1 lg2_1.length cg2_1] 22 (0, 0)), Own.of (.slice A0 s.length c0) 3 s, Own.all LT] ∧ Frm 63 a [(0, (.slice A0 s.length c0)), (2, .func (.func 59) #[] #[.pointer (some ⟨bg2_0, 0, none⟩), .pointer (some ⟨bg2_1, 0, none⟩)])]) (Rets Try.prog Try.f66 (slices_stableCmpFunc_int.Post w0 l0 A0 c0 x1 bg2_0 bg2_1 lg2_1 Ag2_1 cg2_1 LT))
theorem slices_stableCmpFunc_int_r1 (K : Nat) (w0 : World) (l0 : List Int) (A0 : Option Addr) (c0 : Nat) (x1 : Int) (bg2_0 : Nat) (bg2_1 : Nat) (lg2_1 : List STask) (Ag2_1 : Option Addr) (cg2_1 : Nat) (LT : List Own) (hRg2_1 : RdL w0 Ag2_1 lg2_1) (hLg2_1 : lg2_1.length ≤ cg2_1) (z4 : Int) (m3 : List Int) (hRz1 : l0.length = m3.length) (r2 : List Int) (hLio4 : l0.length = r2.length) (s : Int × (List Int)) (o : (Int × (List Int)) ⊕ ((List Int) ⊕ (List Int))) (h : slices_stableCmpFunc_int.r1 K x1 lg2_1 r2 s = some o) (a : Act) (w : World) (hA : slices_stableCmpFunc_int.A1 K w0 l0 A0 c0 x1 bg2_0 bg2_1 lg2_1 Ag2_1 cg2_1 LT hRg2_1 hLg2_1 z4 m3 hRz1 r2 hLio4 s a w) (Q : Exit → Act → World → Prop) (hQ : ∀ x a w, Outs (slices_stableCmpFunc_int.A1 K w0 l0 A0 c0 x1 bg2_0 bg2_1 lg2_1 Ag2_1 cg2_1 LT hRg2_1 hLg2_1 z4 m3 hRz1 r2 hLio4) (slices_stableCmpFunc_int.B1 K w0 l0 A0 c0 x1 bg2_0 bg2_1 lg2_1 Ag2_1 cg2_1 LT hRg2_1 hLg2_1 z4 m3 hRz1 r2 hLio4) o x a w → Q x a w) : (subF Try.f66 [1, 1, 1, 1, 0, 0]).wp Try.prog Q a w := by
  obtain ⟨z5, m4⟩ := s
  obtain ⟨hLio5, hS, hF⟩ := hA
  replace hS : St w0 w [Own.blk bg2_0 (.cells #[.func (.func 37) #[] #[]] 74 (0, 0)), Own.blk bg2_1 (.cells #[.slice Ag2_1 lg2_1.length cg2_1] 22 (0, 0)), Own.of (.slice A0 m4.length c0) 3 m4, Own.all LT] := hS
  simp only [slices_stableCmpFunc_int.r1] at h
  refine (?_ : WE Try.prog 63 (subF Try.f66 [1, 1, 1, 1, 0, 0]) Q [(0, (.slice A0 m4.length c0)), (1, .int .i64 x1), (2, .func (.func 59) #[] #[.pointer (some ⟨bg2_0, 0, none⟩), .pointer (some ⟨bg2_1, 0, none⟩)]), (6, .int .i64 z5)] w) a hF
  clear hF a
  refine we_seq fun K9 hK9 => ?_
  refine we_seq fun K10 hK10 => ?_
  refine we_region [(0, 0), (1, 0), (2, 0)] rfl ?_
  refine ge_batch [0, 1, 2] (ans := []) (vs := [(30, .bool (decide (z5 < x1))), (29, .int .i64 x1), (28, .int .i64 z5)]) (l := []) (by kernel_rfl) trivial ?_
  refine ge_nil fun a hF => hK10 _ _ ?_ a hF
  by_cases hc2 : z5 < x1
  · rw [if_pos hc2] at h
    refine we_known (t := 30) (b := decide (z5 < x1)) (v := true) (by kernel_rfl) (decide_eq_true hc2) ?_
    refine we_true (by kernel_rfl) ?_
    refine we_skip fun a hF => hK9 _ _ ?_ a hF
    refine we_block ?_
    refine we_seq fun K11 hK11 => ?_
    refine we_region [(0, 0), (1, 0), (2, 0), (3, 0)] rfl ?_
    refine ge_batch [0, 1, 2, 3] (ans := []) (vs := [(8, .int .i64 (IntKind.i64.wrap (2 * z5))), (7, .int .i64 0), (32, .int .i64 (IntKind.i64.wrap (2 * z5))), (31, .int .i64 z5)]) (l := []) (by kernel_rfl) trivial ?_
    refine ge_nil fun a hF => hK11 _ _ ?_ a hF
    refine we_seq fun K12 hK12 => ?_
    refine we_block ?_
    have hS30 := hS.bring 3 rfl
    have hS31 := hS30.bring 3 rfl
    have hS32 := hS31.bring 3 rfl
    have hS33 := hS32.bring 3 rfl
    rcases hq5 : iter (slices_stableCmpFunc_int.r2 K x1 lg2_1 z5) K (0, IntKind.i64.wrap (2 * z5), m4) with _ | (⟨z9, m8⟩ | rr1)
    · rw [hq5] at h; cases h
    · rw [hq5] at h
      simp only [] at h
      refine we_iter (A := slices_stableCmpFunc_int.A2 K w0 l0 A0 c0 x1 bg2_0 bg2_1 lg2_1 Ag2_1 cg2_1 LT hRg2_1 hLg2_1 z4 m3 hRz1 r2 hLio4 z5 m4 hLio5 hc2) (B := slices_stableCmpFunc_int.B2 K w0 l0 A0 c0 x1 bg2_0 bg2_1 lg2_1 Ag2_1 cg2_1 LT hRg2_1 hLg2_1 z4 m3 hRz1 r2 hLio4 z5 m4 hLio5 hc2) hq5 (fun a hF => ⟨hLio5, hS33, hF.weaken ⟨by kernel_rfl, by kernel_rfl, by kernel_rfl, by kernel_rfl, by kernel_rfl, by kernel_rfl, trivial⟩⟩) (fun s o hf a w hA Q hQ => slices_stableCmpFunc_int_r2 K w0 l0 A0 c0 x1 bg2_0 bg2_1 lg2_1 Ag2_1 cg2_1 LT hRg2_1 hLg2_1 z4 m3 hRz1 r2 hLio4 z5 m4 hLio5 hc2 s o hf a w hA Q hQ) ?_
      rintro _ a w5 _ ⟨rfl, hRz2, hS48, hF⟩
      replace hS48 : St w0 w5 [Own.blk bg2_0 (.cells #[.func (.func 37) #[] #[]] 74 (0, 0)), Own.blk bg2_1 (.cells #[.slice Ag2_1 lg2_1.length cg2_1] 22 (0, 0)), Own.of (.slice A0 m8.length c0) 3 m8, Own.all LT] := hS48
      refine hK12 [(0, (.slice A0 m8.length c0)), (1, .int .i64 x1), (2, .func (.func 59) #[] #[.pointer (some ⟨bg2_0, 0, none⟩), .pointer (some ⟨bg2_1, 0, none⟩)]), (6, .int .i64 z5), (7, .int .i64 z9)] w5 ?_ a hF
      refine we_seq fun K17 hK17 => ?_
      refine we_seq fun K18 hK18 => ?_
      refine we_region [(0, 0), (1, 0), (2, 0), (3, 0)] rfl ?_
      refine ge_batch [0, 1, 2, 3] (ans := []) (vs := [(9, .int .i64 (IntKind.i64.wrap (z9 + z5))), (51, .int .i64 (IntKind.i64.wrap (z9 + z5))), (50, .int .i64 z5), (49, .int .i64 z9)]) (l := []) (by kernel_rfl) trivial ?_
      refine ge_nil fun a hF => hK18 _ _ ?_ a hF
      refine we_seq fun K19 hK19 => ?_
      refine we_region [(0, 0), (1, 0), (2, 0)] rfl ?_
      refine ge_batch [0, 1, 2] (ans := []) (vs := [(54, .bool (decide ((IntKind.i64.wrap (z9 + z5)) < x1))), (53, .int .i64 x1), (52, .int .i64 (IntKind.i64.wrap (z9 + z5)))]) (l := []) (by kernel_rfl) trivial ?_
      refine ge_nil fun a hF => hK19 _ _ ?_ a hF
      by_cases hc4 : (IntKind.i64.wrap (z9 + z5)) < x1
      · rw [if_pos hc4] at h
        refine we_known (t := 54) (b := decide ((IntKind.i64.wrap (z9 + z5)) < x1)) (v := true) (by kernel_rfl) (decide_eq_true hc4) ?_
        refine we_true (by kernel_rfl) ?_
        refine we_region [(0, 0), (1, 0), (2, 0), (3, 0), (4, 0), (5, 2)] rfl ?_
        refine ge_batch [0, 1, 2, 3, 4] (ans := []) (vs := [(59, .func (.func 59) #[] #[.pointer (some ⟨bg2_0, 0, none⟩), .pointer (some ⟨bg2_1, 0, none⟩)]), (58, .int .i64 x1), (57, .int .i64 (IntKind.i64.wrap (z9 + z5))), (56, .int .i64 z9), (55, (.slice A0 m8.length c0))]) (l := []) (by kernel_rfl) trivial ?_
        rcases hq6 : slices_symMergeCmpFunc_int.f K m8 z9 (IntKind.i64.wrap (z9 + z5)) x1 lg2_1 with _ | r4
        · rw [hq6] at h; cases h
        rw [hq6] at h
        simp only [] at h
        have hS49 := hS48.bring 1 rfl
        have hS50 := hS49.bring 1 rfl
        have hS51 := hS50.bring 2 rfl
        have hS53 : St w0 w5 [Own.of (.slice A0 m8.length c0) 3 m8, Own.blk bg2_0 (.cells #[.func (.func 37) #[] #[]] 74 (0, 0)), Own.blk bg2_1 (.cells #[.slice Ag2_1 lg2_1.length cg2_1] 22 (0, 0)), Own.all [Own.all LT]] := hS51.packN 3
        refine ge_call2 (m := 0) (d := some 60) (f := 79) (args := #[.slice A0 m8.length c0, .int .i64 z9, .int .i64 (IntKind.i64.wrap (z9 + z5)), .int .i64 x1, .func (.func 59) #[] #[.pointer (some ⟨bg2_0, 0, none⟩), .pointer (some ⟨bg2_1, 0, none⟩)]]) (by kernel_rfl) (slices_symMergeCmpFunc_int_ok K m8 A0 c0 z9 (IntKind.i64.wrap (z9 + z5)) x1 bg2_0 bg2_1 lg2_1 Ag2_1 cg2_1 _ _ _ hS53 hRg2_1 hLg2_1 _ hq6) ?_
        rintro _ w6 ⟨rfl, hE4, hS52⟩
        refine ⟨_, rfl, ?_⟩
        have hS54 : St w0 w6 [Own.of (.slice A0 r4.length c0) 3 r4, Own.blk bg2_0 (.cells #[.func (.func 37) #[] #[]] 74 (0, 0)), Own.blk bg2_1 (.cells #[.slice Ag2_1 lg2_1.length cg2_1] 22 (0, 0)), Own.all LT] := hS52.unpack [Own.of (.slice A0 r4.length c0) 3 r4, Own.blk bg2_0 (.cells #[.func (.func 37) #[] #[]] 74 (0, 0)), Own.blk bg2_1 (.cells #[.slice Ag2_1 lg2_1.length cg2_1] 22 (0, 0))]
        refine ge_same (t := 0) (v := (.slice A0 m8.length c0)) (v' := (.slice A0 r4.length c0)) (by kernel_rfl) (by rw [show m8.length = r4.length from hE4]) ?_
        refine ge_same (t := 55) (v := (.slice A0 m8.length c0)) (v' := (.slice A0 r4.length c0)) (by kernel_rfl) (by rw [show m8.length = r4.length from hE4]) ?_
        have hLio10 : l0.length = r4.length := Eq.trans hRz2 hE4
        refine ge_nil fun a hF => hK17 _ _ ?_ a hF
        refine we_region [(0, 0), (1, 0), (2, 0)] rfl ?_
        refine ge_batch [0, 1, 2] (ans := []) (vs := [(6, .int .i64 (IntKind.i64.wrap (z5 * 2))), (62, .int .i64 (IntKind.i64.wrap (z5 * 2))), (61, .int .i64 z5)]) (l := []) (by kernel_rfl) trivial ?_
        have hS55 := hS54.bring 3 rfl
        have hS56 := hS55.bring 1 rfl
        have hS57 := hS56.bring 3 rfl
        have hS58 := hS57.bring 3 rfl
        obtain rfl := Option.some.inj h
        exact ge_nil fun a hF => hQ _ _ _ (Outs.again ⟨hLio10, hS58, hF.weaken ⟨by kernel_rfl, by kernel_rfl, by kernel_rfl, by kernel_rfl, trivial⟩⟩)
      · rw [if_neg hc4] at h
        refine we_known (t := 54) (b := decide ((IntKind.i64.wrap (z9 + z5)) < x1)) (v := false) (by kernel_rfl) (decide_eq_false hc4) ?_
        refine we_false (by kernel_rfl) ?_
        refine we_skip fun a hF => hK17 _ _ ?_ a hF
        refine we_region [(0, 0), (1, 0), (2, 0)] rfl ?_
        refine ge_batch [0, 1, 2] (ans := []) (vs := [(6, .int .i64 (IntKind.i64.wrap (z5 * 2))), (62, .int .i64 (IntKind.i64.wrap (z5 * 2))), (61, .int .i64 z5)]) (l := []) (by kernel_rfl) trivial ?_
        have hS59 := hS48.bring 3 rfl
        have hS60 := hS59.bring 3 rfl
        have hS61 := hS60.bring 3 rfl
        have hS62 := hS61.bring 3 rfl
        obtain rfl := Option.some.inj h
        exact ge_nil fun a hF => hQ _ _ _ (Outs.again ⟨hRz2, hS62, hF.weaken ⟨by kernel_rfl, by kernel_rfl, by kernel_rfl, by kernel_rfl, trivial⟩⟩)
    · rw [hq5] at h
      simp only [] at h
      refine we_iter (A := slices_stableCmpFunc_int.A2 K w0 l0 A0 c0 x1 bg2_0 bg2_1 lg2_1 Ag2_1 cg2_1 LT hRg2_1 hLg2_1 z4 m3 hRz1 r2 hLio4 z5 m4 hLio5 hc2) (B := slices_stableCmpFunc_int.B2 K w0 l0 A0 c0 x1 bg2_0 bg2_1 lg2_1 Ag2_1 cg2_1 LT hRg2_1 hLg2_1 z4 m3 hRz1 r2 hLio4 z5 m4 hLio5 hc2) hq5 (fun a hF => ⟨hLio5, hS33, hF.weaken ⟨by kernel_rfl, by kernel_rfl, by kernel_rfl, by kernel_rfl, by kernel_rfl, by kernel_rfl, trivial⟩⟩) (fun s o hf a w hA Q hQ => slices_stableCmpFunc_int_r2 K w0 l0 A0 c0 x1 bg2_0 bg2_1 lg2_1 Ag2_1 cg2_1 LT hRg2_1 hLg2_1 z4 m3 hRz1 r2 hLio4 z5 m4 hLio5 hc2 s o hf a w hA Q hQ) ?_
      rintro _ a w1 _ ⟨rfl, hb⟩
      obtain rfl := Option.some.inj h
      exact hQ _ _ _ (Outs.out nofun (Exits.on ⟨rfl, hb⟩))
  · rw [if_neg hc2] at h
    refine we_known (t := 30) (b := decide (z5 < x1)) (v := false) (by kernel_rfl) (decide_eq_false hc2) ?_
    refine we_false (by kernel_rfl) ?_
    have hS63 := hS.bring 3 rfl
    have hS64 := hS63.bring 3 rfl
    have hS65 := hS64.bring 3 rfl
    have hS66 := hS65.bring 3 rfl
    obtain rfl := Option.some.inj h
    exact we_exit fun a hF => hQ _ _ _ (Outs.out nofun (Exits.here ⟨hLio5, hS66, hF.weaken ⟨by kernel_rfl, by kernel_rfl, trivial⟩⟩))
theorem slices_stableCmpFunc_int_ok (K : Nat) (l0 : List Int) (A0 : Option Addr) (c0 : Nat) (x1 : Int) (bg2_0 : Nat) (bg2_1 : Nat) (lg2_1 : List STask) (Ag2_1 : Option Addr) (cg2_1 : Nat) (w0 wE : World) (LT : List Own) (hS : St w0 wE [Own.of (.slice A0 l0.length c0) 3 l0, Own.blk bg2_0 (.cells #[.func (.func 37) #[] #[]] 74 (0, 0)), Own.blk bg2_1 (.cells #[.slice Ag2_1 lg2_1.length cg2_1] 22 (0, 0)), Own.all LT]) (hRg2_1 : RdL w0 Ag2_1 lg2_1) (hLg2_1 : lg2_1.length ≤ cg2_1) (r : List Int) (h : slices_stableCmpFunc_int.f K l0 x1 lg2_1 = some r) :
    Calls Try.prog 66 #[(.slice A0 l0.length c0), .int .i64 x1, .func (.func 59) #[] #[.pointer (some ⟨bg2_0, 0, none⟩), .pointer (some ⟨bg2_1, 0, none⟩)]] wE (slices_stableCmpFunc_int.Post w0 l0 A0 c0 x1 bg2_0 bg2_1 lg2_1 Ag2_1 cg2_1 LT r) := by
  unfold slices_stableCmpFunc_int.f at h
  refine calls_enter (n := 63) (args := [(.slice A0 l0.length c0), .int .i64 x1, .func (.func 59) #[] #[.pointer (some ⟨bg2_0, 0, none⟩), .pointer (some ⟨bg2_1, 0, none⟩)]]) (fn := Try.f66) rfl rfl rfl rfl ?_
  show WE _ _ _ _ [(0, (.slice A0 l0.length c0)), (1, .int .i64 x1), (2, .func (.func 59) #[] #[.pointer (some ⟨bg2_0, 0, none⟩), .pointer (some ⟨bg2_1, 0, none⟩)])] _
  refine we_seq fun K1 hK1 => ?_
  refine we_region [(0, 0)] rfl ?_
  refine ge_batch [0] (ans := []) (vs := [(6, .int .i64 20)]) (l := []) (by kernel_rfl) trivial ?_
  refine ge_nil fun a hF => hK1 _ _ ?_ a hF
  refine we_seq fun K2 hK2 => ?_
  refine we_region [(0, 0), (1, 0), (2, 0)] rfl ?_
  refine ge_batch [0, 1, 2] (ans := []) (vs := [(8, .int .i64 20), (7, .int .i64 0), (10, .int .i64 20)]) (l := []) (by kernel_rfl) trivial ?_
  refine ge_nil fun a hF => hK2 _ _ ?_ a hF
  refine we_seq fun K3 hK3 => ?_
  refine we_block ?_
  have hS1 := hS.bring 3 rfl
  have hS2 := hS1.bring 1 rfl
  have hS3 := hS2.bring 3 rfl
  have hS4 := hS3.bring 3 rfl
  rcases hq2 : iter (slices_stableCmpFunc_int.r0 K x1 lg2_1) K (0, 20, l0) with _ | (⟨z4, m3⟩ | rr3)
  · rw [hq2] at h; cases h
  · rw [hq2] at h
    simp only [] at h
    refine we_iter (A := slices_stableCmpFunc_int.A0 K w0 l0 A0 c0 x1 bg2_0 bg2_1 lg2_1 Ag2_1 cg2_1 LT hRg2_1 hLg2_1) (B := slices_stableCmpFunc_int.B0 K w0 l0 A0 c0 x1 bg2_0 bg2_1 lg2_1 Ag2_1 cg2_1 LT hRg2_1 hLg2_1) hq2 (fun a hF => ⟨rfl, hS4, hF.weaken ⟨by kernel_rfl, by kernel_rfl, by kernel_rfl, by kernel_rfl, by kernel_rfl, by kernel_rfl, trivial⟩⟩) (fun s o hf a w hA Q hQ => slices_stableCmpFunc_int_r0 K w0 l0 A0 c0 x1 bg2_0 bg2_1 lg2_1 Ag2_1 cg2_1 LT hRg2_1 hLg2_1 s o hf a w hA Q hQ) ?_
    rintro _ a w2 _ ⟨rfl, hRz1, hS19, hF⟩
    replace hS19 : St w0 w2 [Own.blk bg2_0 (.cells #[.func (.func 37) #[] #[]] 74 (0, 0)), Own.blk bg2_1 (.cells #[.slice Ag2_1 lg2_1.length cg2_1] 22 (0, 0)), Own.of (.slice A0 m3.length c0) 3 m3, Own.all LT] := hS19
    refine hK3 [(0, (.slice A0 m3.length c0)), (1, .int .i64 x1), (2, .func (.func 59) #[] #[.pointer (some ⟨bg2_0, 0, none⟩), .pointer (some ⟨bg2_1, 0, none⟩)]), (6, .int .i64 20), (7, .int .i64 z4)] w2 ?_ a hF
    refine we_seq fun K8 hK8 => ?_
    refine we_region [(0, 0), (1, 0), (2, 0), (3, 0), (4, 2)] rfl ?_
    refine ge_batch [0, 1, 2, 3] (ans := []) (vs := [(26, .func (.func 59) #[] #[.pointer (some ⟨bg2_0, 0, none⟩), .pointer (some ⟨bg2_1, 0, none⟩)]), (25, .int .i64 x1), (24, .int .i64 z4), (23, (.slice A0 m3.length c0))]) (l := []) (by kernel_rfl) trivial ?_
    rcases hq3 : slices_insertionSortCmpFunc_int.f K m3 z4 x1 lg2_1 with _ | r2
    · rw [hq3] at h; cases h
    rw [hq3] at h
    simp only [] at h
    have hS20 := hS19.bring 1 rfl
    have hS21 := hS20.bring 1 rfl
    have hS22 := hS21.bring 2 rfl
    have hS24 : St w0 w2 [Own.of (.slice A0 m3.length c0) 3 m3, Own.blk bg2_0 (.cells #[.func (.func 37) #[] #[]] 74 (0, 0)), Own.blk bg2_1 (.cells #[.slice Ag2_1 lg2_1.length cg2_1] 22 (0, 0)), Own.all [Own.all LT]] := hS22.packN 3
    refine ge_call2 (m := 0) (d := some 27) (f := 69) (args := #[.slice A0 m3.length c0, .int .i64 z4, .int .i64 x1, .func (.func 59) #[] #[.pointer (some ⟨bg2_0, 0, none⟩), .pointer (some ⟨bg2_1, 0, none⟩)]]) (by kernel_rfl) (slices_insertionSortCmpFunc_int_ok K m3 A0 c0 z4 x1 bg2_0 bg2_1 lg2_1 Ag2_1 cg2_1 _ _ _ hS24 hRg2_1 hLg2_1 _ hq3) ?_
    rintro _ w3 ⟨rfl, hE2, hS23⟩
    refine ⟨_, rfl, ?_⟩
    have hS25 : St w0 w3 [Own.of (.slice A0 r2.length c0) 3 r2, Own.blk bg2_0 (.cells #[.func (.func 37) #[] #[]] 74 (0, 0)), Own.blk bg2_1 (.cells #[.slice Ag2_1 lg2_1.length cg2_1] 22 (0, 0)), Own.all LT] := hS23.unpack [Own.of (.slice A0 r2.length c0) 3 r2, Own.blk bg2_0 (.cells #[.func (.func 37) #[] #[]] 74 (0, 0)), Own.blk bg2_1 (.cells #[.slice Ag2_1 lg2_1.length cg2_1] 22 (0, 0))]
    refine ge_same (t := 0) (v := (.slice A0 m3.length c0)) (v' := (.slice A0 r2.length c0)) (by kernel_rfl) (by rw [show m3.length = r2.length from hE2]) ?_
    refine ge_same (t := 23) (v := (.slice A0 m3.length c0)) (v' := (.slice A0 r2.length c0)) (by kernel_rfl) (by rw [show m3.length = r2.length from hE2]) ?_
    have hLio4 : l0.length = r2.length := Eq.trans hRz1 hE2
    refine ge_nil fun a hF => hK8 _ _ ?_ a hF
    refine we_block ?_
    have hS26 := hS25.bring 3 rfl
    have hS27 := hS26.bring 1 rfl
    have hS28 := hS27.bring 3 rfl
    have hS29 := hS28.bring 3 rfl
    rcases hq7 : iter (slices_stableCmpFunc_int.r1 K x1 lg2_1 r2) K (20, r2) with _ | (m9 | rr2)
    · rw [hq7] at h; cases h
    · rw [hq7] at h
      simp only [] at h
      refine we_iter (A := slices_stableCmpFunc_int.A1 K w0 l0 A0 c0 x1 bg2_0 bg2_1 lg2_1 Ag2_1 cg2_1 LT hRg2_1 hLg2_1 z4 m3 hRz1 r2 hLio4) (B := slices_stableCmpFunc_int.B1 K w0 l0 A0 c0 x1 bg2_0 bg2_1 lg2_1 Ag2_1 cg2_1 LT hRg2_1 hLg2_1 z4 m3 hRz1 r2 hLio4) hq7 (fun a hF => ⟨hLio4, hS29, hF.weaken ⟨by kernel_rfl, by kernel_rfl, by kernel_rfl, by kernel_rfl, trivial⟩⟩) (fun s o hf a w hA Q hQ => slices_stableCmpFunc_int_r1 K w0 l0 A0 c0 x1 bg2_0 bg2_1 lg2_1 Ag2_1 cg2_1 LT hRg2_1 hLg2_1 z4 m3 hRz1 r2 hLio4 s o hf a w hA Q hQ) ?_
      rintro _ a w7 _ ⟨rfl, hRz3, hS67, hF⟩
      replace hS67 : St w0 w7 [Own.blk bg2_0 (.cells #[.func (.func 37) #[] #[]] 74 (0, 0)), Own.blk bg2_1 (.cells #[.slice Ag2_1 lg2_1.length cg2_1] 22 (0, 0)), Own.of (.slice A0 m9.length c0) 3 m9, Own.all LT] := hS67
      have hS68 := hS67.bring 3 rfl
      have hS69 := hS68.bring 2 rfl
      have hS70 := hS69.bring 2 rfl
      have hS71 := hS70.bring 3 rfl
      obtain rfl := Option.some.inj h
      exact (post_end (rs := []) (ans := []) (vs := []) (l := []) rfl (by kernel_rfl) trivial ⟨rfl, hRz3, hS71⟩) a hF
    · rw [hq7] at h
      simp only [] at h
      refine we_iter (A := slices_stableCmpFunc_int.A1 K w0 l0 A0 c0 x1 bg2_0 bg2_1 lg2_1 Ag2_1 cg2_1 LT hRg2_1 hLg2_1 z4 m3 hRz1 r2 hLio4) (B := slices_stableCmpFunc_int.B1 K w0 l0 A0 c0 x1 bg2_0 bg2_1 lg2_1 Ag2_1 cg2_1 LT hRg2_1 hLg2_1 z4 m3 hRz1 r2 hLio4) hq7 (fun a hF => ⟨hLio4, hS29, hF.weaken ⟨by kernel_rfl, by kernel_rfl, by kernel_rfl, by kernel_rfl, trivial⟩⟩) (fun s o hf a w hA Q hQ => slices_stableCmpFunc_int_r1 K w0 l0 A0 c0 x1 bg2_0 bg2_1 lg2_1 Ag2_1 cg2_1 LT hRg2_1 hLg2_1 z4 m3 hRz1 r2 hLio4 s o hf a w hA Q hQ) ?_
      rintro _ a w1 _ ⟨rfl, hb⟩
      obtain rfl := Option.some.inj h
      exact hb
  · rw [hq2] at h
    simp only [] at h
    refine we_iter (A := slices_stableCmpFunc_int.A0 K w0 l0 A0 c0 x1 bg2_0 bg2_1 lg2_1 Ag2_1 cg2_1 LT hRg2_1 hLg2_1) (B := slices_stableCmpFunc_int.B0 K w0 l0 A0 c0 x1 bg2_0 bg2_1 lg2_1 Ag2_1 cg2_1 LT hRg2_1 hLg2_1) hq2 (fun a hF => ⟨rfl, hS4, hF.weaken ⟨by kernel_rfl, by kernel_rfl, by kernel_rfl, by kernel_rfl, by kernel_rfl, by kernel_rfl, trivial⟩⟩) (fun s o hf a w hA Q hQ => slices_stableCmpFunc_int_r0 K w0 l0 A0 c0 x1 bg2_0 bg2_1 lg2_1 Ag2_1 cg2_1 LT hRg2_1 hLg2_1 s o hf a w hA Q hQ) ?_
    rintro _ a w1 _ ⟨rfl, hb⟩
    obtain rfl := Option.some.inj h
    exact hb

/-! slices.SortStableFunc[[]int,int] -/
abbrev slices_SortStableFunc_int_int.Post (w0 : World) (l0 : List Int) (A0 : Option Addr) (c0 : Nat) (bg1_0 : Nat) (bg1_1 : Nat) (lg1_1 : List STask) (Ag1_1 : Option Addr) (cg1_1 : Nat) (LT : List Own) (r : List Int) (e : Ending) (w : World) : Prop := e = .returned (.tuple #[]) ∧ l0.length = r.length ∧ St w0 w [Own.of (.slice A0 r.length c0) 3 r, Own.blk bg1_0 (.cells #[.func (.func 37) #[] #[]] 74 (0, 0)), Own.blk bg1_1 (.cells #[.slice Ag1_1 lg1_1.length cg1_1] 22 (0, 0)), Own.all LT]
def slices_SortStableFunc_int_int.f (K : Nat) (l0 : List Int) (lg1_1 : List STask) : Option (List Int) :=
  match slices_stableCmpFunc_int.f K l0 (l0.length : Int) lg1_1 with
  | none => none
  | some r1 =>
    some r1
theorem slices_SortStableFunc_int_int_ok (K : Nat) (l0 : List Int) (A0 : Option Addr) (c0 : Nat) (bg1_0 : Nat) (bg1_1 : Nat) (lg1_1 : List STask) (Ag1_1 : Option Addr) (cg1_1 : Nat) (w0 wE : World) (LT : List Own) (hS : St w0 wE [Own.of (.slice A0 l0.length c0) 3 l0, Own.blk bg1_0 (.cells #[.func (.func 37) #[] #[]] 74 (0, 0)), Own.blk bg1_1 (.cells #[.slice Ag1_1 lg1_1.length cg1_1] 22 (0, 0)), Own.all LT]) (hRg1_1 : RdL w0 Ag1_1 lg1_1) (hLg1_1 : lg1_1.length ≤ cg1_1) (r : List Int) (h : slices_SortStableFunc_int_int.f K l0 lg1_1 = some r) :
    Calls Try.prog 58 #[(.slice A0 l0.length c0), .func (.func 59) #[] #[.pointer (some ⟨bg1_0, 0, none⟩), .pointer (some ⟨bg1_1, 0, none⟩)]] wE (slices_SortStableFunc_int_int.Post w0 l0 A0 c0 bg1_0 bg1_1 lg1_1 Ag1_1 cg1_1 LT r) := by
  unfold slices_SortStableFunc_int_int.f at h
  refine calls_enter (n := 9) (args := [(.slice A0 l0.length c0), .func (.func 59) #[] #[.pointer (some ⟨bg1_0, 0, none⟩), .pointer (some ⟨bg1_1, 0, none⟩)]]) (fn := Try.f58) rfl rfl rfl rfl ?_
  show WE _ _ _ _ [(0, (.slice A0 l0.length c0)), (1, .func (.func 59) #[] #[.pointer (some ⟨bg1_0, 0, none⟩), .pointer (some ⟨bg1_1, 0, none⟩)])] _
  refine we_region [(0, 0), (1, 0), (2, 0), (3, 0), (4, 2)] rfl ?_
  refine ge_batch [0, 1, 2, 3] (ans := []) (vs := [(7, .func (.func 59) #[] #[.pointer (some ⟨bg1_0, 0, none⟩), .pointer (some ⟨bg1_1, 0, none⟩)]), (6, .int .i64 (l0.length : Int)), (5, (.slice A0 l0.length c0)), (4, (.slice A0 l0.length c0))]) (l := []) (by kernel_rfl) trivial ?_
  rcases hq1 : slices_stableCmpFunc_int.f K l0 (l0.length : Int) lg1_1 with _ | r1
  · rw [hq1] at h; cases h
  rw [hq1] at h
  simp only [] at h
  have hS1 := hS.bring 2 rfl
  have hS2 := hS1.bring 2 rfl
  have hS3 := hS2.bring 2 rfl
  have hS5 : St w0 wE [Own.of (.slice A0 l0.length c0) 3 l0, Own.blk bg1_0 (.cells #[.func (.func 37) #[] #[]] 74 (0, 0)), Own.blk bg1_1 (.cells #[.slice Ag1_1 lg1_1.length cg1_1] 22 (0, 0)), Own.all [Own.all LT]] := hS3.packN 3
  refine ge_call2 (m := 0) (d := some 8) (f := 66) (args := #[.slice A0 l0.length c0, .int .i64 (l0.length : Int), .func (.func 59) #[] #[.pointer (some ⟨bg1_0, 0, none⟩), .pointer (some ⟨bg1_1, 0, none⟩)]]) (by kernel_rfl) (slices_stableCmpFunc_int_ok K l0 A0 c0 (l0.length : Int) bg1_0 bg1_1 lg1_1 Ag1_1 cg1_1 _ _ _ hS5 hRg1_1 hLg1_1 _ hq1) ?_
  rintro _ w1 ⟨rfl, hE1, hS4⟩
  refine ⟨_, rfl, ?_⟩
  have hS6 : St w0 w1 [Own.of (.slice A0 r1.length c0) 3 r1, Own.blk bg1_0 (.cells #[.func (.func 37) #[] #[]] 74 (0, 0)), Own.blk bg1_1 (.cells #[.slice Ag1_1 lg1_1.length cg1_1] 22 (0, 0)), Own.all LT] := hS4.unpack [Own.of (.slice A0 r1.length c0) 3 r1, Own.blk bg1_0 (.cells #[.func (.func 37) #[] #[]] 74 (0, 0)), Own.blk bg1_1 (.cells #[.slice Ag1_1 lg1_1.length cg1_1] 22 (0, 0))]
  refine ge_same (t := 0) (v := (.slice A0 l0.length c0)) (v' := (.slice A0 r1.length c0)) (by kernel_rfl) (by rw [show l0.length = r1.length from hE1]) ?_
  refine ge_same (t := 4) (v := (.slice A0 l0.length c0)) (v' := (.slice A0 r1.length c0)) (by kernel_rfl) (by rw [show l0.length = r1.length from hE1]) ?_
  refine ge_same (t := 5) (v := (.slice A0 l0.length c0)) (v' := (.slice A0 r1.length c0)) (by kernel_rfl) (by rw [show l0.length = r1.length from hE1]) ?_
  have hLio1 : l0.length = r1.length := Eq.trans rfl hE1
  have hS7 := hS6.bring 3 rfl
  have hS8 := hS7.bring 3 rfl
  have hS9 := hS8.bring 3 rfl
  have hS10 := hS9.bring 3 rfl
  obtain rfl := Option.some.inj h
  exact ge_nil (post_end (rs := []) (ans := []) (vs := []) (l := []) rfl (by kernel_rfl) trivial ⟨rfl, hLio1, hS10⟩)
end Go.Proofs.Ytlipdmblinjjaaa.GV
