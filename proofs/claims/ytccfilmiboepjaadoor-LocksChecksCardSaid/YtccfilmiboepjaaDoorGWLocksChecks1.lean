/- Walks of single functions, written by a program of this work. -/
import Derived.Test.YtccfilmiboepjaaDoorGv38
import Derived.Test.YtccfilmiboepjaaDoorProg
namespace Go.Proofs.YtccfilmiboepjaaDoor.GV
open Go Go.RowKit
set_option linter.unusedVariables false
set_option linter.unusedSimpArgs false
set_option maxRecDepth 100000

structure SAct where
  Do : Int
  N : Int
def SAct.eqb (x y : SAct) : Bool := ((x.Do == y.Do) && ((x.N == y.N) && true))
instance : Ok SAct := ⟨fun x => Ok.ok x.Do ∧ Ok.ok x.N ∧ True⟩
instance : Flat SAct := ⟨2, fun x => [.int .i64 x.Do, .int .i64 x.N], fun _ => rfl, fun _ => rfl, by decide⟩

structure SLocked where
  At : Int
  P : Int
  Acts : List SAct

structure HLocked where
  f0 : Int
  f1 : Int
  f2 : Hdr
instance : Flat HLocked := ⟨3, fun x => [.int .i64 x.f0, .int .i64 x.f1, .slice x.f2.A x.f2.n x.f2.c], fun _ => rfl, fun _ => rfl, by decide⟩
def RLocked (Z : Zone) (h : HLocked) (x : SLocked) : Prop := h.f0 = x.At ∧ h.f1 = x.P ∧ (h.f2.n = x.Acts.length ∧ x.Acts.length ≤ h.f2.c ∧ RdF Z h.f2.A x.Acts) ∧ True
theorem RLocked.up {Z Z' : Zone} {h : HLocked} {x : SLocked} (k : ZLe Z Z') (r : RLocked Z h x) : RLocked Z' h x := by
  obtain ⟨e0, e1, ⟨q2, k2, r2⟩, _⟩ := r
  exact ⟨e0, e1, ⟨q2, k2, r2.up k⟩, trivial⟩
instance : DRep SLocked := ⟨HLocked, inferInstance, RLocked, fun k r => RLocked.up k r⟩
theorem SLocked.getZ {Z : Zone} {A : Option Addr} {l : List SLocked} (h : RdZ Z A l) {k : Nat} {x : SLocked} (hx : l[k]? = some x) : ∃ (A2 : Option Addr) (c2 : Nat), CellsAt Z A (k * 3) [.int .i64 x.At, .int .i64 x.P, .slice A2 x.Acts.length c2] ∧ x.Acts.length ≤ c2 ∧ RdF Z A2 x.Acts := by
  obtain ⟨(y : HLocked), r, hc⟩ := h.get hx
  have r' : RLocked Z y x := r
  have hc' : CellsAt Z A (k * 3) [.int .i64 y.f0, .int .i64 y.f1, .slice y.f2.A y.f2.n y.f2.c] := hc
  obtain ⟨e0, e1, ⟨q2, k2, r2⟩, _⟩ := r'
  rw [e0, e1, q2] at hc'
  exact ⟨y.f2.A, y.f2.c, hc', k2, r2⟩
instance : Ok SLocked := ⟨fun x => Ok.ok x.At ∧ Ok.ok x.P ∧ (x.Acts.length * 16 ≤ 140737488351232 ∧ ∀ z ∈ x.Acts, Ok.ok z) ∧ True⟩
theorem SLocked.mkZ {Z : Zone} (x : SLocked) {A2 : Option Addr} {c2 : Nat} (k2 : x.Acts.length ≤ c2) (r2 : RdF Z A2 x.Acts) : DRep.rel (α := SLocked) Z (⟨x.At, x.P, ⟨A2, x.Acts.length, c2⟩⟩ : HLocked) x := by
  exact ⟨rfl, rfl, ⟨rfl, k2, r2⟩, trivial⟩

/-! punctual/punctuallaw.pair -/
abbrev pair.Post (w0 : World) (Z : Zone) (r : List SLocked) (e : Ending) (w : World) : Prop := ∃ (v1 : Value) (hds1 : List HLocked) (ft : List Nat) (wf : World), e = .returned (v1) ∧ DRows (Zand Z wf) hds1 r ∧ St w0 w [Own.of v1 34 hds1, Own.frz ft wf]
def pair.f : List SLocked :=
  ([(⟨0, 1, ([(⟨1, 1⟩ : SAct), (⟨2, 0⟩ : SAct), (⟨1, 3⟩ : SAct), (⟨3, 0⟩ : SAct)] : List SAct)⟩ : SLocked), (⟨2, 2, ([(⟨2, 0⟩ : SAct), (⟨1, 1⟩ : SAct), (⟨3, 0⟩ : SAct)] : List SAct)⟩ : SLocked)] : List SLocked)
theorem pair_ok (Z : Zone) (w0 : World) (hZ : ∀ w, Sub w0 w → Z w) (r : List SLocked) (h : pair.f = r) :
    Calls Tryd.prog 11 #[] w0 (pair.Post w0 Z r) := by
  have hS := St.start w0
  unfold pair.f at h
  refine calls_enter (n := 13) (args := []) (fn := Tryd.f11) rfl rfl rfl rfl ?_
  show WE _ _ _ _ [] _
  obtain ⟨ft1, wf1, hS1⟩ := hS.frz0
  refine we_seq fun K1 hK1 => ?_
  refine we_region [(0, 0)] rfl ?_
  refine ge_batch [0] (ans := []) (vs := [(0, .slice none 0 0)]) (l := []) (by kernel_rfl) trivial ?_
  refine ge_nil fun a hF => hK1 _ _ ?_ a hF
  refine we_seq fun K2 hK2 => ?_
  refine we_region [(0, 0), (1, 0), (2, 0), (3, 0), (4, 1), (5, 0), (6, 0), (7, 0), (8, 0), (9, 1), (10, 0), (11, 1), (12, 0)] rfl ?_
  refine ge_batch [0, 1, 2, 3] (ans := []) (vs := [(4, .agg #[.int .i64 3, .int .i64 0]), (3, .agg #[.int .i64 1, .int .i64 3]), (2, .agg #[.int .i64 2, .int .i64 0]), (1, .agg #[.int .i64 1, .int .i64 1])]) (l := []) (by kernel_rfl) trivial ?_
  refine ge_new (d := some 5) (o := .cells #[.int .i64 1, .int .i64 1, .int .i64 2, .int .i64 0, .int .i64 1, .int .i64 3, .int .i64 3, .int .i64 0] 39) (v := fun b => .slice (some ⟨b, 0, none⟩) 4 4) hS1 (fun b => by kernel_rfl) fun b1 w1 hx1 hS2 => ?_
  refine ge_batch [5, 6, 7, 8] (ans := []) (vs := [(9, .agg #[.int .i64 3, .int .i64 0]), (8, .agg #[.int .i64 1, .int .i64 1]), (7, .agg #[.int .i64 2, .int .i64 0]), (6, .agg #[.int .i64 0, .int .i64 1, .slice (some ⟨b1, 0, none⟩) 4 4])]) (l := []) (by kernel_rfl) trivial ?_
  refine ge_new (d := some 10) (o := .cells #[.int .i64 2, .int .i64 0, .int .i64 1, .int .i64 1, .int .i64 3, .int .i64 0] 39) (v := fun b => .slice (some ⟨b, 0, none⟩) 3 3) hS2 (fun b => by kernel_rfl) fun b2 w2 hx2 hS3 => ?_
  refine ge_batch [10] (ans := []) (vs := [(11, .agg #[.int .i64 2, .int .i64 2, .slice (some ⟨b2, 0, none⟩) 3 3])]) (l := []) (by kernel_rfl) trivial ?_
  refine ge_new (d := some 12) (o := .cells #[.int .i64 0, .int .i64 1, .slice (some ⟨b1, 0, none⟩) 4 4, .int .i64 2, .int .i64 2, .slice (some ⟨b2, 0, none⟩) 3 3] 34) (v := fun b => .slice (some ⟨b, 0, none⟩) 2 2) hS3 (fun b => by kernel_rfl) fun b3 w3 hx3 hS4 => ?_
  refine ge_batch [12] (ans := []) (vs := [(0, .slice (some ⟨b3, 0, none⟩) 2 2)]) (l := []) (by kernel_rfl) trivial ?_
  refine ge_nil fun a hF => hK2 _ _ ?_ a hF
  have hS5 := hS4.bring 2 rfl
  have hS6 := hS5.asRow (α := SAct) (c := 4) ([(⟨1, 1⟩ : SAct), (⟨2, 0⟩ : SAct), (⟨1, 3⟩ : SAct), (⟨3, 0⟩ : SAct)] : List SAct) (Nat.le_refl _) (by decide) rfl rfl
  have hS7 := hS6.bring 3 rfl
  have hS8 := hS7.bring 1 rfl
  obtain ⟨ft2, wf2, hsb1, -, hRd1, hLd1, hS9⟩ := hS8.ffrz Z
  have hS10 := hS9.bring 2 rfl
  have hS11 := hS10.asRow (α := SAct) (c := 3) ([(⟨2, 0⟩ : SAct), (⟨1, 1⟩ : SAct), (⟨3, 0⟩ : SAct)] : List SAct) (Nat.le_refl _) (by decide) rfl rfl
  have hS12 := hS11.bring 1 rfl
  have hS13 := hS12.bring 1 rfl
  obtain ⟨ft3, wf3, hsb2, -, hRd2, hLd2, hS14⟩ := hS13.ffrz Z
  have hS15 := hS14.bring 1 rfl
  have hS16 := hS15.asRow (α := HLocked) (c := 2) ([(⟨0, 1, ⟨(some ⟨b1, 0, none⟩), ([(⟨1, 1⟩ : SAct), (⟨2, 0⟩ : SAct), (⟨1, 3⟩ : SAct), (⟨3, 0⟩ : SAct)] : List SAct).length, 4⟩⟩ : HLocked), (⟨2, 2, ⟨(some ⟨b2, 0, none⟩), ([(⟨2, 0⟩ : SAct), (⟨1, 1⟩ : SAct), (⟨3, 0⟩ : SAct)] : List SAct).length, 3⟩⟩ : HLocked)] : List HLocked) (Nat.le_refl _) (by decide) rfl rfl
  have hd1 : DRows (Zand Z wf3) ([(⟨0, 1, ⟨(some ⟨b1, 0, none⟩), ([(⟨1, 1⟩ : SAct), (⟨2, 0⟩ : SAct), (⟨1, 3⟩ : SAct), (⟨3, 0⟩ : SAct)] : List SAct).length, 4⟩⟩ : HLocked), (⟨2, 2, ⟨(some ⟨b2, 0, none⟩), ([(⟨2, 0⟩ : SAct), (⟨1, 1⟩ : SAct), (⟨3, 0⟩ : SAct)] : List SAct).length, 3⟩⟩ : HLocked)] : List HLocked) ([(⟨0, 1, ([(⟨1, 1⟩ : SAct), (⟨2, 0⟩ : SAct), (⟨1, 3⟩ : SAct), (⟨3, 0⟩ : SAct)] : List SAct)⟩ : SLocked), (⟨2, 2, ([(⟨2, 0⟩ : SAct), (⟨1, 1⟩ : SAct), (⟨3, 0⟩ : SAct)] : List SAct)⟩ : SLocked)] : List SLocked) := (DRows.add (DRows.add (DRows.nil _) (SLocked.mkZ (⟨0, 1, ([(⟨1, 1⟩ : SAct), (⟨2, 0⟩ : SAct), (⟨1, 3⟩ : SAct), (⟨3, 0⟩ : SAct)] : List SAct)⟩ : SLocked) hLd1 (hRd1.up (ZLe.up hsb2)))) (SLocked.mkZ (⟨2, 2, ([(⟨2, 0⟩ : SAct), (⟨1, 1⟩ : SAct), (⟨3, 0⟩ : SAct)] : List SAct)⟩ : SLocked) hLd2 hRd2))
  have hS17 := hS16.bring 1 rfl
  have hS18 := hS17.bring 1 rfl
  subst h
  exact we_ret (post_ret (rs := [.tmp 0]) (ans := []) (vs := [(.slice (some ⟨b3, 0, none⟩) ([(⟨0, 1, ([(⟨1, 1⟩ : SAct), (⟨2, 0⟩ : SAct), (⟨1, 3⟩ : SAct), (⟨3, 0⟩ : SAct)] : List SAct)⟩ : SLocked), (⟨2, 2, ([(⟨2, 0⟩ : SAct), (⟨1, 1⟩ : SAct), (⟨3, 0⟩ : SAct)] : List SAct)⟩ : SLocked)] : List SLocked).length 2)]) (l := []) rfl (by kernel_rfl) trivial ⟨(.slice (some ⟨b3, 0, none⟩) ([(⟨0, 1, ([(⟨1, 1⟩ : SAct), (⟨2, 0⟩ : SAct), (⟨1, 3⟩ : SAct), (⟨3, 0⟩ : SAct)] : List SAct)⟩ : SLocked), (⟨2, 2, ([(⟨2, 0⟩ : SAct), (⟨1, 1⟩ : SAct), (⟨3, 0⟩ : SAct)] : List SAct)⟩ : SLocked)] : List SLocked).length 2), ([(⟨0, 1, ⟨(some ⟨b1, 0, none⟩), ([(⟨1, 1⟩ : SAct), (⟨2, 0⟩ : SAct), (⟨1, 3⟩ : SAct), (⟨3, 0⟩ : SAct)] : List SAct).length, 4⟩⟩ : HLocked), (⟨2, 2, ⟨(some ⟨b2, 0, none⟩), ([(⟨2, 0⟩ : SAct), (⟨1, 1⟩ : SAct), (⟨3, 0⟩ : SAct)] : List SAct).length, 3⟩⟩ : HLocked)] : List HLocked), ft3, wf3, rfl, hd1, hS18⟩)

structure SFault where
  Code : Int
  At : Int
def SFault.eqb (x y : SFault) : Bool := ((x.Code == y.Code) && ((x.At == y.At) && true))
instance : Ok SFault := ⟨fun x => Ok.ok x.Code ∧ Ok.ok x.At ∧ True⟩
instance : Flat SFault := ⟨2, fun x => [.int .i64 x.Code, .int .i64 x.At], fun _ => rfl, fun _ => rfl, by decide⟩

/-! punctual/locks.Check$1 -/
abbrev locks_Check_1.Post (w0 : World) (r : SFault) (e : Ending) (w : World) : Prop := e = .returned (.agg #[.int .i64 r.Code, .int .i64 r.At]) ∧ St w0 w []
def locks_Check_1.f (x0 : Int) (xf_0 : Int) : SFault :=
  (⟨x0, xf_0⟩ : SFault)
theorem locks_Check_1_ok (x0 : Int) (bf_0 : Nat) (xf_0 : Int) (w0 : World) (hBf_0 : Glob w0 bf_0 [.int .i64 xf_0]) (r : SFault) (h : locks_Check_1.f x0 xf_0 = r) :
    Calls Tryd.prog 62 #[.int .i64 x0, .pointer (some ⟨bf_0, 0, none⟩)] w0 (locks_Check_1.Post w0 r) := by
  have hS := St.start w0
  unfold locks_Check_1.f at h
  refine calls_enter (n := 7) (args := [.int .i64 x0, .pointer (some ⟨bf_0, 0, none⟩)]) (fn := Tryd.f62) rfl rfl rfl rfl ?_
  show WE _ _ _ _ [(0, .int .i64 x0), (1, .pointer (some ⟨bf_0, 0, none⟩))] _
  refine we_seq fun K1 hK1 => ?_
  refine we_region [(0, 1)] rfl ?_
  refine ge_new (d := some 3) (o := .cells #[.int .i64 0, .int .i64 0] 27) (v := fun b => .pointer (some ⟨b, 0, none⟩)) hS (fun b => by kernel_rfl) fun b1 w1 hx1 hS1 => ?_
  refine ge_nil fun a hF => hK1 _ _ ?_ a hF
  refine we_seq fun K2 hK2 => ?_
  refine we_region [(0, 0), (1, 0), (2, 0), (3, 2)] rfl ?_
  refine ge_batch [0, 1, 2] (ans := [.val (.int .i64 xf_0)]) (vs := [(6, .agg #[.int .i64 x0, .int .i64 xf_0]), (5, .int .i64 xf_0), (4, .int .i64 x0)]) (l := [.loaded ⟨bf_0, 0, none⟩ (.int .i64 xf_0)]) (by kernel_rfl) ⟨hS1.glob hBf_0 rfl, trivial⟩ ?_
  refine ge_set (b := b1) (j := 0) (cs := #[.int .i64 0, .int .i64 0]) (t := 27) (vs := [.int .i64 x0, .int .i64 xf_0]) hS1 (by kernel_rfl) rfl rfl fun w2 hS2 => ?_
  have hS3 := hS2.nc #[.int .i64 x0, .int .i64 xf_0] rfl
  refine ge_nil fun a hF => hK2 _ _ ?_ a hF
  have hS4 := hS3.takeN 0
  subst h
  exact we_ret (post_ret (rs := [.cell 3 27]) (ans := [.val (.int .i64 x0), .val (.int .i64 xf_0)]) (vs := [.agg #[.int .i64 x0, .int .i64 xf_0]]) (l := [.loaded ⟨b1, 0, none⟩ (.int .i64 x0), .loaded ⟨b1, 1, none⟩ (.int .i64 xf_0)]) rfl (by kernel_rfl) ⟨hS3.cell 0 rfl rfl, hS3.cell 0 rfl rfl, trivial⟩ ⟨rfl, hS4⟩)

/-! punctual/locks.Check -/
abbrev locks_Check.Post (w0 : World) (r : SFault) (e : Ending) (w : World) : Prop := e = .returned (.agg #[.int .i64 r.Code, .int .i64 r.At]) ∧ St w0 w []
def locks_Check.p1 (i1 : Nat) (e1 : SAct) : Option (Unit ⊕ SFault) :=
    if e1.N < 0 then
      some (.inr (locks_Check_1.f 3 (i1 : Int)))
    else
      if e1.N > 3 then
        some (.inr (locks_Check_1.f 3 (i1 : Int)))
      else
        some (.inl ())
def locks_Check.r2 (m1 : List Int) (i1 : Nat) (e1 : SAct) : Nat → Option (Nat ⊕ (Unit ⊕ SFault))
  | i2 =>
    if (i2 : Int) < (m1.length : Int) then
      match m1[i2]? with
      | none => none
      | some e2 =>
        if e2 = e1.N then
          some (.inr (.inr (locks_Check_1.f 5 (i1 : Int))))
        else
          some (.inl (i2 + 1))
    else
      some (.inr (.inl ()))
def locks_Check.r0 (K : Nat) (l0 : List SAct) : (List Int) × Nat → Option (((List Int) × Nat) ⊕ ((List Int) ⊕ SFault))
  | (m1, i1) =>
    if (i1 : Int) < (l0.length : Int) then
      match l0[i1]? with
      | none => none
      | some e1 =>
        if e1.Do = 1 then
          if e1.N < 1 then
            some (.inr (.inr (locks_Check_1.f 3 (i1 : Int))))
          else
            if e1.N > 1000 then
              some (.inr (.inr (locks_Check_1.f 3 (i1 : Int))))
            else
              some (.inl (m1, (i1 + 1)))
        else
          if e1.Do = 2 then
            match locks_Check.p1 i1 e1 with
            | none => none
            | some (.inl _) =>
              match iter (locks_Check.r2 m1 i1 e1) K 0 with
              | none => none
              | some (.inl _) =>
                if m1.length < 17592186044416 then
                  some (.inl ((m1 ++ [e1.N]), (i1 + 1)))
                else
                  none
              | some (.inr rr1) =>
                some (.inr (.inr rr1))
            | some (.inr rr2) =>
              some (.inr (.inr rr2))
          else
            if e1.Do = 3 then
              if (m1.length : Int) = 0 then
                some (.inr (.inr (locks_Check_1.f 10 (i1 : Int))))
              else
                if 0 ≤ (IntKind.i64.wrap ((m1.length : Int) - 1)) then
                  match m1[(IntKind.i64.wrap ((m1.length : Int) - 1)).toNat]? with
                  | none => none
                  | some e3 =>
                    if e3 = e1.N then
                      if ((IntKind.i64.wrap ((m1.length : Int) - 1)).toNat) ≤ m1.length then
                        some (.inl ((m1.take ((IntKind.i64.wrap ((m1.length : Int) - 1)).toNat)), (i1 + 1)))
                      else
                        none
                    else
                      some (.inr (.inr (locks_Check_1.f 10 (i1 : Int))))
                else
                  none
            else
              some (.inr (.inr (locks_Check_1.f 6 (i1 : Int))))
    else
      some (.inr (.inl m1))
def locks_Check.f (K : Nat) (l0 : List SAct) : Option SFault :=
  if (l0.length : Int) > 200 then
    some (⟨2, 0⟩ : SFault)
  else
    match iter (locks_Check.r0 K l0) K (([] : List Int), 0) with
    | none => none
    | some (.inl m3) =>
      if (m3.length : Int) > 0 then
        some (⟨10, (l0.length : Int)⟩ : SFault)
      else
        some (⟨0, 0⟩ : SFault)
    | some (.inr rr3) =>
      some rr3
abbrev locks_Check.A1 (K : Nat) (w0 : World) (l0 : List SAct) (A0 : Option Addr) (c0 : Nat) (hR0 : RdL w0 A0 l0) (hL0 : l0.length ≤ c0) (b1 : Nat) (hc1 : ¬ ((l0.length : Int) > 200)) (m1 : List Int) (i1 : Nat) (hc2 : (i1 : Int) < (l0.length : Int)) (e1 : SAct) (hx2 : l0[i1]? = some e1) (b2 : Nat) (b3 : Nat) (hc3 : ¬ (e1.Do = 1)) (hc6 : e1.Do = 2) (Z1 : Option Addr) (cz1 : Nat) : Unit → Act → World → Prop := fun (s : Unit) a w => St w0 w [Own.blk b3 (.cells #[.int .i64 e1.Do, .int .i64 e1.N] 39 (0, 0)), Own.blk b2 (.cells #[.int .i64 (i1 : Int)] 3 (0, 0)), Own.blk b1 (.cells #[.int .i64 0, .int .i64 0] 27 (0, 0)), Own.of (.slice Z1 m1.length cz1) 3 m1] ∧ Frm 98 a [(0, .slice A0 l0.length c0), (2, .pointer (some ⟨b1, 0, none⟩)), (3, (.slice Z1 m1.length cz1)), (5, .pointer (some ⟨b3, 0, none⟩)), (6, .func (.func 62) #[] #[.pointer (some ⟨b2, 0, none⟩)]), (13, .slice A0 l0.length c0), (14, .int .i64 (l0.length : Int)), (15, .int .i64 (i1 : Int))]
abbrev locks_Check.B1 (K : Nat) (w0 : World) (l0 : List SAct) (A0 : Option Addr) (c0 : Nat) (hR0 : RdL w0 A0 l0) (hL0 : l0.length ≤ c0) (b1 : Nat) (hc1 : ¬ ((l0.length : Int) > 200)) (m1 : List Int) (i1 : Nat) (hc2 : (i1 : Int) < (l0.length : Int)) (e1 : SAct) (hx2 : l0[i1]? = some e1) (b2 : Nat) (b3 : Nat) (hc3 : ¬ (e1.Do = 1)) (hc6 : e1.Do = 2) (Z1 : Option Addr) (cz1 : Nat) : SFault → Exit → Act → World → Prop := Rets Tryd.prog Tryd.f18 (locks_Check.Post w0)
theorem locks_Check_p1 (K : Nat) (w0 : World) (l0 : List SAct) (A0 : Option Addr) (c0 : Nat) (hR0 : RdL w0 A0 l0) (hL0 : l0.length ≤ c0) (b1 : Nat) (hc1 : ¬ ((l0.length : Int) > 200)) (m1 : List Int) (i1 : Nat) (hc2 : (i1 : Int) < (l0.length : Int)) (e1 : SAct) (hx2 : l0[i1]? = some e1) (b2 : Nat) (b3 : Nat) (hc3 : ¬ (e1.Do = 1)) (hc6 : e1.Do = 2) (Z1 : Option Addr) (cz1 : Nat) (o : Unit ⊕ SFault) (h : locks_Check.p1 i1 e1 = some o) (w : World) (hS : St w0 w [Own.blk b3 (.cells #[.int .i64 e1.Do, .int .i64 e1.N] 39 (0, 0)), Own.blk b2 (.cells #[.int .i64 (i1 : Int)] 3 (0, 0)), Own.blk b1 (.cells #[.int .i64 0, .int .i64 0] 27 (0, 0)), Own.of (.slice Z1 m1.length cz1) 3 m1]) (Q : Exit → Act → World → Prop) (hQ : ∀ x a w, Outs (locks_Check.A1 K w0 l0 A0 c0 hR0 hL0 b1 hc1 m1 i1 hc2 e1 hx2 b2 b3 hc3 hc6 Z1 cz1) (locks_Check.B1 K w0 l0 A0 c0 hR0 hL0 b1 hc1 m1 i1 hc2 e1 hx2 b2 b3 hc3 hc6 Z1 cz1) o x a w → Q x a w) : WE Tryd.prog 98 (subF Tryd.f18 [1, 1, 1, 0, 1, 0, 0, 1, 1, 0, 0, 1, 1, 1, 0, 1, 1, 1, 0, 0]) Q [(0, .slice A0 l0.length c0), (2, .pointer (some ⟨b1, 0, none⟩)), (3, (.slice Z1 m1.length cz1)), (4, .pointer (some ⟨b2, 0, none⟩)), (5, .pointer (some ⟨b3, 0, none⟩)), (6, .func (.func 62) #[] #[.pointer (some ⟨b2, 0, none⟩)]), (13, .slice A0 l0.length c0), (14, .int .i64 (l0.length : Int)), (15, .int .i64 (i1 : Int)), (16, .bool true), (17, .int .i64 (i1 : Int)), (18, .pointer (some ⟨blkOf A0, offOf A0 + i1 * 2, none⟩)), (19, .agg #[.int .i64 e1.Do, .int .i64 e1.N]), (20, .func (.func 62) #[] #[.pointer (some ⟨b2, 0, none⟩)]), (21, .pointer (some ⟨b3, 0, none⟩)), (22, .int .i64 e1.Do), (25, .bool false), (26, .bool (e1.Do == 1)), (37, .bool true), (38, .bool (e1.Do == 2))] w := by
  simp only [locks_Check.p1] at h
  refine we_seq fun K20 hK20 => ?_
  refine we_region [(0, 0), (1, 0), (2, 0), (3, 0), (4, 0), (5, 0), (6, 0), (7, 0)] rfl ?_
  refine ge_batch [0, 1, 2, 3] (ans := [.val (.int .i64 e1.N)]) (vs := [(42, .bool (decide (e1.N < 0))), (41, .bool (decide (e1.N < 0))), (40, .int .i64 e1.N), (39, .pointer (some ⟨b3, 1, none⟩))]) (l := [.loaded ⟨b3, 1, none⟩ (.int .i64 e1.N)]) (by kernel_rfl) ⟨hS.cell 0 rfl rfl, trivial⟩ ?_
  by_cases hc7 : e1.N < 0
  · rw [if_pos hc7] at h
    refine ge_known (t := 42) (b := decide (e1.N < 0)) (c := true) (by kernel_rfl) (decide_eq_true hc7) ?_
    refine ge_batch [4, 5, 6, 7] (ans := []) (vs := [(46, .bool true), (45, undef), (44, undef), (43, undef)]) (l := []) (by kernel_rfl) trivial ?_
    refine ge_nil fun a hF => hK20 _ _ ?_ a hF
    refine we_true (by kernel_rfl) ?_
    refine we_seq fun K21 hK21 => ?_
    refine we_region [(0, 0), (1, 1), (2, 2)] rfl ?_
    refine ge_batch [0] (ans := []) (vs := [(47, .func (.func 62) #[] #[.pointer (some ⟨b2, 0, none⟩)])]) (l := []) (by kernel_rfl) trivial ?_
    refine ge_call (d := some 48) (f := 62) (args := #[.int .i64 3, .pointer (some ⟨b2, 0, none⟩)]) (by kernel_rfl) (locks_Check_1_ok 3 b2 (i1 : Int) _ (hS.globOf 1 rfl) _ rfl) ?_
    rintro _ w11 ⟨rfl, hS30⟩
    refine ⟨_, rfl, hS30.below, ?_⟩
    have hS31 := hS.call hS30
    have hS32 := hS31.bring 2 rfl
    refine ge_set (b := b1) (j := 0) (cs := #[.int .i64 0, .int .i64 0]) (t := 27) (vs := [.int .i64 ((locks_Check_1.f 3 (i1 : Int)).Code), .int .i64 ((locks_Check_1.f 3 (i1 : Int)).At)]) hS32 (by kernel_rfl) rfl rfl fun w12 hS33 => ?_
    have hS34 := hS33.nc #[.int .i64 ((locks_Check_1.f 3 (i1 : Int)).Code), .int .i64 ((locks_Check_1.f 3 (i1 : Int)).At)] rfl
    refine ge_nil fun a hF => hK21 _ _ ?_ a hF
    have hS35 := hS34.takeN 0
    obtain rfl := Option.some.inj h
    exact we_ret fun a hF => hQ _ _ _ (Outs.out nofun ⟨rfl, (post_ret (rs := [.cell 2 27]) (ans := [.val (.int .i64 ((locks_Check_1.f 3 (i1 : Int)).Code)), .val (.int .i64 ((locks_Check_1.f 3 (i1 : Int)).At))]) (vs := [.agg #[.int .i64 ((locks_Check_1.f 3 (i1 : Int)).Code), .int .i64 ((locks_Check_1.f 3 (i1 : Int)).At)]]) (l := [.loaded ⟨b1, 0, none⟩ (.int .i64 ((locks_Check_1.f 3 (i1 : Int)).Code)), .loaded ⟨b1, 1, none⟩ (.int .i64 ((locks_Check_1.f 3 (i1 : Int)).At))]) rfl (by kernel_rfl) ⟨hS34.cell 0 rfl rfl, hS34.cell 0 rfl rfl, trivial⟩ ⟨rfl, hS35⟩) a hF⟩)
  · rw [if_neg hc7] at h
    refine ge_known (t := 42) (b := decide (e1.N < 0)) (c := false) (by kernel_rfl) (decide_eq_false hc7) ?_
    refine ge_batch [4, 5, 6, 7] (ans := [.val (.int .i64 e1.N)]) (vs := [(46, .bool (decide (e1.N > 3))), (45, .bool (decide (e1.N > 3))), (44, .int .i64 e1.N), (43, .pointer (some ⟨b3, 1, none⟩))]) (l := [.loaded ⟨b3, 1, none⟩ (.int .i64 e1.N)]) (by kernel_rfl) ⟨hS.cell 0 rfl rfl, trivial⟩ ?_
    refine ge_nil fun a hF => hK20 _ _ ?_ a hF
    by_cases hc8 : e1.N > 3
    · rw [if_pos hc8] at h
      refine we_known (t := 46) (b := decide (e1.N > 3)) (v := true) (by kernel_rfl) (decide_eq_true hc8) ?_
      refine we_true (by kernel_rfl) ?_
      refine we_seq fun K22 hK22 => ?_
      refine we_region [(0, 0), (1, 1), (2, 2)] rfl ?_
      refine ge_batch [0] (ans := []) (vs := [(47, .func (.func 62) #[] #[.pointer (some ⟨b2, 0, none⟩)])]) (l := []) (by kernel_rfl) trivial ?_
      refine ge_call (d := some 48) (f := 62) (args := #[.int .i64 3, .pointer (some ⟨b2, 0, none⟩)]) (by kernel_rfl) (locks_Check_1_ok 3 b2 (i1 : Int) _ (hS.globOf 1 rfl) _ rfl) ?_
      rintro _ w13 ⟨rfl, hS36⟩
      refine ⟨_, rfl, hS36.below, ?_⟩
      have hS37 := hS.call hS36
      have hS38 := hS37.bring 2 rfl
      refine ge_set (b := b1) (j := 0) (cs := #[.int .i64 0, .int .i64 0]) (t := 27) (vs := [.int .i64 ((locks_Check_1.f 3 (i1 : Int)).Code), .int .i64 ((locks_Check_1.f 3 (i1 : Int)).At)]) hS38 (by kernel_rfl) rfl rfl fun w14 hS39 => ?_
      have hS40 := hS39.nc #[.int .i64 ((locks_Check_1.f 3 (i1 : Int)).Code), .int .i64 ((locks_Check_1.f 3 (i1 : Int)).At)] rfl
      refine ge_nil fun a hF => hK22 _ _ ?_ a hF
      have hS41 := hS40.takeN 0
      obtain rfl := Option.some.inj h
      exact we_ret fun a hF => hQ _ _ _ (Outs.out nofun ⟨rfl, (post_ret (rs := [.cell 2 27]) (ans := [.val (.int .i64 ((locks_Check_1.f 3 (i1 : Int)).Code)), .val (.int .i64 ((locks_Check_1.f 3 (i1 : Int)).At))]) (vs := [.agg #[.int .i64 ((locks_Check_1.f 3 (i1 : Int)).Code), .int .i64 ((locks_Check_1.f 3 (i1 : Int)).At)]]) (l := [.loaded ⟨b1, 0, none⟩ (.int .i64 ((locks_Check_1.f 3 (i1 : Int)).Code)), .loaded ⟨b1, 1, none⟩ (.int .i64 ((locks_Check_1.f 3 (i1 : Int)).At))]) rfl (by kernel_rfl) ⟨hS40.cell 0 rfl rfl, hS40.cell 0 rfl rfl, trivial⟩ ⟨rfl, hS41⟩) a hF⟩)
    · rw [if_neg hc8] at h
      refine we_known (t := 46) (b := decide (e1.N > 3)) (v := false) (by kernel_rfl) (decide_eq_false hc8) ?_
      refine we_false (by kernel_rfl) ?_
      have hS42 := hS.bring 3 rfl
      have hS43 := hS42.bring 3 rfl
      have hS44 := hS43.bring 3 rfl
      have hS45 := hS44.bring 3 rfl
      obtain rfl := Option.some.inj h
      exact we_skip fun a hF => hQ _ _ _ (Outs.again ⟨hS45, hF.weaken ⟨by kernel_rfl, by kernel_rfl, by kernel_rfl, by kernel_rfl, by kernel_rfl, by kernel_rfl, by kernel_rfl, by kernel_rfl, trivial⟩⟩)
abbrev locks_Check.A2 (K : Nat) (w0 : World) (l0 : List SAct) (A0 : Option Addr) (c0 : Nat) (hR0 : RdL w0 A0 l0) (hL0 : l0.length ≤ c0) (b1 : Nat) (hc1 : ¬ ((l0.length : Int) > 200)) (m1 : List Int) (i1 : Nat) (hc2 : (i1 : Int) < (l0.length : Int)) (e1 : SAct) (hx2 : l0[i1]? = some e1) (b2 : Nat) (b3 : Nat) (hc3 : ¬ (e1.Do = 1)) (hc6 : e1.Do = 2) (Z1 : Option Addr) (cz1 : Nat) : Nat → Act → World → Prop := fun (s : Nat) a w => St w0 w [Own.blk b3 (.cells #[.int .i64 e1.Do, .int .i64 e1.N] 39 (0, 0)), Own.blk b2 (.cells #[.int .i64 (i1 : Int)] 3 (0, 0)), Own.blk b1 (.cells #[.int .i64 0, .int .i64 0] 27 (0, 0)), Own.of (.slice Z1 m1.length cz1) 3 m1] ∧ Frm 98 a [(0, .slice A0 l0.length c0), (2, .pointer (some ⟨b1, 0, none⟩)), (3, (.slice Z1 m1.length cz1)), (5, .pointer (some ⟨b3, 0, none⟩)), (6, .func (.func 62) #[] #[.pointer (some ⟨b2, 0, none⟩)]), (13, .slice A0 l0.length c0), (14, .int .i64 (l0.length : Int)), (15, .int .i64 (i1 : Int)), (49, (.slice Z1 m1.length cz1)), (50, .int .i64 (m1.length : Int)), (51, .int .i64 (s : Int))]
abbrev locks_Check.B2 (K : Nat) (w0 : World) (l0 : List SAct) (A0 : Option Addr) (c0 : Nat) (hR0 : RdL w0 A0 l0) (hL0 : l0.length ≤ c0) (b1 : Nat) (hc1 : ¬ ((l0.length : Int) > 200)) (m1 : List Int) (i1 : Nat) (hc2 : (i1 : Int) < (l0.length : Int)) (e1 : SAct) (hx2 : l0[i1]? = some e1) (b2 : Nat) (b3 : Nat) (hc3 : ¬ (e1.Do = 1)) (hc6 : e1.Do = 2) (Z1 : Option Addr) (cz1 : Nat) : (Unit ⊕ SFault) → Exit → Act → World → Prop := Exits 3 (fun (s : Unit) a w => St w0 w [Own.blk b3 (.cells #[.int .i64 e1.Do, .int .i64 e1.N] 39 (0, 0)), Own.blk b1 (.cells #[.int .i64 0, .int .i64 0] 27 (0, 0)), Own.of (.slice Z1 m1.length cz1) 3 m1] ∧ Frm 98 a [(0, .slice A0 l0.length c0), (2, .pointer (some ⟨b1, 0, none⟩)), (3, (.slice Z1 m1.length cz1)), (5, .pointer (some ⟨b3, 0, none⟩)), (13, .slice A0 l0.length c0), (14, .int .i64 (l0.length : Int)), (15, .int .i64 (i1 : Int))]) (Rets Tryd.prog Tryd.f18 (locks_Check.Post w0))
theorem locks_Check_r2 (K : Nat) (w0 : World) (l0 : List SAct) (A0 : Option Addr) (c0 : Nat) (hR0 : RdL w0 A0 l0) (hL0 : l0.length ≤ c0) (b1 : Nat) (hc1 : ¬ ((l0.length : Int) > 200)) (m1 : List Int) (i1 : Nat) (hc2 : (i1 : Int) < (l0.length : Int)) (e1 : SAct) (hx2 : l0[i1]? = some e1) (b2 : Nat) (b3 : Nat) (hc3 : ¬ (e1.Do = 1)) (hc6 : e1.Do = 2) (Z1 : Option Addr) (cz1 : Nat) (s : Nat) (o : Nat ⊕ (Unit ⊕ SFault)) (h : locks_Check.r2 m1 i1 e1 s = some o) (a : Act) (w : World) (hA : locks_Check.A2 K w0 l0 A0 c0 hR0 hL0 b1 hc1 m1 i1 hc2 e1 hx2 b2 b3 hc3 hc6 Z1 cz1 s a w) (Q : Exit → Act → World → Prop) (hQ : ∀ x a w, Outs (locks_Check.A2 K w0 l0 A0 c0 hR0 hL0 b1 hc1 m1 i1 hc2 e1 hx2 b2 b3 hc3 hc6 Z1 cz1) (locks_Check.B2 K w0 l0 A0 c0 hR0 hL0 b1 hc1 m1 i1 hc2 e1 hx2 b2 b3 hc3 hc6 Z1 cz1) o x a w → Q x a w) : (subF Tryd.f18 [1, 1, 1, 0, 1, 0, 0, 1, 1, 0, 0, 1, 1, 1, 0, 1, 1, 1, 0, 1, 0, 1, 0, 0]).wp Tryd.prog Q a w := by
  obtain ⟨i2, hs⟩ : ∃ z, z = s := ⟨s, rfl⟩
  subst hs
  obtain ⟨hS, hF⟩ := hA
  replace hS : St w0 w [Own.blk b3 (.cells #[.int .i64 e1.Do, .int .i64 e1.N] 39 (0, 0)), Own.blk b2 (.cells #[.int .i64 (i1 : Int)] 3 (0, 0)), Own.blk b1 (.cells #[.int .i64 0, .int .i64 0] 27 (0, 0)), Own.of (.slice Z1 m1.length cz1) 3 m1] := hS
  simp only [locks_Check.r2] at h
  refine (?_ : WE Tryd.prog 98 (subF Tryd.f18 [1, 1, 1, 0, 1, 0, 0, 1, 1, 0, 0, 1, 1, 1, 0, 1, 1, 1, 0, 1, 0, 1, 0, 0]) Q [(0, .slice A0 l0.length c0), (2, .pointer (some ⟨b1, 0, none⟩)), (3, (.slice Z1 m1.length cz1)), (5, .pointer (some ⟨b3, 0, none⟩)), (6, .func (.func 62) #[] #[.pointer (some ⟨b2, 0, none⟩)]), (13, .slice A0 l0.length c0), (14, .int .i64 (l0.length : Int)), (15, .int .i64 (i1 : Int)), (49, (.slice Z1 m1.length cz1)), (50, .int .i64 (m1.length : Int)), (51, .int .i64 (i2 : Int))] w) a hF
  clear hF a
  refine we_seq fun K25 hK25 => ?_
  refine we_region [(0, 0)] rfl ?_
  refine ge_batch [0] (ans := []) (vs := [(52, .bool (decide ((i2 : Int) < (m1.length : Int))))]) (l := []) (by kernel_rfl) trivial ?_
  refine ge_nil fun a hF => hK25 _ _ ?_ a hF
  refine we_seq fun K26 hK26 => ?_
  by_cases hc9 : (i2 : Int) < (m1.length : Int)
  · rw [if_pos hc9] at h
    refine we_known (t := 52) (b := decide ((i2 : Int) < (m1.length : Int))) (v := true) (by kernel_rfl) (decide_eq_true hc9) ?_
    refine we_true (by kernel_rfl) ?_
    refine we_skip fun a hF => hK26 _ _ ?_ a hF
    refine we_seq fun K27 hK27 => ?_
    refine we_block ?_
    refine we_seq fun K28 hK28 => ?_
    refine we_region [(0, 0), (1, 0), (2, 0)] rfl ?_
    rcases hx5 : m1[i2]? with _ | e2
    · rw [hx5] at h; cases h
    rw [hx5] at h
    simp only [] at h
    refine ge_index (d := 53) (ty := 0) (t := 24) (el := 3) (sz := 1) (m := m1.length) (c := cz1) (x := (.tmp 49)) (y := (.tmp 51)) (A := Z1) (k' := .i64) (j := (i2 : Int)) (jn := i2) (b0 := blkOf Z1) (o0 := offOf Z1) (by kernel_rfl) (by kernel_rfl) (by kernel_rfl) (by kernel_rfl) (by kernel_rfl) ((hS.rdAt 3 rfl).eqSome (pos_of_get hx5)) rfl (lt_of_get hx5) ?_
    refine ge_batch [1, 2] (ans := [.val (.int .i64 e2)]) (vs := [(8, .int .i64 e2), (54, .int .i64 e2)]) (l := [.loaded ⟨blkOf Z1, offOf Z1 + i2 * 1, none⟩ (.int .i64 e2)]) (by kernel_rfl) ⟨RdL.cell (j := 0) (hS.rdAt 3 rfl) hx5 rfl, trivial⟩ ?_
    refine ge_nil fun a hF => hK28 _ _ ?_ a hF
    refine we_seq fun K29 hK29 => ?_
    refine we_region [(0, 0), (1, 0), (2, 0), (3, 0)] rfl ?_
    refine ge_batch [0, 1, 2, 3] (ans := [.val (.int .i64 e1.N)]) (vs := [(58, .bool (e2 == e1.N)), (57, .int .i64 e1.N), (56, .pointer (some ⟨b3, 1, none⟩)), (55, .int .i64 e2)]) (l := [.loaded ⟨b3, 1, none⟩ (.int .i64 e1.N)]) (by kernel_rfl) ⟨hS.cell 0 rfl rfl, trivial⟩ ?_
    refine ge_nil fun a hF => hK29 _ _ ?_ a hF
    by_cases hc10 : e2 = e1.N
    · rw [if_pos hc10] at h
      refine we_known (t := 58) (b := (e2 == e1.N)) (v := true) (by kernel_rfl) (beq_iff_eq.2 hc10) ?_
      refine we_true (by kernel_rfl) ?_
      refine we_seq fun K30 hK30 => ?_
      refine we_region [(0, 0), (1, 1), (2, 2)] rfl ?_
      refine ge_batch [0] (ans := []) (vs := [(59, .func (.func 62) #[] #[.pointer (some ⟨b2, 0, none⟩)])]) (l := []) (by kernel_rfl) trivial ?_
      refine ge_call (d := some 60) (f := 62) (args := #[.int .i64 5, .pointer (some ⟨b2, 0, none⟩)]) (by kernel_rfl) (locks_Check_1_ok 5 b2 (i1 : Int) _ (hS.globOf 1 rfl) _ rfl) ?_
      rintro _ w16 ⟨rfl, hS51⟩
      refine ⟨_, rfl, hS51.below, ?_⟩
      have hS52 := hS.call hS51
      have hS53 := hS52.bring 2 rfl
      refine ge_set (b := b1) (j := 0) (cs := #[.int .i64 0, .int .i64 0]) (t := 27) (vs := [.int .i64 ((locks_Check_1.f 5 (i1 : Int)).Code), .int .i64 ((locks_Check_1.f 5 (i1 : Int)).At)]) hS53 (by kernel_rfl) rfl rfl fun w17 hS54 => ?_
      have hS55 := hS54.nc #[.int .i64 ((locks_Check_1.f 5 (i1 : Int)).Code), .int .i64 ((locks_Check_1.f 5 (i1 : Int)).At)] rfl
      refine ge_nil fun a hF => hK30 _ _ ?_ a hF
      have hS56 := hS55.takeN 0
      obtain rfl := Option.some.inj h
      exact we_ret fun a hF => hQ _ _ _ (Outs.out nofun (Exits.on ⟨rfl, (post_ret (rs := [.cell 2 27]) (ans := [.val (.int .i64 ((locks_Check_1.f 5 (i1 : Int)).Code)), .val (.int .i64 ((locks_Check_1.f 5 (i1 : Int)).At))]) (vs := [.agg #[.int .i64 ((locks_Check_1.f 5 (i1 : Int)).Code), .int .i64 ((locks_Check_1.f 5 (i1 : Int)).At)]]) (l := [.loaded ⟨b1, 0, none⟩ (.int .i64 ((locks_Check_1.f 5 (i1 : Int)).Code)), .loaded ⟨b1, 1, none⟩ (.int .i64 ((locks_Check_1.f 5 (i1 : Int)).At))]) rfl (by kernel_rfl) ⟨hS55.cell 0 rfl rfl, hS55.cell 0 rfl rfl, trivial⟩ ⟨rfl, hS56⟩) a hF⟩))
    · rw [if_neg hc10] at h
      refine we_known (t := 58) (b := (e2 == e1.N)) (v := false) (by kernel_rfl) (beq_eq_false_iff_ne.2 hc10) ?_
      refine we_false (by kernel_rfl) ?_
      refine we_skip fun a hF => hK27 _ _ ?_ a hF
      refine we_region [(0, 0), (1, 0)] rfl ?_
      refine ge_addn (d := 61) (ty := 3) (x := (.tmp 51)) (y := (.const (.int .i64 1))) (t := 3) (t2 := 3) (k := .i64) (m := i2) (by kernel_rfl) (by kernel_rfl) (by kernel_rfl) (by have h0 := hS.ofSmall 3 rfl; omega) ?_
      refine ge_batch [1] (ans := []) (vs := [(51, .int .i64 ((i2 + 1 : Nat) : Int))]) (l := []) (by kernel_rfl) trivial ?_
      have hS57 := hS.bring 3 rfl
      have hS58 := hS57.bring 3 rfl
      have hS59 := hS58.bring 3 rfl
      have hS60 := hS59.bring 3 rfl
      obtain rfl := Option.some.inj h
      exact ge_nil fun a hF => hQ _ _ _ (Outs.again ⟨hS60, hF.weaken ⟨by kernel_rfl, by kernel_rfl, by kernel_rfl, by kernel_rfl, by kernel_rfl, by kernel_rfl, by kernel_rfl, by kernel_rfl, by kernel_rfl, by kernel_rfl, by kernel_rfl, trivial⟩⟩)
  · rw [if_neg hc9] at h
    refine we_known (t := 52) (b := decide ((i2 : Int) < (m1.length : Int))) (v := false) (by kernel_rfl) (decide_eq_false hc9) ?_
    refine we_false (by kernel_rfl) ?_
    have hS61 := hS.bring 3 rfl
    have hS62 := hS61.bring 3 rfl
    have hS63 := hS62.bring 2 rfl
    have hS64 := hS63.takeN 3
    obtain rfl := Option.some.inj h
    exact we_exit fun a hF => hQ _ _ _ (Outs.out nofun (Exits.here ⟨hS64, hF.weaken ⟨by kernel_rfl, by kernel_rfl, by kernel_rfl, by kernel_rfl, by kernel_rfl, by kernel_rfl, by kernel_rfl, trivial⟩⟩))
abbrev locks_Check.A0 (K : Nat) (w0 : World) (l0 : List SAct) (A0 : Option Addr) (c0 : Nat) (hR0 : RdL w0 A0 l0) (hL0 : l0.length ≤ c0) (b1 : Nat) (hc1 : ¬ ((l0.length : Int) > 200)) : ((List Int) × Nat) → Act → World → Prop := fun (s : (List Int) × Nat) a w => ∃ (v1 : Value), St w0 w [Own.blk b1 (.cells #[.int .i64 0, .int .i64 0] 27 (0, 0)), Own.of v1 3 s.1] ∧ Frm 98 a [(0, .slice A0 l0.length c0), (2, .pointer (some ⟨b1, 0, none⟩)), (3, v1), (13, .slice A0 l0.length c0), (14, .int .i64 (l0.length : Int)), (15, .int .i64 (s.2 : Int))]
abbrev locks_Check.B0 (K : Nat) (w0 : World) (l0 : List SAct) (A0 : Option Addr) (c0 : Nat) (hR0 : RdL w0 A0 l0) (hL0 : l0.length ≤ c0) (b1 : Nat) (hc1 : ¬ ((l0.length : Int) > 200)) : ((List Int) ⊕ SFault) → Exit → Act → World → Prop := Exits 0 (fun (s : (List Int)) a w => ∃ (v2 : Value), St w0 w [Own.blk b1 (.cells #[.int .i64 0, .int .i64 0] 27 (0, 0)), Own.of v2 3 s] ∧ Frm 98 a [(0, .slice A0 l0.length c0), (2, .pointer (some ⟨b1, 0, none⟩)), (3, v2)]) (Rets Tryd.prog Tryd.f18 (locks_Check.Post w0))
theorem locks_Check_r0 (K : Nat) (w0 : World) (l0 : List SAct) (A0 : Option Addr) (c0 : Nat) (hR0 : RdL w0 A0 l0) (hL0 : l0.length ≤ c0) (b1 : Nat) (hc1 : ¬ ((l0.length : Int) > 200)) (s : (List Int) × Nat) (o : ((List Int) × Nat) ⊕ ((List Int) ⊕ SFault)) (h : locks_Check.r0 K l0 s = some o) (a : Act) (w : World) (hA : locks_Check.A0 K w0 l0 A0 c0 hR0 hL0 b1 hc1 s a w) (Q : Exit → Act → World → Prop) (hQ : ∀ x a w, Outs (locks_Check.A0 K w0 l0 A0 c0 hR0 hL0 b1 hc1) (locks_Check.B0 K w0 l0 A0 c0 hR0 hL0 b1 hc1) o x a w → Q x a w) : (subF Tryd.f18 [1, 1, 1, 0, 1, 0, 0]).wp Tryd.prog Q a w := by
  obtain ⟨m1, i1⟩ := s
  obtain ⟨v1, hS, hF⟩ := hA
  replace hS : St w0 w [Own.blk b1 (.cells #[.int .i64 0, .int .i64 0] 27 (0, 0)), Own.of v1 3 m1] := hS
  simp only [locks_Check.r0] at h
  refine (?_ : WE Tryd.prog 98 (subF Tryd.f18 [1, 1, 1, 0, 1, 0, 0]) Q [(0, .slice A0 l0.length c0), (2, .pointer (some ⟨b1, 0, none⟩)), (3, v1), (13, .slice A0 l0.length c0), (14, .int .i64 (l0.length : Int)), (15, .int .i64 (i1 : Int))] w) a hF
  clear hF a
  refine we_seq fun K8 hK8 => ?_
  refine we_region [(0, 0)] rfl ?_
  refine ge_batch [0] (ans := []) (vs := [(16, .bool (decide ((i1 : Int) < (l0.length : Int))))]) (l := []) (by kernel_rfl) trivial ?_
  refine ge_nil fun a hF => hK8 _ _ ?_ a hF
  refine we_seq fun K9 hK9 => ?_
  by_cases hc2 : (i1 : Int) < (l0.length : Int)
  · rw [if_pos hc2] at h
    refine we_known (t := 16) (b := decide ((i1 : Int) < (l0.length : Int))) (v := true) (by kernel_rfl) (decide_eq_true hc2) ?_
    refine we_true (by kernel_rfl) ?_
    refine we_skip fun a hF => hK9 _ _ ?_ a hF
    refine we_seq fun K10 hK10 => ?_
    refine we_block ?_
    refine we_seq fun K11 hK11 => ?_
    refine we_region [(0, 0), (1, 0), (2, 0), (3, 1), (4, 1), (5, 2), (6, 2)] rfl ?_
    refine ge_batch [0] (ans := []) (vs := [(17, .int .i64 (i1 : Int))]) (l := []) (by kernel_rfl) trivial ?_
    rcases hx2 : l0[i1]? with _ | e1
    · rw [hx2] at h; cases h
    rw [hx2] at h
    simp only [] at h
    refine ge_index (d := 18) (ty := 0) (t := 22) (el := 39) (sz := 2) (m := l0.length) (c := c0) (x := (.tmp 13)) (y := (.tmp 15)) (A := A0) (k' := .i64) (j := (i1 : Int)) (jn := i1) (b0 := blkOf A0) (o0 := offOf A0) (by kernel_rfl) (by kernel_rfl) (by kernel_rfl) (by kernel_rfl) (by kernel_rfl) ((hS.rd hR0).eqSome (pos_of_get hx2)) rfl (lt_of_get hx2) ?_
    refine ge_batch [2] (ans := [.val (.int .i64 e1.Do), .val (.int .i64 e1.N)]) (vs := [(19, .agg #[.int .i64 e1.Do, .int .i64 e1.N])]) (l := [.loaded ⟨blkOf A0, offOf A0 + i1 * 2, none⟩ (.int .i64 e1.Do), .loaded ⟨blkOf A0, offOf A0 + i1 * 2 + 1, none⟩ (.int .i64 e1.N)]) (by kernel_rfl) ⟨RdL.cell (j := 0) (hS.rd hR0) hx2 rfl, RdL.cell (j := 1) (hS.rd hR0) hx2 rfl, trivial⟩ ?_
    refine ge_new (d := some 4) (o := .cells #[.int .i64 0] 3) (v := fun b => .pointer (some ⟨b, 0, none⟩)) hS (fun b => by kernel_rfl) fun b2 w3 hx3 hS7 => ?_
    refine ge_new (d := some 5) (o := .cells #[.int .i64 0, .int .i64 0] 39) (v := fun b => .pointer (some ⟨b, 0, none⟩)) hS7 (fun b => by kernel_rfl) fun b3 w4 hx4 hS8 => ?_
    have hS9 := hS8.bring 1 rfl
    refine ge_set (b := b2) (j := 0) (cs := #[.int .i64 0]) (t := 3) (vs := [.int .i64 (i1 : Int)]) hS9 (by kernel_rfl) rfl rfl fun w5 hS10 => ?_
    have hS11 := hS10.nc #[.int .i64 (i1 : Int)] rfl
    have hS12 := hS11.bring 1 rfl
    refine ge_set (b := b3) (j := 0) (cs := #[.int .i64 0, .int .i64 0]) (t := 39) (vs := [.int .i64 e1.Do, .int .i64 e1.N]) hS12 (by kernel_rfl) rfl rfl fun w6 hS13 => ?_
    have hS14 := hS13.nc #[.int .i64 e1.Do, .int .i64 e1.N] rfl
    refine ge_nil fun a hF => hK11 _ _ ?_ a hF
    refine we_seq fun K12 hK12 => ?_
    refine we_region [(0, 0), (1, 0)] rfl ?_
    refine ge_batch [0, 1] (ans := []) (vs := [(6, .func (.func 62) #[] #[.pointer (some ⟨b2, 0, none⟩)]), (20, .func (.func 62) #[] #[.pointer (some ⟨b2, 0, none⟩)])]) (l := []) (by kernel_rfl) trivial ?_
    refine ge_nil fun a hF => hK12 _ _ ?_ a hF
    refine we_seq fun K13 hK13 => ?_
    refine we_region [(0, 0), (1, 0)] rfl ?_
    refine ge_batch [0, 1] (ans := [.val (.int .i64 e1.Do)]) (vs := [(22, .int .i64 e1.Do), (21, .pointer (some ⟨b3, 0, none⟩))]) (l := [.loaded ⟨b3, 0, none⟩ (.int .i64 e1.Do)]) (by kernel_rfl) ⟨hS14.cell 0 rfl rfl, trivial⟩ ?_
    refine ge_nil fun a hF => hK13 _ _ ?_ a hF
    refine we_block ?_
    refine we_seq fun K14 hK14 => ?_
    refine we_region [(0, 0), (1, 0)] rfl ?_
    refine ge_batch [0, 1] (ans := []) (vs := [(25, .bool (e1.Do == 1)), (26, .bool (e1.Do == 1))]) (l := []) (by kernel_rfl) trivial ?_
    refine ge_nil fun a hF => hK14 _ _ ?_ a hF
    by_cases hc3 : e1.Do = 1
    · rw [if_pos hc3] at h
      refine we_known (t := 25) (b := (e1.Do == 1)) (v := true) (by kernel_rfl) (beq_iff_eq.2 hc3) ?_
      refine we_true (by kernel_rfl) ?_
      refine we_seq fun K15 hK15 => ?_
      refine we_region [(0, 0), (1, 0), (2, 0), (3, 0), (4, 0), (5, 0), (6, 0), (7, 0)] rfl ?_
      refine ge_batch [0, 1, 2, 3] (ans := [.val (.int .i64 e1.N)]) (vs := [(30, .bool (decide (e1.N < 1))), (29, .bool (decide (e1.N < 1))), (28, .int .i64 e1.N), (27, .pointer (some ⟨b3, 1, none⟩))]) (l := [.loaded ⟨b3, 1, none⟩ (.int .i64 e1.N)]) (by kernel_rfl) ⟨hS14.cell 0 rfl rfl, trivial⟩ ?_
      by_cases hc4 : e1.N < 1
      · rw [if_pos hc4] at h
        refine ge_known (t := 30) (b := decide (e1.N < 1)) (c := true) (by kernel_rfl) (decide_eq_true hc4) ?_
        refine ge_batch [4, 5, 6, 7] (ans := []) (vs := [(34, .bool true), (33, undef), (32, undef), (31, undef)]) (l := []) (by kernel_rfl) trivial ?_
        refine ge_nil fun a hF => hK15 _ _ ?_ a hF
        refine we_true (by kernel_rfl) ?_
        refine we_seq fun K16 hK16 => ?_
        refine we_region [(0, 0), (1, 1), (2, 2)] rfl ?_
        refine ge_batch [0] (ans := []) (vs := [(35, .func (.func 62) #[] #[.pointer (some ⟨b2, 0, none⟩)])]) (l := []) (by kernel_rfl) trivial ?_
        refine ge_call (d := some 36) (f := 62) (args := #[.int .i64 3, .pointer (some ⟨b2, 0, none⟩)]) (by kernel_rfl) (locks_Check_1_ok 3 b2 (i1 : Int) _ (hS14.globOf 1 rfl) _ rfl) ?_
        rintro _ w7 ⟨rfl, hS15⟩
        refine ⟨_, rfl, hS15.below, ?_⟩
        have hS16 := hS14.call hS15
        have hS17 := hS16.bring 2 rfl
        refine ge_set (b := b1) (j := 0) (cs := #[.int .i64 0, .int .i64 0]) (t := 27) (vs := [.int .i64 ((locks_Check_1.f 3 (i1 : Int)).Code), .int .i64 ((locks_Check_1.f 3 (i1 : Int)).At)]) hS17 (by kernel_rfl) rfl rfl fun w8 hS18 => ?_
        have hS19 := hS18.nc #[.int .i64 ((locks_Check_1.f 3 (i1 : Int)).Code), .int .i64 ((locks_Check_1.f 3 (i1 : Int)).At)] rfl
        refine ge_nil fun a hF => hK16 _ _ ?_ a hF
        have hS20 := hS19.takeN 0
        obtain rfl := Option.some.inj h
        exact we_ret fun a hF => hQ _ _ _ (Outs.out nofun (Exits.on ⟨rfl, (post_ret (rs := [.cell 2 27]) (ans := [.val (.int .i64 ((locks_Check_1.f 3 (i1 : Int)).Code)), .val (.int .i64 ((locks_Check_1.f 3 (i1 : Int)).At))]) (vs := [.agg #[.int .i64 ((locks_Check_1.f 3 (i1 : Int)).Code), .int .i64 ((locks_Check_1.f 3 (i1 : Int)).At)]]) (l := [.loaded ⟨b1, 0, none⟩ (.int .i64 ((locks_Check_1.f 3 (i1 : Int)).Code)), .loaded ⟨b1, 1, none⟩ (.int .i64 ((locks_Check_1.f 3 (i1 : Int)).At))]) rfl (by kernel_rfl) ⟨hS19.cell 0 rfl rfl, hS19.cell 0 rfl rfl, trivial⟩ ⟨rfl, hS20⟩) a hF⟩))
      · rw [if_neg hc4] at h
        refine ge_known (t := 30) (b := decide (e1.N < 1)) (c := false) (by kernel_rfl) (decide_eq_false hc4) ?_
        refine ge_batch [4, 5, 6, 7] (ans := [.val (.int .i64 e1.N)]) (vs := [(34, .bool (decide (e1.N > 1000))), (33, .bool (decide (e1.N > 1000))), (32, .int .i64 e1.N), (31, .pointer (some ⟨b3, 1, none⟩))]) (l := [.loaded ⟨b3, 1, none⟩ (.int .i64 e1.N)]) (by kernel_rfl) ⟨hS14.cell 0 rfl rfl, trivial⟩ ?_
        refine ge_nil fun a hF => hK15 _ _ ?_ a hF
        by_cases hc5 : e1.N > 1000
        · rw [if_pos hc5] at h
          refine we_known (t := 34) (b := decide (e1.N > 1000)) (v := true) (by kernel_rfl) (decide_eq_true hc5) ?_
          refine we_true (by kernel_rfl) ?_
          refine we_seq fun K17 hK17 => ?_
          refine we_region [(0, 0), (1, 1), (2, 2)] rfl ?_
          refine ge_batch [0] (ans := []) (vs := [(35, .func (.func 62) #[] #[.pointer (some ⟨b2, 0, none⟩)])]) (l := []) (by kernel_rfl) trivial ?_
          refine ge_call (d := some 36) (f := 62) (args := #[.int .i64 3, .pointer (some ⟨b2, 0, none⟩)]) (by kernel_rfl) (locks_Check_1_ok 3 b2 (i1 : Int) _ (hS14.globOf 1 rfl) _ rfl) ?_
          rintro _ w9 ⟨rfl, hS21⟩
          refine ⟨_, rfl, hS21.below, ?_⟩
          have hS22 := hS14.call hS21
          have hS23 := hS22.bring 2 rfl
          refine ge_set (b := b1) (j := 0) (cs := #[.int .i64 0, .int .i64 0]) (t := 27) (vs := [.int .i64 ((locks_Check_1.f 3 (i1 : Int)).Code), .int .i64 ((locks_Check_1.f 3 (i1 : Int)).At)]) hS23 (by kernel_rfl) rfl rfl fun w10 hS24 => ?_
          have hS25 := hS24.nc #[.int .i64 ((locks_Check_1.f 3 (i1 : Int)).Code), .int .i64 ((locks_Check_1.f 3 (i1 : Int)).At)] rfl
          refine ge_nil fun a hF => hK17 _ _ ?_ a hF
          have hS26 := hS25.takeN 0
          obtain rfl := Option.some.inj h
          exact we_ret fun a hF => hQ _ _ _ (Outs.out nofun (Exits.on ⟨rfl, (post_ret (rs := [.cell 2 27]) (ans := [.val (.int .i64 ((locks_Check_1.f 3 (i1 : Int)).Code)), .val (.int .i64 ((locks_Check_1.f 3 (i1 : Int)).At))]) (vs := [.agg #[.int .i64 ((locks_Check_1.f 3 (i1 : Int)).Code), .int .i64 ((locks_Check_1.f 3 (i1 : Int)).At)]]) (l := [.loaded ⟨b1, 0, none⟩ (.int .i64 ((locks_Check_1.f 3 (i1 : Int)).Code)), .loaded ⟨b1, 1, none⟩ (.int .i64 ((locks_Check_1.f 3 (i1 : Int)).At))]) rfl (by kernel_rfl) ⟨hS25.cell 0 rfl rfl, hS25.cell 0 rfl rfl, trivial⟩ ⟨rfl, hS26⟩) a hF⟩))
        · rw [if_neg hc5] at h
          refine we_known (t := 34) (b := decide (e1.N > 1000)) (v := false) (by kernel_rfl) (decide_eq_false hc5) ?_
          refine we_false (by kernel_rfl) ?_
          refine we_skip fun a hF => hK10 _ _ ?_ a hF
          refine we_region [(0, 0), (1, 0)] rfl ?_
          refine ge_addn (d := 90) (ty := 3) (x := (.tmp 15)) (y := (.const (.int .i64 1))) (t := 3) (t2 := 3) (k := .i64) (m := i1) (by kernel_rfl) (by kernel_rfl) (by kernel_rfl) (by have h0 := hR0.small; omega) ?_
          refine ge_batch [1] (ans := []) (vs := [(15, .int .i64 ((i1 + 1 : Nat) : Int))]) (l := []) (by kernel_rfl) trivial ?_
          have hS27 := hS14.bring 3 rfl
          have hS28 := hS27.bring 3 rfl
          have hS29 := hS28.takeN 2
          obtain rfl := Option.some.inj h
          exact ge_nil fun a hF => hQ _ _ _ (Outs.again ⟨v1, hS29, hF.weaken ⟨by kernel_rfl, by kernel_rfl, by kernel_rfl, by kernel_rfl, by kernel_rfl, by kernel_rfl, trivial⟩⟩)
    · rw [if_neg hc3] at h
      refine we_known (t := 25) (b := (e1.Do == 1)) (v := false) (by kernel_rfl) (beq_eq_false_iff_ne.2 hc3) ?_
      refine we_false (by kernel_rfl) ?_
      refine we_seq fun K18 hK18 => ?_
      refine we_region [(0, 0), (1, 0)] rfl ?_
      refine ge_batch [0, 1] (ans := []) (vs := [(37, .bool (e1.Do == 2)), (38, .bool (e1.Do == 2))]) (l := []) (by kernel_rfl) trivial ?_
      refine ge_nil fun a hF => hK18 _ _ ?_ a hF
      by_cases hc6 : e1.Do = 2
      · rw [if_pos hc6] at h
        refine we_known (t := 37) (b := (e1.Do == 2)) (v := true) (by kernel_rfl) (beq_iff_eq.2 hc6) ?_
        refine we_true (by kernel_rfl) ?_
        refine we_seq fun K19 hK19 => ?_
        obtain ⟨Z1, cz1, rfl⟩ := hS14.open 3 rfl
        rcases hq5 : locks_Check.p1 i1 e1 with _ | (_ | rr2)
        · rw [hq5] at h; cases h
        · rw [hq5] at h
          simp only [] at h
          refine we_keep (e' := [(0, .slice A0 l0.length c0), (2, .pointer (some ⟨b1, 0, none⟩)), (3, (.slice Z1 m1.length cz1)), (4, .pointer (some ⟨b2, 0, none⟩)), (5, .pointer (some ⟨b3, 0, none⟩)), (6, .func (.func 62) #[] #[.pointer (some ⟨b2, 0, none⟩)]), (13, .slice A0 l0.length c0), (14, .int .i64 (l0.length : Int)), (15, .int .i64 (i1 : Int)), (16, .bool true), (17, .int .i64 (i1 : Int)), (18, .pointer (some ⟨blkOf A0, offOf A0 + i1 * 2, none⟩)), (19, .agg #[.int .i64 e1.Do, .int .i64 e1.N]), (20, .func (.func 62) #[] #[.pointer (some ⟨b2, 0, none⟩)]), (21, .pointer (some ⟨b3, 0, none⟩)), (22, .int .i64 e1.Do), (25, .bool false), (26, .bool (e1.Do == 1)), (37, .bool true), (38, .bool (e1.Do == 2))]) ⟨by kernel_rfl, by kernel_rfl, by kernel_rfl, by kernel_rfl, by kernel_rfl, by kernel_rfl, by kernel_rfl, by kernel_rfl, by kernel_rfl, by kernel_rfl, by kernel_rfl, by kernel_rfl, by kernel_rfl, by kernel_rfl, by kernel_rfl, by kernel_rfl, by kernel_rfl, by kernel_rfl, by kernel_rfl, by kernel_rfl, trivial⟩ (locks_Check_p1 K w0 l0 A0 c0 hR0 hL0 b1 hc1 m1 i1 hc2 e1 hx2 b2 b3 hc3 hc6 Z1 cz1 _ hq5 _ hS14 _ ?_)
          rintro _ a w15 ⟨rfl, hS46, hF⟩
          replace hS46 : St w0 w15 [Own.blk b3 (.cells #[.int .i64 e1.Do, .int .i64 e1.N] 39 (0, 0)), Own.blk b2 (.cells #[.int .i64 (i1 : Int)] 3 (0, 0)), Own.blk b1 (.cells #[.int .i64 0, .int .i64 0] 27 (0, 0)), Own.of (.slice Z1 m1.length cz1) 3 m1] := hS46
          refine hK19 [(0, .slice A0 l0.length c0), (2, .pointer (some ⟨b1, 0, none⟩)), (3, (.slice Z1 m1.length cz1)), (5, .pointer (some ⟨b3, 0, none⟩)), (6, .func (.func 62) #[] #[.pointer (some ⟨b2, 0, none⟩)]), (13, .slice A0 l0.length c0), (14, .int .i64 (l0.length : Int)), (15, .int .i64 (i1 : Int))] w15 ?_ a hF
          refine we_seq fun K23 hK23 => ?_
          refine we_seq fun K24 hK24 => ?_
          refine we_region [(0, 0), (1, 0), (2, 0)] rfl ?_
          refine ge_batch [0, 1, 2] (ans := []) (vs := [(51, .int .i64 0), (50, .int .i64 (m1.length : Int)), (49, (.slice Z1 m1.length cz1))]) (l := []) (by kernel_rfl) trivial ?_
          refine ge_nil fun a hF => hK24 _ _ ?_ a hF
          refine we_block ?_
          have hS47 := hS46.bring 3 rfl
          have hS48 := hS47.bring 3 rfl
          have hS49 := hS48.bring 3 rfl
          have hS50 := hS49.bring 3 rfl
          rcases hq7 : iter (locks_Check.r2 m1 i1 e1) K 0 with _ | (_ | rr1)
          · rw [hq7] at h; cases h
          · rw [hq7] at h
            simp only [] at h
            refine we_iter (A := locks_Check.A2 K w0 l0 A0 c0 hR0 hL0 b1 hc1 m1 i1 hc2 e1 hx2 b2 b3 hc3 hc6 Z1 cz1) (B := locks_Check.B2 K w0 l0 A0 c0 hR0 hL0 b1 hc1 m1 i1 hc2 e1 hx2 b2 b3 hc3 hc6 Z1 cz1) hq7 (fun a hF => ⟨hS50, hF.weaken ⟨by kernel_rfl, by kernel_rfl, by kernel_rfl, by kernel_rfl, by kernel_rfl, by kernel_rfl, by kernel_rfl, by kernel_rfl, by kernel_rfl, by kernel_rfl, by kernel_rfl, trivial⟩⟩) (fun s o hf a w hA Q hQ => locks_Check_r2 K w0 l0 A0 c0 hR0 hL0 b1 hc1 m1 i1 hc2 e1 hx2 b2 b3 hc3 hc6 Z1 cz1 s o hf a w hA Q hQ) ?_
            rintro _ a w18 _ ⟨rfl, hS65, hF⟩
            replace hS65 : St w0 w18 [Own.blk b3 (.cells #[.int .i64 e1.Do, .int .i64 e1.N] 39 (0, 0)), Own.blk b1 (.cells #[.int .i64 0, .int .i64 0] 27 (0, 0)), Own.of (.slice Z1 m1.length cz1) 3 m1] := hS65
            refine hK23 [(0, .slice A0 l0.length c0), (2, .pointer (some ⟨b1, 0, none⟩)), (3, (.slice Z1 m1.length cz1)), (5, .pointer (some ⟨b3, 0, none⟩)), (13, .slice A0 l0.length c0), (14, .int .i64 (l0.length : Int)), (15, .int .i64 (i1 : Int))] w18 ?_ a hF
            refine we_region [(0, 0), (1, 0), (2, 0), (3, 1), (4, 2), (5, 0)] rfl ?_
            refine ge_batch [0, 1, 2] (ans := [.val (.int .i64 e1.N)]) (vs := [(64, .int .i64 e1.N), (63, .pointer (some ⟨b3, 1, none⟩)), (62, (.slice Z1 m1.length cz1))]) (l := [.loaded ⟨b3, 1, none⟩ (.int .i64 e1.N)]) (by kernel_rfl) ⟨hS65.cell 0 rfl rfl, trivial⟩ ?_
            refine ge_new (d := some 65) (o := .cells #[.int .i64 e1.N] 3) (v := fun b => .slice (some ⟨b, 0, none⟩) 1 1) hS65 (fun b => by kernel_rfl) fun b4 w19 hx6 hS66 => ?_
            have hS67 := hS66.bring 3 rfl
            by_cases hc11 : m1.length < 17592186044416
            · rw [if_pos hc11] at h
              refine ge_append (α := Int) (m := 0) (d := 66) (t := 24) (el := 3) (bytes := 8) (c1 := 1) (b1 := b4) (x := (.tmp 62)) (y := (.tmp 65)) (ty := 24) (v := (.slice Z1 m1.length cz1)) (z := .int .i64 0) (l := m1) (u := e1.N) (by kernel_rfl) (by kernel_rfl) (by kernel_rfl) (by kernel_rfl) (by kernel_rfl) rfl hS67 rfl (by omega) fun v3 w20 hS68 => ?_
              refine ge_batch [5] (ans := []) (vs := [(3, v3)]) (l := []) (by kernel_rfl) trivial ?_
              refine ge_nil fun a hF => hK10 _ _ ?_ a hF
              refine we_region [(0, 0), (1, 0)] rfl ?_
              refine ge_addn (d := 90) (ty := 3) (x := (.tmp 15)) (y := (.const (.int .i64 1))) (t := 3) (t2 := 3) (k := .i64) (m := i1) (by kernel_rfl) (by kernel_rfl) (by kernel_rfl) (by have h0 := hR0.small; omega) ?_
              refine ge_batch [1] (ans := []) (vs := [(15, .int .i64 ((i1 + 1 : Nat) : Int))]) (l := []) (by kernel_rfl) trivial ?_
              have hS69 := hS68.bring 2 rfl
              have hS70 := hS69.takeN 2
              obtain rfl := Option.some.inj h
              exact ge_nil fun a hF => hQ _ _ _ (Outs.again ⟨v3, hS70, hF.weaken ⟨by kernel_rfl, by kernel_rfl, by kernel_rfl, by kernel_rfl, by kernel_rfl, by kernel_rfl, trivial⟩⟩)
            · rw [if_neg hc11] at h
              cases h
          · rw [hq7] at h
            simp only [] at h
            refine we_iter (A := locks_Check.A2 K w0 l0 A0 c0 hR0 hL0 b1 hc1 m1 i1 hc2 e1 hx2 b2 b3 hc3 hc6 Z1 cz1) (B := locks_Check.B2 K w0 l0 A0 c0 hR0 hL0 b1 hc1 m1 i1 hc2 e1 hx2 b2 b3 hc3 hc6 Z1 cz1) hq7 (fun a hF => ⟨hS50, hF.weaken ⟨by kernel_rfl, by kernel_rfl, by kernel_rfl, by kernel_rfl, by kernel_rfl, by kernel_rfl, by kernel_rfl, by kernel_rfl, by kernel_rfl, by kernel_rfl, by kernel_rfl, trivial⟩⟩) (fun s o hf a w hA Q hQ => locks_Check_r2 K w0 l0 A0 c0 hR0 hL0 b1 hc1 m1 i1 hc2 e1 hx2 b2 b3 hc3 hc6 Z1 cz1 s o hf a w hA Q hQ) ?_
            rintro _ a w1 _ ⟨rfl, hb⟩
            obtain rfl := Option.some.inj h
            exact hQ _ _ _ (Outs.out nofun (Exits.on ⟨rfl, hb⟩))
        · rw [hq5] at h
          simp only [] at h
          refine we_keep (e' := [(0, .slice A0 l0.length c0), (2, .pointer (some ⟨b1, 0, none⟩)), (3, (.slice Z1 m1.length cz1)), (4, .pointer (some ⟨b2, 0, none⟩)), (5, .pointer (some ⟨b3, 0, none⟩)), (6, .func (.func 62) #[] #[.pointer (some ⟨b2, 0, none⟩)]), (13, .slice A0 l0.length c0), (14, .int .i64 (l0.length : Int)), (15, .int .i64 (i1 : Int)), (16, .bool true), (17, .int .i64 (i1 : Int)), (18, .pointer (some ⟨blkOf A0, offOf A0 + i1 * 2, none⟩)), (19, .agg #[.int .i64 e1.Do, .int .i64 e1.N]), (20, .func (.func 62) #[] #[.pointer (some ⟨b2, 0, none⟩)]), (21, .pointer (some ⟨b3, 0, none⟩)), (22, .int .i64 e1.Do), (25, .bool false), (26, .bool (e1.Do == 1)), (37, .bool true), (38, .bool (e1.Do == 2))]) ⟨by kernel_rfl, by kernel_rfl, by kernel_rfl, by kernel_rfl, by kernel_rfl, by kernel_rfl, by kernel_rfl, by kernel_rfl, by kernel_rfl, by kernel_rfl, by kernel_rfl, by kernel_rfl, by kernel_rfl, by kernel_rfl, by kernel_rfl, by kernel_rfl, by kernel_rfl, by kernel_rfl, by kernel_rfl, by kernel_rfl, trivial⟩ (locks_Check_p1 K w0 l0 A0 c0 hR0 hL0 b1 hc1 m1 i1 hc2 e1 hx2 b2 b3 hc3 hc6 Z1 cz1 _ hq5 _ hS14 _ ?_)
          rintro _ a w1 ⟨_, rfl, hb⟩
          obtain rfl := Option.some.inj h
          exact hQ _ _ _ (Outs.out nofun (Exits.on ⟨rfl, hb⟩))
      · rw [if_neg hc6] at h
        refine we_known (t := 37) (b := (e1.Do == 2)) (v := false) (by kernel_rfl) (beq_eq_false_iff_ne.2 hc6) ?_
        refine we_false (by kernel_rfl) ?_
        refine we_seq fun K31 hK31 => ?_
        refine we_region [(0, 0), (1, 0)] rfl ?_
        refine ge_batch [0, 1] (ans := []) (vs := [(67, .bool (e1.Do == 3)), (68, .bool (e1.Do == 3))]) (l := []) (by kernel_rfl) trivial ?_
        refine ge_nil fun a hF => hK31 _ _ ?_ a hF
        by_cases hc12 : e1.Do = 3
        · rw [if_pos hc12] at h
          refine we_known (t := 67) (b := (e1.Do == 3)) (v := true) (by kernel_rfl) (beq_iff_eq.2 hc12) ?_
          refine we_true (by kernel_rfl) ?_
          refine we_seq fun K32 hK32 => ?_
          refine we_seq fun K33 hK33 => ?_
          refine we_draws (by kernel_rfl) [(0, 0), (1, 0), (2, 0), (3, 0), (4, 0), (5, 0), (6, 0), (7, 0), (8, 0), (9, 0), (10, 0), (11, 0), (12, 0), (13, 0)] (by kernel_rfl) ?_
          have hS71 := hS14.drew
          refine ge_batch [0] (ans := []) (vs := [(69, v1)]) (l := []) (by kernel_rfl) trivial ?_
          obtain ⟨Z2, cz2, rfl⟩ := hS71.open 3 rfl
          refine ge_batch [1, 2, 3] (ans := []) (vs := [(72, .bool ((m1.length : Int) == 0)), (71, .bool ((m1.length : Int) == 0)), (70, .int .i64 (m1.length : Int))]) (l := []) (by kernel_rfl) trivial ?_
          by_cases hc13 : (m1.length : Int) = 0
          · rw [if_pos hc13] at h
            refine ge_known (t := 72) (b := ((m1.length : Int) == 0)) (c := true) (by kernel_rfl) (beq_iff_eq.2 hc13) ?_
            refine ge_batch [4, 5, 6, 7, 8, 9, 10, 11, 12, 13] (ans := []) (vs := [(82, .bool true), (81, undef), (80, undef), (79, undef), (78, undef), (77, undef), (76, undef), (75, undef), (74, undef), (73, undef)]) (l := []) (by kernel_rfl) trivial ?_
            refine ge_nil fun a hF => hK33 _ _ ?_ a hF
            refine we_true (by kernel_rfl) ?_
            refine we_seq fun K34 hK34 => ?_
            refine we_region [(0, 0), (1, 1), (2, 2)] rfl ?_
            refine ge_batch [0] (ans := []) (vs := [(83, .func (.func 62) #[] #[.pointer (some ⟨b2, 0, none⟩)])]) (l := []) (by kernel_rfl) trivial ?_
            refine ge_call (d := some 84) (f := 62) (args := #[.int .i64 10, .pointer (some ⟨b2, 0, none⟩)]) (by kernel_rfl) (locks_Check_1_ok 10 b2 (i1 : Int) _ (hS71.globOf 1 rfl) _ rfl) ?_
            rintro _ w21 ⟨rfl, hS72⟩
            refine ⟨_, rfl, hS72.below, ?_⟩
            have hS73 := hS71.call hS72
            have hS74 := hS73.bring 2 rfl
            refine ge_set (b := b1) (j := 0) (cs := #[.int .i64 0, .int .i64 0]) (t := 27) (vs := [.int .i64 ((locks_Check_1.f 10 (i1 : Int)).Code), .int .i64 ((locks_Check_1.f 10 (i1 : Int)).At)]) hS74 (by kernel_rfl) rfl rfl fun w22 hS75 => ?_
            have hS76 := hS75.nc #[.int .i64 ((locks_Check_1.f 10 (i1 : Int)).Code), .int .i64 ((locks_Check_1.f 10 (i1 : Int)).At)] rfl
            refine ge_nil fun a hF => hK34 _ _ ?_ a hF
            have hS77 := hS76.takeN 0
            obtain rfl := Option.some.inj h
            exact we_ret fun a hF => hQ _ _ _ (Outs.out nofun (Exits.on ⟨rfl, (post_ret (rs := [.cell 2 27]) (ans := [.val (.int .i64 ((locks_Check_1.f 10 (i1 : Int)).Code)), .val (.int .i64 ((locks_Check_1.f 10 (i1 : Int)).At))]) (vs := [.agg #[.int .i64 ((locks_Check_1.f 10 (i1 : Int)).Code), .int .i64 ((locks_Check_1.f 10 (i1 : Int)).At)]]) (l := [.loaded ⟨b1, 0, none⟩ (.int .i64 ((locks_Check_1.f 10 (i1 : Int)).Code)), .loaded ⟨b1, 1, none⟩ (.int .i64 ((locks_Check_1.f 10 (i1 : Int)).At))]) rfl (by kernel_rfl) ⟨hS76.cell 0 rfl rfl, hS76.cell 0 rfl rfl, trivial⟩ ⟨rfl, hS77⟩) a hF⟩))
          · rw [if_neg hc13] at h
            refine ge_known (t := 72) (b := ((m1.length : Int) == 0)) (c := false) (by kernel_rfl) (beq_eq_false_iff_ne.2 hc13) ?_
            refine ge_batch [4, 5, 6, 7] (ans := []) (vs := [(76, .int .i64 (IntKind.i64.wrap ((m1.length : Int) - 1))), (75, .int .i64 (m1.length : Int)), (74, (.slice Z2 m1.length cz2)), (73, (.slice Z2 m1.length cz2))]) (l := []) (by kernel_rfl) trivial ?_
            by_cases hc14 : 0 ≤ (IntKind.i64.wrap ((m1.length : Int) - 1))
            · rw [if_pos hc14] at h
              rcases hx7 : m1[(IntKind.i64.wrap ((m1.length : Int) - 1)).toNat]? with _ | e3
              · rw [hx7] at h; cases h
              rw [hx7] at h
              simp only [] at h
              refine ge_index (d := 77) (ty := 0) (t := 24) (el := 3) (sz := 1) (m := m1.length) (c := cz2) (x := (.tmp 73)) (y := (.tmp 76)) (A := Z2) (k' := .i64) (j := (IntKind.i64.wrap ((m1.length : Int) - 1))) (jn := ((IntKind.i64.wrap ((m1.length : Int) - 1)).toNat)) (b0 := blkOf Z2) (o0 := offOf Z2) (by kernel_rfl) (by kernel_rfl) (by kernel_rfl) (by kernel_rfl) (by kernel_rfl) ((hS71.rdAt 3 rfl).eqSome (pos_of_get hx7)) (Int.toNat_of_nonneg hc14).symm (lt_of_get hx7) ?_
              refine ge_batch [9, 10, 11, 12, 13] (ans := [.val (.int .i64 e3), .val (.int .i64 e1.N)]) (vs := [(82, .bool (e3 != e1.N)), (81, .bool (e3 != e1.N)), (80, .int .i64 e1.N), (79, .pointer (some ⟨b3, 1, none⟩)), (78, .int .i64 e3)]) (l := [.loaded ⟨blkOf Z2, offOf Z2 + ((IntKind.i64.wrap ((m1.length : Int) - 1)).toNat) * 1, none⟩ (.int .i64 e3), .loaded ⟨b3, 1, none⟩ (.int .i64 e1.N)]) (by kernel_rfl) ⟨RdL.cell (j := 0) (hS71.rdAt 3 rfl) hx7 rfl, hS71.cell 0 rfl rfl, trivial⟩ ?_
              refine ge_nil fun a hF => hK33 _ _ ?_ a hF
              by_cases hc15 : e3 = e1.N
              · rw [if_pos hc15] at h
                refine we_known (t := 82) (b := (e3 != e1.N)) (v := false) (by kernel_rfl) (bne_eq_false_iff_eq.2 hc15) ?_
                refine we_false (by kernel_rfl) ?_
                refine we_skip fun a hF => hK32 _ _ ?_ a hF
                refine we_region [(0, 0), (1, 0), (2, 0), (3, 0), (4, 0), (5, 0)] rfl ?_
                refine ge_batch [0, 1, 2, 3] (ans := []) (vs := [(88, .int .i64 (IntKind.i64.wrap ((m1.length : Int) - 1))), (87, .int .i64 (m1.length : Int)), (86, (.slice Z2 m1.length cz2)), (85, (.slice Z2 m1.length cz2))]) (l := []) (by kernel_rfl) trivial ?_
                by_cases hc16 : ((IntKind.i64.wrap ((m1.length : Int) - 1)).toNat) ≤ m1.length
                · rw [if_pos hc16] at h
                  refine ge_sliceHi (d := 89) (ty := 24) (t := 24) (el := 3) (sz := 1) (m := m1.length) (c := cz2) (hn := ((IntKind.i64.wrap ((m1.length : Int) - 1)).toNat)) (x := (.tmp 85)) (y := (.tmp 88)) (A := Z2) (k' := .i64) (hi := (IntKind.i64.wrap ((m1.length : Int) - 1))) (by kernel_rfl) (by kernel_rfl) (by kernel_rfl) (Int.toNat_of_nonneg hc14).symm (by kernel_rfl) (by kernel_rfl) (by have f0 := hc16; have f1 := (hS71.capAt 3 rfl); omega) ?_
                  refine ge_same (t := 89) (v := .slice Z2 ((IntKind.i64.wrap ((m1.length : Int) - 1)).toNat) cz2) (v' := .slice Z2 ((m1.take ((IntKind.i64.wrap ((m1.length : Int) - 1)).toNat)).length) cz2) (by kernel_rfl) (congrArg (fun z => Value.slice Z2 z cz2) (show (IntKind.i64.wrap ((m1.length : Int) - 1)).toNat = (m1.take ((IntKind.i64.wrap ((m1.length : Int) - 1)).toNat)).length by have f0 := hc16; have f1 := (hS71.capAt 3 rfl); simp only [List.length_take]; omega)) ?_
                  refine ge_batch [5] (ans := []) (vs := [(3, .slice Z2 ((m1.take ((IntKind.i64.wrap ((m1.length : Int) - 1)).toNat)).length) cz2)]) (l := []) (by kernel_rfl) trivial ?_
                  refine ge_nil fun a hF => hK10 _ _ ?_ a hF
                  refine we_region [(0, 0), (1, 0)] rfl ?_
                  refine ge_addn (d := 90) (ty := 3) (x := (.tmp 15)) (y := (.const (.int .i64 1))) (t := 3) (t2 := 3) (k := .i64) (m := i1) (by kernel_rfl) (by kernel_rfl) (by kernel_rfl) (by have h0 := hR0.small; omega) ?_
                  refine ge_batch [1] (ans := []) (vs := [(15, .int .i64 ((i1 + 1 : Nat) : Int))]) (l := []) (by kernel_rfl) trivial ?_
                  have hS78 := hS71.bring 3 rfl
                  have hS79 := hS78.shrink ((IntKind.i64.wrap ((m1.length : Int) - 1)).toNat)
                  have hS80 := hS79.bring 3 rfl
                  have hS81 := hS80.takeN 2
                  obtain rfl := Option.some.inj h
                  exact ge_nil fun a hF => hQ _ _ _ (Outs.again ⟨(.slice Z2 (m1.take ((IntKind.i64.wrap ((m1.length : Int) - 1)).toNat)).length cz2), hS81, hF.weaken ⟨by kernel_rfl, by kernel_rfl, by kernel_rfl, by kernel_rfl, by kernel_rfl, by kernel_rfl, trivial⟩⟩)
                · rw [if_neg hc16] at h
                  cases h
              · rw [if_neg hc15] at h
                refine we_known (t := 82) (b := (e3 != e1.N)) (v := true) (by kernel_rfl) (bne_iff_ne.2 hc15) ?_
                refine we_true (by kernel_rfl) ?_
                refine we_seq fun K35 hK35 => ?_
                refine we_region [(0, 0), (1, 1), (2, 2)] rfl ?_
                refine ge_batch [0] (ans := []) (vs := [(83, .func (.func 62) #[] #[.pointer (some ⟨b2, 0, none⟩)])]) (l := []) (by kernel_rfl) trivial ?_
                refine ge_call (d := some 84) (f := 62) (args := #[.int .i64 10, .pointer (some ⟨b2, 0, none⟩)]) (by kernel_rfl) (locks_Check_1_ok 10 b2 (i1 : Int) _ (hS71.globOf 1 rfl) _ rfl) ?_
                rintro _ w23 ⟨rfl, hS82⟩
                refine ⟨_, rfl, hS82.below, ?_⟩
                have hS83 := hS71.call hS82
                have hS84 := hS83.bring 2 rfl
                refine ge_set (b := b1) (j := 0) (cs := #[.int .i64 0, .int .i64 0]) (t := 27) (vs := [.int .i64 ((locks_Check_1.f 10 (i1 : Int)).Code), .int .i64 ((locks_Check_1.f 10 (i1 : Int)).At)]) hS84 (by kernel_rfl) rfl rfl fun w24 hS85 => ?_
                have hS86 := hS85.nc #[.int .i64 ((locks_Check_1.f 10 (i1 : Int)).Code), .int .i64 ((locks_Check_1.f 10 (i1 : Int)).At)] rfl
                refine ge_nil fun a hF => hK35 _ _ ?_ a hF
                have hS87 := hS86.takeN 0
                obtain rfl := Option.some.inj h
                exact we_ret fun a hF => hQ _ _ _ (Outs.out nofun (Exits.on ⟨rfl, (post_ret (rs := [.cell 2 27]) (ans := [.val (.int .i64 ((locks_Check_1.f 10 (i1 : Int)).Code)), .val (.int .i64 ((locks_Check_1.f 10 (i1 : Int)).At))]) (vs := [.agg #[.int .i64 ((locks_Check_1.f 10 (i1 : Int)).Code), .int .i64 ((locks_Check_1.f 10 (i1 : Int)).At)]]) (l := [.loaded ⟨b1, 0, none⟩ (.int .i64 ((locks_Check_1.f 10 (i1 : Int)).Code)), .loaded ⟨b1, 1, none⟩ (.int .i64 ((locks_Check_1.f 10 (i1 : Int)).At))]) rfl (by kernel_rfl) ⟨hS86.cell 0 rfl rfl, hS86.cell 0 rfl rfl, trivial⟩ ⟨rfl, hS87⟩) a hF⟩))
            · rw [if_neg hc14] at h
              cases h
        · rw [if_neg hc12] at h
          refine we_known (t := 67) (b := (e1.Do == 3)) (v := false) (by kernel_rfl) (beq_eq_false_iff_ne.2 hc12) ?_
          refine we_false (by kernel_rfl) ?_
          refine we_seq fun K36 hK36 => ?_
          refine we_region [(0, 0), (1, 1), (2, 2)] rfl ?_
          refine ge_batch [0] (ans := []) (vs := [(23, .func (.func 62) #[] #[.pointer (some ⟨b2, 0, none⟩)])]) (l := []) (by kernel_rfl) trivial ?_
          refine ge_call (d := some 24) (f := 62) (args := #[.int .i64 6, .pointer (some ⟨b2, 0, none⟩)]) (by kernel_rfl) (locks_Check_1_ok 6 b2 (i1 : Int) _ (hS14.globOf 1 rfl) _ rfl) ?_
          rintro _ w25 ⟨rfl, hS88⟩
          refine ⟨_, rfl, hS88.below, ?_⟩
          have hS89 := hS14.call hS88
          have hS90 := hS89.bring 2 rfl
          refine ge_set (b := b1) (j := 0) (cs := #[.int .i64 0, .int .i64 0]) (t := 27) (vs := [.int .i64 ((locks_Check_1.f 6 (i1 : Int)).Code), .int .i64 ((locks_Check_1.f 6 (i1 : Int)).At)]) hS90 (by kernel_rfl) rfl rfl fun w26 hS91 => ?_
          have hS92 := hS91.nc #[.int .i64 ((locks_Check_1.f 6 (i1 : Int)).Code), .int .i64 ((locks_Check_1.f 6 (i1 : Int)).At)] rfl
          refine ge_nil fun a hF => hK36 _ _ ?_ a hF
          have hS93 := hS92.takeN 0
          obtain rfl := Option.some.inj h
          exact we_ret fun a hF => hQ _ _ _ (Outs.out nofun (Exits.on ⟨rfl, (post_ret (rs := [.cell 2 27]) (ans := [.val (.int .i64 ((locks_Check_1.f 6 (i1 : Int)).Code)), .val (.int .i64 ((locks_Check_1.f 6 (i1 : Int)).At))]) (vs := [.agg #[.int .i64 ((locks_Check_1.f 6 (i1 : Int)).Code), .int .i64 ((locks_Check_1.f 6 (i1 : Int)).At)]]) (l := [.loaded ⟨b1, 0, none⟩ (.int .i64 ((locks_Check_1.f 6 (i1 : Int)).Code)), .loaded ⟨b1, 1, none⟩ (.int .i64 ((locks_Check_1.f 6 (i1 : Int)).At))]) rfl (by kernel_rfl) ⟨hS92.cell 0 rfl rfl, hS92.cell 0 rfl rfl, trivial⟩ ⟨rfl, hS93⟩) a hF⟩))
  · rw [if_neg hc2] at h
    refine we_known (t := 16) (b := decide ((i1 : Int) < (l0.length : Int))) (v := false) (by kernel_rfl) (decide_eq_false hc2) ?_
    refine we_false (by kernel_rfl) ?_
    have hS94 := hS.bring 1 rfl
    have hS95 := hS94.bring 1 rfl
    obtain rfl := Option.some.inj h
    exact we_exit fun a hF => hQ _ _ _ (Outs.out nofun (Exits.here ⟨v1, hS95, hF.weaken ⟨by kernel_rfl, by kernel_rfl, by kernel_rfl, trivial⟩⟩))
theorem locks_Check_ok (K : Nat) (l0 : List SAct) (A0 : Option Addr) (c0 : Nat) (w0 : World) (hR0 : RdL w0 A0 l0) (hL0 : l0.length ≤ c0) (r : SFault) (h : locks_Check.f K l0 = some r) :
    Calls Tryd.prog 18 #[.slice A0 l0.length c0] w0 (locks_Check.Post w0 r) := by
  have hS := St.start w0
  unfold locks_Check.f at h
  refine calls_enter (n := 98) (args := [.slice A0 l0.length c0]) (fn := Tryd.f18) rfl rfl rfl rfl ?_
  show WE _ _ _ _ [(0, .slice A0 l0.length c0)] _
  refine we_seq fun K1 hK1 => ?_
  refine we_region [(0, 1)] rfl ?_
  refine ge_new (d := some 2) (o := .cells #[.int .i64 0, .int .i64 0] 27) (v := fun b => .pointer (some ⟨b, 0, none⟩)) hS (fun b => by kernel_rfl) fun b1 w1 hx1 hS1 => ?_
  refine ge_nil fun a hF => hK1 _ _ ?_ a hF
  refine we_seq fun K2 hK2 => ?_
  refine we_seq fun K3 hK3 => ?_
  refine we_region [(0, 0), (1, 0), (2, 0)] rfl ?_
  refine ge_batch [0, 1, 2] (ans := []) (vs := [(11, .bool (decide ((l0.length : Int) > 200))), (10, .int .i64 (l0.length : Int)), (9, .slice A0 l0.length c0)]) (l := []) (by kernel_rfl) trivial ?_
  refine ge_nil fun a hF => hK3 _ _ ?_ a hF
  by_cases hc1 : (l0.length : Int) > 200
  · rw [if_pos hc1] at h
    refine we_known (t := 11) (b := decide ((l0.length : Int) > 200)) (v := true) (by kernel_rfl) (decide_eq_true hc1) ?_
    refine we_true (by kernel_rfl) ?_
    refine we_seq fun K4 hK4 => ?_
    refine we_region [(0, 0), (1, 2)] rfl ?_
    refine ge_batch [0] (ans := []) (vs := [(12, .agg #[.int .i64 2, .int .i64 0])]) (l := []) (by kernel_rfl) trivial ?_
    refine ge_set (b := b1) (j := 0) (cs := #[.int .i64 0, .int .i64 0]) (t := 27) (vs := [.int .i64 2, .int .i64 0]) hS1 (by kernel_rfl) rfl rfl fun w2 hS2 => ?_
    have hS3 := hS2.nc #[.int .i64 2, .int .i64 0] rfl
    refine ge_nil fun a hF => hK4 _ _ ?_ a hF
    have hS4 := hS3.takeN 0
    obtain rfl := Option.some.inj h
    exact we_ret (post_ret (rs := [.cell 2 27]) (ans := [.val (.int .i64 2), .val (.int .i64 0)]) (vs := [.agg #[.int .i64 2, .int .i64 0]]) (l := [.loaded ⟨b1, 0, none⟩ (.int .i64 2), .loaded ⟨b1, 1, none⟩ (.int .i64 0)]) rfl (by kernel_rfl) ⟨hS3.cell 0 rfl rfl, hS3.cell 0 rfl rfl, trivial⟩ ⟨rfl, hS4⟩)
  · rw [if_neg hc1] at h
    refine we_known (t := 11) (b := decide ((l0.length : Int) > 200)) (v := false) (by kernel_rfl) (decide_eq_false hc1) ?_
    refine we_false (by kernel_rfl) ?_
    refine we_skip fun a hF => hK2 _ _ ?_ a hF
    refine we_seq fun K5 hK5 => ?_
    refine we_region [(0, 0)] rfl ?_
    refine ge_batch [0] (ans := []) (vs := [(3, .slice none 0 0)]) (l := []) (by kernel_rfl) trivial ?_
    refine ge_nil fun a hF => hK5 _ _ ?_ a hF
    refine we_seq fun K6 hK6 => ?_
    refine we_seq fun K7 hK7 => ?_
    refine we_region [(0, 0), (1, 0), (2, 0)] rfl ?_
    refine ge_batch [0, 1, 2] (ans := []) (vs := [(15, .int .i64 0), (14, .int .i64 (l0.length : Int)), (13, .slice A0 l0.length c0)]) (l := []) (by kernel_rfl) trivial ?_
    refine ge_nil fun a hF => hK7 _ _ ?_ a hF
    refine we_block ?_
    have hS5 := hS1.nil (α := Int) 3
    have hS6 := hS5.bring 1 rfl
    rcases hq11 : iter (locks_Check.r0 K l0) K (([] : List Int), 0) with _ | (m3 | rr3)
    · rw [hq11] at h; cases h
    · rw [hq11] at h
      simp only [] at h
      refine we_iter (A := locks_Check.A0 K w0 l0 A0 c0 hR0 hL0 b1 hc1) (B := locks_Check.B0 K w0 l0 A0 c0 hR0 hL0 b1 hc1) hq11 (fun a hF => ⟨(.slice none 0 0), hS6, hF.weaken ⟨by kernel_rfl, by kernel_rfl, by kernel_rfl, by kernel_rfl, by kernel_rfl, by kernel_rfl, trivial⟩⟩) (fun s o hf a w hA Q hQ => locks_Check_r0 K w0 l0 A0 c0 hR0 hL0 b1 hc1 s o hf a w hA Q hQ) ?_
      rintro _ a w27 _ ⟨rfl, v4, hS96, hF⟩
      replace hS96 : St w0 w27 [Own.blk b1 (.cells #[.int .i64 0, .int .i64 0] 27 (0, 0)), Own.of v4 3 m3] := hS96
      refine hK6 [(0, .slice A0 l0.length c0), (2, .pointer (some ⟨b1, 0, none⟩)), (3, v4)] w27 ?_ a hF
      refine we_seq fun K37 hK37 => ?_
      refine we_seq fun K38 hK38 => ?_
      refine we_region [(0, 0), (1, 0), (2, 0)] rfl ?_
      refine ge_batch [0] (ans := []) (vs := [(91, v4)]) (l := []) (by kernel_rfl) trivial ?_
      obtain ⟨Z3, cz3, rfl⟩ := hS96.open 1 rfl
      refine ge_batch [1, 2] (ans := []) (vs := [(93, .bool (decide ((m3.length : Int) > 0))), (92, .int .i64 (m3.length : Int))]) (l := []) (by kernel_rfl) trivial ?_
      refine ge_nil fun a hF => hK38 _ _ ?_ a hF
      by_cases hc17 : (m3.length : Int) > 0
      · rw [if_pos hc17] at h
        refine we_known (t := 93) (b := decide ((m3.length : Int) > 0)) (v := true) (by kernel_rfl) (decide_eq_true hc17) ?_
        refine we_true (by kernel_rfl) ?_
        refine we_seq fun K39 hK39 => ?_
        refine we_region [(0, 0), (1, 0), (2, 0), (3, 2)] rfl ?_
        refine ge_batch [0, 1, 2] (ans := []) (vs := [(96, .agg #[.int .i64 10, .int .i64 (l0.length : Int)]), (95, .int .i64 (l0.length : Int)), (94, .slice A0 l0.length c0)]) (l := []) (by kernel_rfl) trivial ?_
        refine ge_set (b := b1) (j := 0) (cs := #[.int .i64 0, .int .i64 0]) (t := 27) (vs := [.int .i64 10, .int .i64 (l0.length : Int)]) hS96 (by kernel_rfl) rfl rfl fun w28 hS97 => ?_
        have hS98 := hS97.nc #[.int .i64 10, .int .i64 (l0.length : Int)] rfl
        refine ge_nil fun a hF => hK39 _ _ ?_ a hF
        have hS99 := hS98.takeN 0
        obtain rfl := Option.some.inj h
        exact we_ret (post_ret (rs := [.cell 2 27]) (ans := [.val (.int .i64 10), .val (.int .i64 (l0.length : Int))]) (vs := [.agg #[.int .i64 10, .int .i64 (l0.length : Int)]]) (l := [.loaded ⟨b1, 0, none⟩ (.int .i64 10), .loaded ⟨b1, 1, none⟩ (.int .i64 (l0.length : Int))]) rfl (by kernel_rfl) ⟨hS98.cell 0 rfl rfl, hS98.cell 0 rfl rfl, trivial⟩ ⟨rfl, hS99⟩)
      · rw [if_neg hc17] at h
        refine we_known (t := 93) (b := decide ((m3.length : Int) > 0)) (v := false) (by kernel_rfl) (decide_eq_false hc17) ?_
        refine we_false (by kernel_rfl) ?_
        refine we_skip fun a hF => hK37 _ _ ?_ a hF
        refine we_seq fun K40 hK40 => ?_
        refine we_region [(0, 0), (1, 2)] rfl ?_
        refine ge_batch [0] (ans := []) (vs := [(97, .agg #[.int .i64 0, .int .i64 0])]) (l := []) (by kernel_rfl) trivial ?_
        refine ge_set (b := b1) (j := 0) (cs := #[.int .i64 0, .int .i64 0]) (t := 27) (vs := [.int .i64 0, .int .i64 0]) hS96 (by kernel_rfl) rfl rfl fun w29 hS100 => ?_
        have hS101 := hS100.nc #[.int .i64 0, .int .i64 0] rfl
        refine ge_nil fun a hF => hK40 _ _ ?_ a hF
        have hS102 := hS101.takeN 0
        obtain rfl := Option.some.inj h
        exact we_ret (post_ret (rs := [.cell 2 27]) (ans := [.val (.int .i64 0), .val (.int .i64 0)]) (vs := [.agg #[.int .i64 0, .int .i64 0]]) (l := [.loaded ⟨b1, 0, none⟩ (.int .i64 0), .loaded ⟨b1, 1, none⟩ (.int .i64 0)]) rfl (by kernel_rfl) ⟨hS101.cell 0 rfl rfl, hS101.cell 0 rfl rfl, trivial⟩ ⟨rfl, hS102⟩)
    · rw [hq11] at h
      simp only [] at h
      refine we_iter (A := locks_Check.A0 K w0 l0 A0 c0 hR0 hL0 b1 hc1) (B := locks_Check.B0 K w0 l0 A0 c0 hR0 hL0 b1 hc1) hq11 (fun a hF => ⟨(.slice none 0 0), hS6, hF.weaken ⟨by kernel_rfl, by kernel_rfl, by kernel_rfl, by kernel_rfl, by kernel_rfl, by kernel_rfl, trivial⟩⟩) (fun s o hf a w hA Q hQ => locks_Check_r0 K w0 l0 A0 c0 hR0 hL0 b1 hc1 s o hf a w hA Q hQ) ?_
      rintro _ a w1 _ ⟨rfl, hb⟩
      obtain rfl := Option.some.inj h
      exact hb

/-! punctual/locks.checkAll -/
abbrev locks_checkAll.Post (w0 : World) (r : SFault) (e : Ending) (w : World) : Prop := e = .returned (.agg #[.int .i64 r.Code, .int .i64 r.At]) ∧ St w0 w []
def locks_checkAll.r0 (K : Nat) (l0 : List SLocked) : Nat → Option (Nat ⊕ (Unit ⊕ SFault))
  | i1 =>
    if (i1 : Int) < (l0.length : Int) then
      match l0[i1]? with
      | none => none
      | some e1 =>
        if e1.At < 0 then
          some (.inr (.inr (⟨3, (i1 : Int)⟩ : SFault)))
        else
          if e1.At > 20000 then
            some (.inr (.inr (⟨3, (i1 : Int)⟩ : SFault)))
          else
            if e1.P < 0 then
              some (.inr (.inr (⟨3, (i1 : Int)⟩ : SFault)))
            else
              if e1.P > 1000 then
                some (.inr (.inr (⟨3, (i1 : Int)⟩ : SFault)))
              else
                match locks_Check.f K e1.Acts with
                | none => none
                | some r1 =>
                  if r1.Code = 0 then
                    some (.inl (i1 + 1))
                  else
                    some (.inr (.inr (⟨r1.Code, (i1 : Int)⟩ : SFault)))
    else
      some (.inr (.inl ()))
def locks_checkAll.f (K : Nat) (l0 : List SLocked) : Option SFault :=
  if (l0.length : Int) > 100 then
    some (⟨2, 0⟩ : SFault)
  else
    match iter (locks_checkAll.r0 K l0) K 0 with
    | none => none
    | some (.inl _) =>
      some (⟨0, 0⟩ : SFault)
    | some (.inr rr1) =>
      some rr1
abbrev locks_checkAll.A0 (K : Nat) (w0 : World) (Z : Zone) (l0 : List SLocked) (A0 : Option Addr) (c0 : Nat) (hZ : ∀ w, Sub w0 w → Z w) (hR0 : RdZ Z A0 l0) (hL0 : l0.length ≤ c0) (b1 : Nat) (hc1 : ¬ ((l0.length : Int) > 100)) : Nat → Act → World → Prop := fun (s : Nat) a w => St w0 w [Own.blk b1 (.cells #[.int .i64 0, .int .i64 0] 27 (0, 0))] ∧ Frm 49 a [(2, .pointer (some ⟨b1, 0, none⟩)), (10, .slice A0 l0.length c0), (11, .int .i64 (l0.length : Int)), (12, .int .i64 (s : Int))]
abbrev locks_checkAll.B0 (K : Nat) (w0 : World) (Z : Zone) (l0 : List SLocked) (A0 : Option Addr) (c0 : Nat) (hZ : ∀ w, Sub w0 w → Z w) (hR0 : RdZ Z A0 l0) (hL0 : l0.length ≤ c0) (b1 : Nat) (hc1 : ¬ ((l0.length : Int) > 100)) : (Unit ⊕ SFault) → Exit → Act → World → Prop := Exits 0 (fun (s : Unit) a w => St w0 w [Own.blk b1 (.cells #[.int .i64 0, .int .i64 0] 27 (0, 0))] ∧ Frm 49 a [(2, .pointer (some ⟨b1, 0, none⟩))]) (Rets Tryd.prog Tryd.f59 (locks_checkAll.Post w0))
theorem locks_checkAll_r0 (K : Nat) (w0 : World) (Z : Zone) (l0 : List SLocked) (A0 : Option Addr) (c0 : Nat) (hZ : ∀ w, Sub w0 w → Z w) (hR0 : RdZ Z A0 l0) (hL0 : l0.length ≤ c0) (b1 : Nat) (hc1 : ¬ ((l0.length : Int) > 100)) (s : Nat) (o : Nat ⊕ (Unit ⊕ SFault)) (h : locks_checkAll.r0 K l0 s = some o) (a : Act) (w : World) (hA : locks_checkAll.A0 K w0 Z l0 A0 c0 hZ hR0 hL0 b1 hc1 s a w) (Q : Exit → Act → World → Prop) (hQ : ∀ x a w, Outs (locks_checkAll.A0 K w0 Z l0 A0 c0 hZ hR0 hL0 b1 hc1) (locks_checkAll.B0 K w0 Z l0 A0 c0 hZ hR0 hL0 b1 hc1) o x a w → Q x a w) : (subF Tryd.f59 [1, 1, 0, 1, 0, 0]).wp Tryd.prog Q a w := by
  obtain ⟨i1, hs⟩ : ∃ z, z = s := ⟨s, rfl⟩
  subst hs
  obtain ⟨hS, hF⟩ := hA
  replace hS : St w0 w [Own.blk b1 (.cells #[.int .i64 0, .int .i64 0] 27 (0, 0))] := hS
  simp only [locks_checkAll.r0] at h
  refine (?_ : WE Tryd.prog 49 (subF Tryd.f59 [1, 1, 0, 1, 0, 0]) Q [(2, .pointer (some ⟨b1, 0, none⟩)), (10, .slice A0 l0.length c0), (11, .int .i64 (l0.length : Int)), (12, .int .i64 (i1 : Int))] w) a hF
  clear hF a
  refine we_seq fun K7 hK7 => ?_
  refine we_region [(0, 0)] rfl ?_
  refine ge_batch [0] (ans := []) (vs := [(13, .bool (decide ((i1 : Int) < (l0.length : Int))))]) (l := []) (by kernel_rfl) trivial ?_
  refine ge_nil fun a hF => hK7 _ _ ?_ a hF
  refine we_seq fun K8 hK8 => ?_
  by_cases hc2 : (i1 : Int) < (l0.length : Int)
  · rw [if_pos hc2] at h
    refine we_known (t := 13) (b := decide ((i1 : Int) < (l0.length : Int))) (v := true) (by kernel_rfl) (decide_eq_true hc2) ?_
    refine we_true (by kernel_rfl) ?_
    refine we_skip fun a hF => hK8 _ _ ?_ a hF
    refine we_seq fun K9 hK9 => ?_
    refine we_block ?_
    refine we_seq fun K10 hK10 => ?_
    refine we_region [(0, 0), (1, 0), (2, 0), (3, 1), (4, 0), (5, 2)] rfl ?_
    refine ge_batch [0] (ans := []) (vs := [(14, .int .i64 (i1 : Int))]) (l := []) (by kernel_rfl) trivial ?_
    rcases hx2 : l0[i1]? with _ | e1
    · rw [hx2] at h; cases h
    rw [hx2] at h
    simp only [] at h
    obtain ⟨An1, cn1, hCs1, hLn1, hRn1⟩ := SLocked.getZ hR0 hx2
    refine ge_index (d := 15) (ty := 0) (t := 23) (el := 34) (sz := 3) (m := l0.length) (c := c0) (x := (.tmp 10)) (y := (.tmp 12)) (A := A0) (k' := .i64) (j := (i1 : Int)) (jn := i1) (b0 := blkOf A0) (o0 := offOf A0) (by kernel_rfl) (by kernel_rfl) (by kernel_rfl) (by kernel_rfl) (by kernel_rfl) (hR0.eqSome (hZ _ hS.subw) (pos_of_get hx2)) rfl (lt_of_get hx2) ?_
    refine ge_batch [2] (ans := [.val (.int .i64 e1.At), .val (.int .i64 e1.P), .val (.slice An1 e1.Acts.length cn1)]) (vs := [(16, .agg #[.int .i64 e1.At, .int .i64 e1.P, .slice An1 e1.Acts.length cn1])]) (l := [.loaded ⟨blkOf A0, offOf A0 + i1 * 3, none⟩ (.int .i64 e1.At), .loaded ⟨blkOf A0, offOf A0 + i1 * 3 + 1, none⟩ (.int .i64 e1.P), .loaded ⟨blkOf A0, offOf A0 + i1 * 3 + 2, none⟩ (.slice An1 e1.Acts.length cn1)]) (by kernel_rfl) ⟨hCs1 _ (hZ _ hS.subw) 0 _ rfl, hCs1 _ (hZ _ hS.subw) 1 _ rfl, hCs1 _ (hZ _ hS.subw) 2 _ rfl, trivial⟩ ?_
    refine ge_new (d := some 4) (o := .cells #[.int .i64 0, .int .i64 0, .slice none 0 0] 34) (v := fun b => .pointer (some ⟨b, 0, none⟩)) hS (fun b => by kernel_rfl) fun b2 w3 hx3 hS5 => ?_
    refine ge_batch [4] (ans := []) (vs := [(3, .int .i64 (i1 : Int))]) (l := []) (by kernel_rfl) trivial ?_
    refine ge_set (b := b2) (j := 0) (cs := #[.int .i64 0, .int .i64 0, .slice none 0 0]) (t := 34) (vs := [.int .i64 e1.At, .int .i64 e1.P, .slice An1 e1.Acts.length cn1]) hS5 (by kernel_rfl) rfl rfl fun w4 hS6 => ?_
    have hS7 := hS6.nc #[.int .i64 e1.At, .int .i64 e1.P, .slice An1 e1.Acts.length cn1] rfl
    refine ge_nil fun a hF => hK10 _ _ ?_ a hF
    refine we_seq fun K11 hK11 => ?_
    refine we_seq fun K12 hK12 => ?_
    refine we_region [(0, 0), (1, 0), (2, 0), (3, 0), (4, 0), (5, 0), (6, 0), (7, 0), (8, 0), (9, 0), (10, 0), (11, 0), (12, 0), (13, 0), (14, 0), (15, 0), (16, 0), (17, 0)] rfl ?_
    refine ge_batch [0, 1, 2, 3] (ans := [.val (.int .i64 e1.At)]) (vs := [(20, .bool (decide (e1.At < 0))), (19, .bool (decide (e1.At < 0))), (18, .int .i64 e1.At), (17, .pointer (some ⟨b2, 0, none⟩))]) (l := [.loaded ⟨b2, 0, none⟩ (.int .i64 e1.At)]) (by kernel_rfl) ⟨hS7.cell 0 rfl rfl, trivial⟩ ?_
    by_cases hc3 : e1.At < 0
    · rw [if_pos hc3] at h
      refine ge_known (t := 20) (b := decide (e1.At < 0)) (c := true) (by kernel_rfl) (decide_eq_true hc3) ?_
      refine ge_batch [4, 5, 6, 7, 8, 9, 10, 11, 12, 13, 14, 15, 16, 17] (ans := []) (vs := [(34, .bool true), (33, undef), (32, undef), (31, undef), (30, .bool true), (29, .bool true), (28, undef), (27, undef), (26, undef), (25, .bool true), (24, .bool true), (23, undef), (22, undef), (21, undef)]) (l := []) (by kernel_rfl) trivial ?_
      refine ge_nil fun a hF => hK12 _ _ ?_ a hF
      refine we_true (by kernel_rfl) ?_
      refine we_seq fun K13 hK13 => ?_
      refine we_region [(0, 0), (1, 0), (2, 2)] rfl ?_
      refine ge_batch [0, 1] (ans := []) (vs := [(36, .agg #[.int .i64 3, .int .i64 (i1 : Int)]), (35, .int .i64 (i1 : Int))]) (l := []) (by kernel_rfl) trivial ?_
      have hS8 := hS7.bring 1 rfl
      refine ge_set (b := b1) (j := 0) (cs := #[.int .i64 0, .int .i64 0]) (t := 27) (vs := [.int .i64 3, .int .i64 (i1 : Int)]) hS8 (by kernel_rfl) rfl rfl fun w5 hS9 => ?_
      have hS10 := hS9.nc #[.int .i64 3, .int .i64 (i1 : Int)] rfl
      refine ge_nil fun a hF => hK13 _ _ ?_ a hF
      have hS11 := hS10.takeN 0
      obtain rfl := Option.some.inj h
      exact we_ret fun a hF => hQ _ _ _ (Outs.out nofun (Exits.on ⟨rfl, (post_ret (rs := [.cell 2 27]) (ans := [.val (.int .i64 3), .val (.int .i64 (i1 : Int))]) (vs := [.agg #[.int .i64 3, .int .i64 (i1 : Int)]]) (l := [.loaded ⟨b1, 0, none⟩ (.int .i64 3), .loaded ⟨b1, 1, none⟩ (.int .i64 (i1 : Int))]) rfl (by kernel_rfl) ⟨hS10.cell 0 rfl rfl, hS10.cell 0 rfl rfl, trivial⟩ ⟨rfl, hS11⟩) a hF⟩))
    · rw [if_neg hc3] at h
      refine ge_known (t := 20) (b := decide (e1.At < 0)) (c := false) (by kernel_rfl) (decide_eq_false hc3) ?_
      refine ge_batch [4, 5, 6, 7, 8] (ans := [.val (.int .i64 e1.At)]) (vs := [(25, .bool (decide (e1.At > 20000))), (24, .bool (decide (e1.At > 20000))), (23, .bool (decide (e1.At > 20000))), (22, .int .i64 e1.At), (21, .pointer (some ⟨b2, 0, none⟩))]) (l := [.loaded ⟨b2, 0, none⟩ (.int .i64 e1.At)]) (by kernel_rfl) ⟨hS7.cell 0 rfl rfl, trivial⟩ ?_
      by_cases hc4 : e1.At > 20000
      · rw [if_pos hc4] at h
        refine ge_known (t := 25) (b := decide (e1.At > 20000)) (c := true) (by kernel_rfl) (decide_eq_true hc4) ?_
        refine ge_batch [9, 10, 11, 12, 13, 14, 15, 16, 17] (ans := []) (vs := [(34, .bool true), (33, undef), (32, undef), (31, undef), (30, .bool true), (29, .bool true), (28, undef), (27, undef), (26, undef)]) (l := []) (by kernel_rfl) trivial ?_
        refine ge_nil fun a hF => hK12 _ _ ?_ a hF
        refine we_true (by kernel_rfl) ?_
        refine we_seq fun K14 hK14 => ?_
        refine we_region [(0, 0), (1, 0), (2, 2)] rfl ?_
        refine ge_batch [0, 1] (ans := []) (vs := [(36, .agg #[.int .i64 3, .int .i64 (i1 : Int)]), (35, .int .i64 (i1 : Int))]) (l := []) (by kernel_rfl) trivial ?_
        have hS12 := hS7.bring 1 rfl
        refine ge_set (b := b1) (j := 0) (cs := #[.int .i64 0, .int .i64 0]) (t := 27) (vs := [.int .i64 3, .int .i64 (i1 : Int)]) hS12 (by kernel_rfl) rfl rfl fun w6 hS13 => ?_
        have hS14 := hS13.nc #[.int .i64 3, .int .i64 (i1 : Int)] rfl
        refine ge_nil fun a hF => hK14 _ _ ?_ a hF
        have hS15 := hS14.takeN 0
        obtain rfl := Option.some.inj h
        exact we_ret fun a hF => hQ _ _ _ (Outs.out nofun (Exits.on ⟨rfl, (post_ret (rs := [.cell 2 27]) (ans := [.val (.int .i64 3), .val (.int .i64 (i1 : Int))]) (vs := [.agg #[.int .i64 3, .int .i64 (i1 : Int)]]) (l := [.loaded ⟨b1, 0, none⟩ (.int .i64 3), .loaded ⟨b1, 1, none⟩ (.int .i64 (i1 : Int))]) rfl (by kernel_rfl) ⟨hS14.cell 0 rfl rfl, hS14.cell 0 rfl rfl, trivial⟩ ⟨rfl, hS15⟩) a hF⟩))
      · rw [if_neg hc4] at h
        refine ge_known (t := 25) (b := decide (e1.At > 20000)) (c := false) (by kernel_rfl) (decide_eq_false hc4) ?_
        refine ge_batch [9, 10, 11, 12, 13] (ans := [.val (.int .i64 e1.P)]) (vs := [(30, .bool (decide (e1.P < 0))), (29, .bool (decide (e1.P < 0))), (28, .bool (decide (e1.P < 0))), (27, .int .i64 e1.P), (26, .pointer (some ⟨b2, 1, none⟩))]) (l := [.loaded ⟨b2, 1, none⟩ (.int .i64 e1.P)]) (by kernel_rfl) ⟨hS7.cell 0 rfl rfl, trivial⟩ ?_
        by_cases hc5 : e1.P < 0
        · rw [if_pos hc5] at h
          refine ge_known (t := 30) (b := decide (e1.P < 0)) (c := true) (by kernel_rfl) (decide_eq_true hc5) ?_
          refine ge_batch [14, 15, 16, 17] (ans := []) (vs := [(34, .bool true), (33, undef), (32, undef), (31, undef)]) (l := []) (by kernel_rfl) trivial ?_
          refine ge_nil fun a hF => hK12 _ _ ?_ a hF
          refine we_true (by kernel_rfl) ?_
          refine we_seq fun K15 hK15 => ?_
          refine we_region [(0, 0), (1, 0), (2, 2)] rfl ?_
          refine ge_batch [0, 1] (ans := []) (vs := [(36, .agg #[.int .i64 3, .int .i64 (i1 : Int)]), (35, .int .i64 (i1 : Int))]) (l := []) (by kernel_rfl) trivial ?_
          have hS16 := hS7.bring 1 rfl
          refine ge_set (b := b1) (j := 0) (cs := #[.int .i64 0, .int .i64 0]) (t := 27) (vs := [.int .i64 3, .int .i64 (i1 : Int)]) hS16 (by kernel_rfl) rfl rfl fun w7 hS17 => ?_
          have hS18 := hS17.nc #[.int .i64 3, .int .i64 (i1 : Int)] rfl
          refine ge_nil fun a hF => hK15 _ _ ?_ a hF
          have hS19 := hS18.takeN 0
          obtain rfl := Option.some.inj h
          exact we_ret fun a hF => hQ _ _ _ (Outs.out nofun (Exits.on ⟨rfl, (post_ret (rs := [.cell 2 27]) (ans := [.val (.int .i64 3), .val (.int .i64 (i1 : Int))]) (vs := [.agg #[.int .i64 3, .int .i64 (i1 : Int)]]) (l := [.loaded ⟨b1, 0, none⟩ (.int .i64 3), .loaded ⟨b1, 1, none⟩ (.int .i64 (i1 : Int))]) rfl (by kernel_rfl) ⟨hS18.cell 0 rfl rfl, hS18.cell 0 rfl rfl, trivial⟩ ⟨rfl, hS19⟩) a hF⟩))
        · rw [if_neg hc5] at h
          refine ge_known (t := 30) (b := decide (e1.P < 0)) (c := false) (by kernel_rfl) (decide_eq_false hc5) ?_
          refine ge_batch [14, 15, 16, 17] (ans := [.val (.int .i64 e1.P)]) (vs := [(34, .bool (decide (e1.P > 1000))), (33, .bool (decide (e1.P > 1000))), (32, .int .i64 e1.P), (31, .pointer (some ⟨b2, 1, none⟩))]) (l := [.loaded ⟨b2, 1, none⟩ (.int .i64 e1.P)]) (by kernel_rfl) ⟨hS7.cell 0 rfl rfl, trivial⟩ ?_
          refine ge_nil fun a hF => hK12 _ _ ?_ a hF
          by_cases hc6 : e1.P > 1000
          · rw [if_pos hc6] at h
            refine we_known (t := 34) (b := decide (e1.P > 1000)) (v := true) (by kernel_rfl) (decide_eq_true hc6) ?_
            refine we_true (by kernel_rfl) ?_
            refine we_seq fun K16 hK16 => ?_
            refine we_region [(0, 0), (1, 0), (2, 2)] rfl ?_
            refine ge_batch [0, 1] (ans := []) (vs := [(36, .agg #[.int .i64 3, .int .i64 (i1 : Int)]), (35, .int .i64 (i1 : Int))]) (l := []) (by kernel_rfl) trivial ?_
            have hS20 := hS7.bring 1 rfl
            refine ge_set (b := b1) (j := 0) (cs := #[.int .i64 0, .int .i64 0]) (t := 27) (vs := [.int .i64 3, .int .i64 (i1 : Int)]) hS20 (by kernel_rfl) rfl rfl fun w8 hS21 => ?_
            have hS22 := hS21.nc #[.int .i64 3, .int .i64 (i1 : Int)] rfl
            refine ge_nil fun a hF => hK16 _ _ ?_ a hF
            have hS23 := hS22.takeN 0
            obtain rfl := Option.some.inj h
            exact we_ret fun a hF => hQ _ _ _ (Outs.out nofun (Exits.on ⟨rfl, (post_ret (rs := [.cell 2 27]) (ans := [.val (.int .i64 3), .val (.int .i64 (i1 : Int))]) (vs := [.agg #[.int .i64 3, .int .i64 (i1 : Int)]]) (l := [.loaded ⟨b1, 0, none⟩ (.int .i64 3), .loaded ⟨b1, 1, none⟩ (.int .i64 (i1 : Int))]) rfl (by kernel_rfl) ⟨hS22.cell 0 rfl rfl, hS22.cell 0 rfl rfl, trivial⟩ ⟨rfl, hS23⟩) a hF⟩))
          · rw [if_neg hc6] at h
            refine we_known (t := 34) (b := decide (e1.P > 1000)) (v := false) (by kernel_rfl) (decide_eq_false hc6) ?_
            refine we_false (by kernel_rfl) ?_
            refine we_skip fun a hF => hK11 _ _ ?_ a hF
            refine we_seq fun K17 hK17 => ?_
            refine we_region [(0, 0), (1, 0), (2, 1), (3, 1), (4, 2)] rfl ?_
            rcases hq1 : locks_Check.f K e1.Acts with _ | r1
            · rw [hq1] at h; cases h
            rw [hq1] at h
            simp only [] at h
            refine ge_batch [0, 1] (ans := [.val (.slice An1 e1.Acts.length cn1)]) (vs := [(38, .slice An1 e1.Acts.length cn1), (37, .pointer (some ⟨b2, 2, none⟩))]) (l := [.loaded ⟨b2, 2, none⟩ (.slice An1 e1.Acts.length cn1)]) (by kernel_rfl) ⟨hS7.cell 0 rfl rfl, trivial⟩ ?_
            refine ge_call (d := some 39) (f := 18) (args := #[.slice An1 e1.Acts.length cn1]) (by kernel_rfl) (locks_Check_ok K e1.Acts An1 cn1 _ (hRn1 _ (hZ _ hS7.subw)) hLn1 _ hq1) ?_
            rintro _ w9 ⟨rfl, hS24⟩
            refine ⟨_, rfl, hS24.below, ?_⟩
            have hS25 := hS7.call hS24
            refine ge_new (d := some 5) (o := .cells #[.int .i64 0, .int .i64 0] 27) (v := fun b => .pointer (some ⟨b, 0, none⟩)) hS25 (fun b => by kernel_rfl) fun b3 w10 hx4 hS26 => ?_
            refine ge_set (b := b3) (j := 0) (cs := #[.int .i64 0, .int .i64 0]) (t := 27) (vs := [.int .i64 r1.Code, .int .i64 r1.At]) hS26 (by kernel_rfl) rfl rfl fun w11 hS27 => ?_
            have hS28 := hS27.nc #[.int .i64 r1.Code, .int .i64 r1.At] rfl
            refine ge_nil fun a hF => hK17 _ _ ?_ a hF
            refine we_seq fun K18 hK18 => ?_
            refine we_region [(0, 0), (1, 0), (2, 0)] rfl ?_
            refine ge_batch [0, 1, 2] (ans := [.val (.int .i64 r1.Code)]) (vs := [(42, .bool (r1.Code != 0)), (41, .int .i64 r1.Code), (40, .pointer (some ⟨b3, 0, none⟩))]) (l := [.loaded ⟨b3, 0, none⟩ (.int .i64 r1.Code)]) (by kernel_rfl) ⟨hS28.cell 0 rfl rfl, trivial⟩ ?_
            refine ge_nil fun a hF => hK18 _ _ ?_ a hF
            by_cases hc7 : r1.Code = 0
            · rw [if_pos hc7] at h
              refine we_known (t := 42) (b := (r1.Code != 0)) (v := false) (by kernel_rfl) (bne_eq_false_iff_eq.2 hc7) ?_
              refine we_false (by kernel_rfl) ?_
              refine we_skip fun a hF => hK9 _ _ ?_ a hF
              refine we_region [(0, 0), (1, 0)] rfl ?_
              refine ge_addn (d := 47) (ty := 3) (x := (.tmp 12)) (y := (.const (.int .i64 1))) (t := 3) (t2 := 3) (k := .i64) (m := i1) (by kernel_rfl) (by kernel_rfl) (by kernel_rfl) (by omega) ?_
              refine ge_batch [1] (ans := []) (vs := [(12, .int .i64 ((i1 + 1 : Nat) : Int))]) (l := []) (by kernel_rfl) trivial ?_
              have hS29 := hS28.bring 2 rfl
              have hS30 := hS29.takeN 1
              obtain rfl := Option.some.inj h
              exact ge_nil fun a hF => hQ _ _ _ (Outs.again ⟨hS30, hF.weaken ⟨by kernel_rfl, by kernel_rfl, by kernel_rfl, by kernel_rfl, trivial⟩⟩)
            · rw [if_neg hc7] at h
              refine we_known (t := 42) (b := (r1.Code != 0)) (v := true) (by kernel_rfl) (bne_iff_ne.2 hc7) ?_
              refine we_true (by kernel_rfl) ?_
              refine we_seq fun K19 hK19 => ?_
              refine we_region [(0, 0), (1, 0), (2, 0), (3, 0), (4, 2)] rfl ?_
              refine ge_batch [0, 1, 2, 3] (ans := [.val (.int .i64 r1.Code)]) (vs := [(46, .agg #[.int .i64 r1.Code, .int .i64 (i1 : Int)]), (45, .int .i64 (i1 : Int)), (44, .int .i64 r1.Code), (43, .pointer (some ⟨b3, 0, none⟩))]) (l := [.loaded ⟨b3, 0, none⟩ (.int .i64 r1.Code)]) (by kernel_rfl) ⟨hS28.cell 0 rfl rfl, trivial⟩ ?_
              have hS31 := hS28.bring 2 rfl
              refine ge_set (b := b1) (j := 0) (cs := #[.int .i64 0, .int .i64 0]) (t := 27) (vs := [.int .i64 r1.Code, .int .i64 (i1 : Int)]) hS31 (by kernel_rfl) rfl rfl fun w12 hS32 => ?_
              have hS33 := hS32.nc #[.int .i64 r1.Code, .int .i64 (i1 : Int)] rfl
              refine ge_nil fun a hF => hK19 _ _ ?_ a hF
              have hS34 := hS33.takeN 0
              obtain rfl := Option.some.inj h
              exact we_ret fun a hF => hQ _ _ _ (Outs.out nofun (Exits.on ⟨rfl, (post_ret (rs := [.cell 2 27]) (ans := [.val (.int .i64 r1.Code), .val (.int .i64 (i1 : Int))]) (vs := [.agg #[.int .i64 r1.Code, .int .i64 (i1 : Int)]]) (l := [.loaded ⟨b1, 0, none⟩ (.int .i64 r1.Code), .loaded ⟨b1, 1, none⟩ (.int .i64 (i1 : Int))]) rfl (by kernel_rfl) ⟨hS33.cell 0 rfl rfl, hS33.cell 0 rfl rfl, trivial⟩ ⟨rfl, hS34⟩) a hF⟩))
  · rw [if_neg hc2] at h
    refine we_known (t := 13) (b := decide ((i1 : Int) < (l0.length : Int))) (v := false) (by kernel_rfl) (decide_eq_false hc2) ?_
    refine we_false (by kernel_rfl) ?_
    obtain rfl := Option.some.inj h
    exact we_exit fun a hF => hQ _ _ _ (Outs.out nofun (Exits.here ⟨hS, hF.weaken ⟨by kernel_rfl, trivial⟩⟩))
theorem locks_checkAll_ok (K : Nat) (Z : Zone) (l0 : List SLocked) (A0 : Option Addr) (c0 : Nat) (w0 : World) (hZ : ∀ w, Sub w0 w → Z w) (hR0 : RdZ Z A0 l0) (hL0 : l0.length ≤ c0) (r : SFault) (h : locks_checkAll.f K l0 = some r) :
    Calls Tryd.prog 59 #[.slice A0 l0.length c0] w0 (locks_checkAll.Post w0 r) := by
  have hS := St.start w0
  unfold locks_checkAll.f at h
  refine calls_enter (n := 49) (args := [.slice A0 l0.length c0]) (fn := Tryd.f59) rfl rfl rfl rfl ?_
  show WE _ _ _ _ [(0, .slice A0 l0.length c0)] _
  refine we_seq fun K1 hK1 => ?_
  refine we_region [(0, 1)] rfl ?_
  refine ge_new (d := some 2) (o := .cells #[.int .i64 0, .int .i64 0] 27) (v := fun b => .pointer (some ⟨b, 0, none⟩)) hS (fun b => by kernel_rfl) fun b1 w1 hx1 hS1 => ?_
  refine ge_nil fun a hF => hK1 _ _ ?_ a hF
  refine we_seq fun K2 hK2 => ?_
  refine we_seq fun K3 hK3 => ?_
  refine we_region [(0, 0), (1, 0), (2, 0)] rfl ?_
  refine ge_batch [0, 1, 2] (ans := []) (vs := [(8, .bool (decide ((l0.length : Int) > 100))), (7, .int .i64 (l0.length : Int)), (6, .slice A0 l0.length c0)]) (l := []) (by kernel_rfl) trivial ?_
  refine ge_nil fun a hF => hK3 _ _ ?_ a hF
  by_cases hc1 : (l0.length : Int) > 100
  · rw [if_pos hc1] at h
    refine we_known (t := 8) (b := decide ((l0.length : Int) > 100)) (v := true) (by kernel_rfl) (decide_eq_true hc1) ?_
    refine we_true (by kernel_rfl) ?_
    refine we_seq fun K4 hK4 => ?_
    refine we_region [(0, 0), (1, 2)] rfl ?_
    refine ge_batch [0] (ans := []) (vs := [(9, .agg #[.int .i64 2, .int .i64 0])]) (l := []) (by kernel_rfl) trivial ?_
    refine ge_set (b := b1) (j := 0) (cs := #[.int .i64 0, .int .i64 0]) (t := 27) (vs := [.int .i64 2, .int .i64 0]) hS1 (by kernel_rfl) rfl rfl fun w2 hS2 => ?_
    have hS3 := hS2.nc #[.int .i64 2, .int .i64 0] rfl
    refine ge_nil fun a hF => hK4 _ _ ?_ a hF
    have hS4 := hS3.takeN 0
    obtain rfl := Option.some.inj h
    exact we_ret (post_ret (rs := [.cell 2 27]) (ans := [.val (.int .i64 2), .val (.int .i64 0)]) (vs := [.agg #[.int .i64 2, .int .i64 0]]) (l := [.loaded ⟨b1, 0, none⟩ (.int .i64 2), .loaded ⟨b1, 1, none⟩ (.int .i64 0)]) rfl (by kernel_rfl) ⟨hS3.cell 0 rfl rfl, hS3.cell 0 rfl rfl, trivial⟩ ⟨rfl, hS4⟩)
  · rw [if_neg hc1] at h
    refine we_known (t := 8) (b := decide ((l0.length : Int) > 100)) (v := false) (by kernel_rfl) (decide_eq_false hc1) ?_
    refine we_false (by kernel_rfl) ?_
    refine we_skip fun a hF => hK2 _ _ ?_ a hF
    refine we_seq fun K5 hK5 => ?_
    refine we_seq fun K6 hK6 => ?_
    refine we_region [(0, 0), (1, 0), (2, 0)] rfl ?_
    refine ge_batch [0, 1, 2] (ans := []) (vs := [(12, .int .i64 0), (11, .int .i64 (l0.length : Int)), (10, .slice A0 l0.length c0)]) (l := []) (by kernel_rfl) trivial ?_
    refine ge_nil fun a hF => hK6 _ _ ?_ a hF
    refine we_block ?_
    rcases hq2 : iter (locks_checkAll.r0 K l0) K 0 with _ | (_ | rr1)
    · rw [hq2] at h; cases h
    · rw [hq2] at h
      simp only [] at h
      refine we_iter (A := locks_checkAll.A0 K w0 Z l0 A0 c0 hZ hR0 hL0 b1 hc1) (B := locks_checkAll.B0 K w0 Z l0 A0 c0 hZ hR0 hL0 b1 hc1) hq2 (fun a hF => ⟨hS1, hF.weaken ⟨by kernel_rfl, by kernel_rfl, by kernel_rfl, by kernel_rfl, trivial⟩⟩) (fun s o hf a w hA Q hQ => locks_checkAll_r0 K w0 Z l0 A0 c0 hZ hR0 hL0 b1 hc1 s o hf a w hA Q hQ) ?_
      rintro _ a w13 _ ⟨rfl, hS35, hF⟩
      replace hS35 : St w0 w13 [Own.blk b1 (.cells #[.int .i64 0, .int .i64 0] 27 (0, 0))] := hS35
      refine hK5 [(2, .pointer (some ⟨b1, 0, none⟩))] w13 ?_ a hF
      refine we_seq fun K20 hK20 => ?_
      refine we_region [(0, 0), (1, 2)] rfl ?_
      refine ge_batch [0] (ans := []) (vs := [(48, .agg #[.int .i64 0, .int .i64 0])]) (l := []) (by kernel_rfl) trivial ?_
      refine ge_set (b := b1) (j := 0) (cs := #[.int .i64 0, .int .i64 0]) (t := 27) (vs := [.int .i64 0, .int .i64 0]) hS35 (by kernel_rfl) rfl rfl fun w14 hS36 => ?_
      have hS37 := hS36.nc #[.int .i64 0, .int .i64 0] rfl
      refine ge_nil fun a hF => hK20 _ _ ?_ a hF
      have hS38 := hS37.takeN 0
      obtain rfl := Option.some.inj h
      exact we_ret (post_ret (rs := [.cell 2 27]) (ans := [.val (.int .i64 0), .val (.int .i64 0)]) (vs := [.agg #[.int .i64 0, .int .i64 0]]) (l := [.loaded ⟨b1, 0, none⟩ (.int .i64 0), .loaded ⟨b1, 1, none⟩ (.int .i64 0)]) rfl (by kernel_rfl) ⟨hS37.cell 0 rfl rfl, hS37.cell 0 rfl rfl, trivial⟩ ⟨rfl, hS38⟩)
    · rw [hq2] at h
      simp only [] at h
      refine we_iter (A := locks_checkAll.A0 K w0 Z l0 A0 c0 hZ hR0 hL0 b1 hc1) (B := locks_checkAll.B0 K w0 Z l0 A0 c0 hZ hR0 hL0 b1 hc1) hq2 (fun a hF => ⟨hS1, hF.weaken ⟨by kernel_rfl, by kernel_rfl, by kernel_rfl, by kernel_rfl, trivial⟩⟩) (fun s o hf a w hA Q hQ => locks_checkAll_r0 K w0 Z l0 A0 c0 hZ hR0 hL0 b1 hc1 s o hf a w hA Q hQ) ?_
      rintro _ a w1 _ ⟨rfl, hb⟩
      obtain rfl := Option.some.inj h
      exact hb

/-! punctual/locks.ceilings -/
abbrev locks_ceilings.Post (w0 : World) (r : List Int) (e : Ending) (w : World) : Prop := ∃ (v0 : Value), e = .returned (v0) ∧ St w0 w [Own.of v0 3 r]
def locks_ceilings.r1 (e1 : SLocked) : Nat × (List Int) → Option ((Nat × (List Int)) ⊕ ((List Int) ⊕ (List Int)))
  | (i2, m3) =>
    if (i2 : Int) < (e1.Acts.length : Int) then
      match e1.Acts[i2]? with
      | none => none
      | some e2 =>
        if e2.Do = 2 then
          if 0 ≤ e2.N then
            match m3[(e2.N).toNat]? with
            | none => none
            | some e3 =>
              some (.inl ((i2 + 1), (m3.set ((e2.N).toNat) (gmax e3 e1.P))))
          else
            none
        else
          some (.inl ((i2 + 1), m3))
    else
      some (.inr (.inl m3))
def locks_ceilings.r0 (K : Nat) (l0 : List SLocked) : Nat × (List Int) → Option ((Nat × (List Int)) ⊕ ((List Int) ⊕ (List Int)))
  | (i1, m1) =>
    if (i1 : Int) < (l0.length : Int) then
      match l0[i1]? with
      | none => none
      | some e1 =>
        match iter (locks_ceilings.r1 e1) K (0, m1) with
        | none => none
        | some (.inl m5) =>
          some (.inl ((i1 + 1), m5))
        | some (.inr rr1) =>
          some (.inr (.inr rr1))
    else
      some (.inr (.inl m1))
def locks_ceilings.f (K : Nat) (l0 : List SLocked) : Option (List Int) :=
  match iter (locks_ceilings.r0 K l0) K (0, ([(-1), (-1), (-1), (-1)] : List Int)) with
  | none => none
  | some (.inl m6) =>
    some m6
  | some (.inr rr2) =>
    some rr2
abbrev locks_ceilings.A1 (K : Nat) (w0 : World) (Z : Zone) (l0 : List SLocked) (A0 : Option Addr) (c0 : Nat) (hZ : ∀ w, Sub w0 w → Z w) (hR0 : RdZ Z A0 l0) (hL0 : l0.length ≤ c0) (b1 : Nat) (i1 : Nat) (m1 : List Int) (hc1 : (i1 : Int) < (l0.length : Int)) (e1 : SLocked) (hx2 : l0[i1]? = some e1) (An1 : Option Addr) (cn1 : Nat) (hCs1 : CellsAt Z A0 (i1 * 3) [.int .i64 e1.At, .int .i64 e1.P, .slice An1 e1.Acts.length cn1]) (hLn1 : e1.Acts.length ≤ cn1) (hRn1 : RdF Z An1 e1.Acts) (b2 : Nat) : (Nat × (List Int)) → Act → World → Prop := fun (s : Nat × (List Int)) a w => St w0 w [Own.blk b2 (.cells #[.int .i64 e1.At, .int .i64 e1.P, .slice An1 e1.Acts.length cn1] 34 (0, 0)), Own.of (.slice (some ⟨b1, 0, none⟩) s.2.length 4) 3 s.2] ∧ Frm 40 a [(3, (.slice (some ⟨b1, 0, none⟩) s.2.length 4)), (5, .pointer (some ⟨b2, 0, none⟩)), (9, .slice A0 l0.length c0), (10, .int .i64 (l0.length : Int)), (11, .int .i64 (i1 : Int)), (16, .slice An1 e1.Acts.length cn1), (17, .int .i64 (e1.Acts.length : Int)), (18, .int .i64 (s.1 : Int))]
abbrev locks_ceilings.B1 (K : Nat) (w0 : World) (Z : Zone) (l0 : List SLocked) (A0 : Option Addr) (c0 : Nat) (hZ : ∀ w, Sub w0 w → Z w) (hR0 : RdZ Z A0 l0) (hL0 : l0.length ≤ c0) (b1 : Nat) (i1 : Nat) (m1 : List Int) (hc1 : (i1 : Int) < (l0.length : Int)) (e1 : SLocked) (hx2 : l0[i1]? = some e1) (An1 : Option Addr) (cn1 : Nat) (hCs1 : CellsAt Z A0 (i1 * 3) [.int .i64 e1.At, .int .i64 e1.P, .slice An1 e1.Acts.length cn1]) (hLn1 : e1.Acts.length ≤ cn1) (hRn1 : RdF Z An1 e1.Acts) (b2 : Nat) : ((List Int) ⊕ (List Int)) → Exit → Act → World → Prop := Exits 2 (fun (s : (List Int)) a w => St w0 w [Own.of (.slice (some ⟨b1, 0, none⟩) s.length 4) 3 s] ∧ Frm 40 a [(3, (.slice (some ⟨b1, 0, none⟩) s.length 4)), (9, .slice A0 l0.length c0), (10, .int .i64 (l0.length : Int)), (11, .int .i64 (i1 : Int))]) (Rets Tryd.prog Tryd.f60 (locks_ceilings.Post w0))
theorem locks_ceilings_r1 (K : Nat) (w0 : World) (Z : Zone) (l0 : List SLocked) (A0 : Option Addr) (c0 : Nat) (hZ : ∀ w, Sub w0 w → Z w) (hR0 : RdZ Z A0 l0) (hL0 : l0.length ≤ c0) (b1 : Nat) (i1 : Nat) (m1 : List Int) (hc1 : (i1 : Int) < (l0.length : Int)) (e1 : SLocked) (hx2 : l0[i1]? = some e1) (An1 : Option Addr) (cn1 : Nat) (hCs1 : CellsAt Z A0 (i1 * 3) [.int .i64 e1.At, .int .i64 e1.P, .slice An1 e1.Acts.length cn1]) (hLn1 : e1.Acts.length ≤ cn1) (hRn1 : RdF Z An1 e1.Acts) (b2 : Nat) (s : Nat × (List Int)) (o : (Nat × (List Int)) ⊕ ((List Int) ⊕ (List Int))) (h : locks_ceilings.r1 e1 s = some o) (a : Act) (w : World) (hA : locks_ceilings.A1 K w0 Z l0 A0 c0 hZ hR0 hL0 b1 i1 m1 hc1 e1 hx2 An1 cn1 hCs1 hLn1 hRn1 b2 s a w) (Q : Exit → Act → World → Prop) (hQ : ∀ x a w, Outs (locks_ceilings.A1 K w0 Z l0 A0 c0 hZ hR0 hL0 b1 i1 m1 hc1 e1 hx2 An1 cn1 hCs1 hLn1 hRn1 b2) (locks_ceilings.B1 K w0 Z l0 A0 c0 hZ hR0 hL0 b1 i1 m1 hc1 e1 hx2 An1 cn1 hCs1 hLn1 hRn1 b2) o x a w → Q x a w) : (subF Tryd.f60 [1, 1, 0, 1, 0, 0, 1, 1, 0, 0, 1, 1, 0, 0]).wp Tryd.prog Q a w := by
  obtain ⟨i2, m3⟩ := s
  obtain ⟨hS, hF⟩ := hA
  replace hS : St w0 w [Own.blk b2 (.cells #[.int .i64 e1.At, .int .i64 e1.P, .slice An1 e1.Acts.length cn1] 34 (0, 0)), Own.of (.slice (some ⟨b1, 0, none⟩) m3.length 4) 3 m3] := hS
  simp only [locks_ceilings.r1] at h
  refine (?_ : WE Tryd.prog 40 (subF Tryd.f60 [1, 1, 0, 1, 0, 0, 1, 1, 0, 0, 1, 1, 0, 0]) Q [(3, (.slice (some ⟨b1, 0, none⟩) m3.length 4)), (5, .pointer (some ⟨b2, 0, none⟩)), (9, .slice A0 l0.length c0), (10, .int .i64 (l0.length : Int)), (11, .int .i64 (i1 : Int)), (16, .slice An1 e1.Acts.length cn1), (17, .int .i64 (e1.Acts.length : Int)), (18, .int .i64 (i2 : Int))] w) a hF
  clear hF a
  refine we_seq fun K10 hK10 => ?_
  refine we_region [(0, 0)] rfl ?_
  refine ge_batch [0] (ans := []) (vs := [(19, .bool (decide ((i2 : Int) < (e1.Acts.length : Int))))]) (l := []) (by kernel_rfl) trivial ?_
  refine ge_nil fun a hF => hK10 _ _ ?_ a hF
  refine we_seq fun K11 hK11 => ?_
  by_cases hc2 : (i2 : Int) < (e1.Acts.length : Int)
  · rw [if_pos hc2] at h
    refine we_known (t := 19) (b := decide ((i2 : Int) < (e1.Acts.length : Int))) (v := true) (by kernel_rfl) (decide_eq_true hc2) ?_
    refine we_true (by kernel_rfl) ?_
    refine we_skip fun a hF => hK11 _ _ ?_ a hF
    refine we_seq fun K12 hK12 => ?_
    refine we_block ?_
    refine we_seq fun K13 hK13 => ?_
    refine we_region [(0, 0), (1, 0), (2, 1), (3, 2)] rfl ?_
    rcases hx4 : e1.Acts[i2]? with _ | e2
    · rw [hx4] at h; cases h
    rw [hx4] at h
    simp only [] at h
    refine ge_index (d := 20) (ty := 0) (t := 22) (el := 39) (sz := 2) (m := e1.Acts.length) (c := cn1) (x := (.tmp 16)) (y := (.tmp 18)) (A := An1) (k' := .i64) (j := (i2 : Int)) (jn := i2) (b0 := blkOf An1) (o0 := offOf An1) (by kernel_rfl) (by kernel_rfl) (by kernel_rfl) (by kernel_rfl) (by kernel_rfl) ((hRn1 _ (hZ _ hS.subw)).eqSome (pos_of_get hx4)) rfl (lt_of_get hx4) ?_
    refine ge_batch [1] (ans := [.val (.int .i64 e2.Do), .val (.int .i64 e2.N)]) (vs := [(21, .agg #[.int .i64 e2.Do, .int .i64 e2.N])]) (l := [.loaded ⟨blkOf An1, offOf An1 + i2 * 2, none⟩ (.int .i64 e2.Do), .loaded ⟨blkOf An1, offOf An1 + i2 * 2 + 1, none⟩ (.int .i64 e2.N)]) (by kernel_rfl) ⟨RdL.cell (j := 0) (hRn1 _ (hZ _ hS.subw)) hx4 rfl, RdL.cell (j := 1) (hRn1 _ (hZ _ hS.subw)) hx4 rfl, trivial⟩ ?_
    refine ge_new (d := some 7) (o := .cells #[.int .i64 0, .int .i64 0] 39) (v := fun b => .pointer (some ⟨b, 0, none⟩)) hS (fun b => by kernel_rfl) fun b3 w4 hx5 hS9 => ?_
    refine ge_set (b := b3) (j := 0) (cs := #[.int .i64 0, .int .i64 0]) (t := 39) (vs := [.int .i64 e2.Do, .int .i64 e2.N]) hS9 (by kernel_rfl) rfl rfl fun w5 hS10 => ?_
    have hS11 := hS10.nc #[.int .i64 e2.Do, .int .i64 e2.N] rfl
    refine ge_nil fun a hF => hK13 _ _ ?_ a hF
    refine we_seq fun K14 hK14 => ?_
    refine we_region [(0, 0), (1, 0), (2, 0)] rfl ?_
    refine ge_batch [0, 1, 2] (ans := [.val (.int .i64 e2.Do)]) (vs := [(24, .bool (e2.Do == 2)), (23, .int .i64 e2.Do), (22, .pointer (some ⟨b3, 0, none⟩))]) (l := [.loaded ⟨b3, 0, none⟩ (.int .i64 e2.Do)]) (by kernel_rfl) ⟨hS11.cell 0 rfl rfl, trivial⟩ ?_
    refine ge_nil fun a hF => hK14 _ _ ?_ a hF
    by_cases hc3 : e2.Do = 2
    · rw [if_pos hc3] at h
      refine we_known (t := 24) (b := (e2.Do == 2)) (v := true) (by kernel_rfl) (beq_iff_eq.2 hc3) ?_
      refine we_true (by kernel_rfl) ?_
      refine we_draws (by kernel_rfl) [(0, 0), (1, 0), (2, 0), (3, 0), (4, 0), (5, 0), (6, 0), (7, 0), (8, 0), (9, 0), (10, 0), (11, 0), (12, 2)] (by kernel_rfl) ?_
      have hS12 := hS11.drew
      refine ge_batch [0, 1, 2, 3, 4, 5] (ans := [.val (.int .i64 e2.N), .val (.int .i64 e2.N)]) (vs := [(30, .int .i64 e2.N), (29, .pointer (some ⟨b3, 1, none⟩)), (28, (.slice (some ⟨b1, 0, none⟩) m3.length 4)), (27, .int .i64 e2.N), (26, .pointer (some ⟨b3, 1, none⟩)), (25, (.slice (some ⟨b1, 0, none⟩) m3.length 4))]) (l := [.loaded ⟨b3, 1, none⟩ (.int .i64 e2.N), .loaded ⟨b3, 1, none⟩ (.int .i64 e2.N)]) (by kernel_rfl) ⟨hS12.cell 0 rfl rfl, hS12.cell 0 rfl rfl, trivial⟩ ?_
      by_cases hc4 : 0 ≤ e2.N
      · rw [if_pos hc4] at h
        rcases hx6 : m3[(e2.N).toNat]? with _ | e3
        · rw [hx6] at h; cases h
        rw [hx6] at h
        simp only [] at h
        refine ge_index (d := 31) (ty := 0) (t := 24) (el := 3) (sz := 1) (m := m3.length) (c := 4) (x := (.tmp 28)) (y := (.tmp 30)) (A := (some ⟨b1, 0, none⟩)) (k' := .i64) (j := e2.N) (jn := ((e2.N).toNat)) (b0 := blkOf (some ⟨b1, 0, none⟩)) (o0 := offOf (some ⟨b1, 0, none⟩)) (by kernel_rfl) (by kernel_rfl) (by kernel_rfl) (by kernel_rfl) (by kernel_rfl) ((hS12.rdAt 2 rfl).eqSome (pos_of_get hx6)) (Int.toNat_of_nonneg hc4).symm (lt_of_get hx6) ?_
        refine ge_batch [7, 8, 9, 10] (ans := [.val (.int .i64 e3), .val (.int .i64 e1.P)]) (vs := [(35, .int .i64 (gmax e3 e1.P)), (34, .int .i64 e1.P), (33, .pointer (some ⟨b2, 1, none⟩)), (32, .int .i64 e3)]) (l := [.loaded ⟨blkOf (some ⟨b1, 0, none⟩), offOf (some ⟨b1, 0, none⟩) + ((e2.N).toNat) * 1, none⟩ (.int .i64 e3), .loaded ⟨b2, 1, none⟩ (.int .i64 e1.P)]) (by kernel_rfl) ⟨RdL.cell (j := 0) (hS12.rdAt 2 rfl) hx6 rfl, hS12.cell 1 rfl rfl, trivial⟩ ?_
        refine ge_index (d := 36) (ty := 0) (t := 24) (el := 3) (sz := 1) (m := m3.length) (c := 4) (x := (.tmp 25)) (y := (.tmp 27)) (A := (some ⟨b1, 0, none⟩)) (k' := .i64) (j := e2.N) (jn := ((e2.N).toNat)) (b0 := blkOf (some ⟨b1, 0, none⟩)) (o0 := offOf (some ⟨b1, 0, none⟩)) (by kernel_rfl) (by kernel_rfl) (by kernel_rfl) (by kernel_rfl) (by kernel_rfl) ((hS12.rdAt 2 rfl).eqSome (pos_of_get hx6)) (Int.toNat_of_nonneg hc4).symm (lt_of_get hx6) ?_
        have hS13 := hS12.bring 2 rfl
        refine ge_seti (α := Int) (A := (some ⟨b1, 0, none⟩)) (nn := m3.length) (c := 4) (t := 3) (l := m3) (x := e3) (x' := (gmax e3 e1.P)) (jn := ((e2.N).toNat)) (j := 0) (vs := [.int .i64 (gmax e3 e1.P)]) (l' := [.stored ⟨blkOf (some ⟨b1, 0, none⟩), offOf (some ⟨b1, 0, none⟩) + ((e2.N).toNat) * 1, none⟩ (.int .i64 (gmax e3 e1.P))]) hS13 (by kernel_rfl) (by kernel_rfl) hx6 rfl rfl rfl fun w6 hS14 => ?_
        have hE1 : m3.length = (m3.set ((e2.N).toNat) (gmax e3 e1.P)).length := hS14.lenAt 0 rfl
        have hS15 := hS14.reN
        refine ge_same (t := 3) (v := (.slice (some ⟨b1, 0, none⟩) m3.length 4)) (v' := (.slice (some ⟨b1, 0, none⟩) (m3.set ((e2.N).toNat) (gmax e3 e1.P)).length 4)) (by kernel_rfl) (by rw [hE1]) ?_
        refine ge_same (t := 25) (v := (.slice (some ⟨b1, 0, none⟩) m3.length 4)) (v' := (.slice (some ⟨b1, 0, none⟩) (m3.set ((e2.N).toNat) (gmax e3 e1.P)).length 4)) (by kernel_rfl) (by rw [hE1]) ?_
        refine ge_same (t := 28) (v := (.slice (some ⟨b1, 0, none⟩) m3.length 4)) (v' := (.slice (some ⟨b1, 0, none⟩) (m3.set ((e2.N).toNat) (gmax e3 e1.P)).length 4)) (by kernel_rfl) (by rw [hE1]) ?_
        refine ge_nil fun a hF => hK12 _ _ ?_ a hF
        refine we_region [(0, 0), (1, 0)] rfl ?_
        refine ge_addn (d := 37) (ty := 3) (x := (.tmp 18)) (y := (.const (.int .i64 1))) (t := 3) (t2 := 3) (k := .i64) (m := i2) (by kernel_rfl) (by kernel_rfl) (by kernel_rfl) (by have h0 := (hRn1 _ (hZ _ hS15.subw)).small; omega) ?_
        refine ge_batch [1] (ans := []) (vs := [(18, .int .i64 ((i2 + 1 : Nat) : Int))]) (l := []) (by kernel_rfl) trivial ?_
        have hS16 := hS15.bring 2 rfl
        have hS17 := hS16.takeN 2
        obtain rfl := Option.some.inj h
        exact ge_nil fun a hF => hQ _ _ _ (Outs.again ⟨hS17, hF.weaken ⟨by kernel_rfl, by kernel_rfl, by kernel_rfl, by kernel_rfl, by kernel_rfl, by kernel_rfl, by kernel_rfl, by kernel_rfl, trivial⟩⟩)
      · rw [if_neg hc4] at h
        cases h
    · rw [if_neg hc3] at h
      refine we_known (t := 24) (b := (e2.Do == 2)) (v := false) (by kernel_rfl) (beq_eq_false_iff_ne.2 hc3) ?_
      refine we_false (by kernel_rfl) ?_
      refine we_skip fun a hF => hK12 _ _ ?_ a hF
      refine we_region [(0, 0), (1, 0)] rfl ?_
      refine ge_addn (d := 37) (ty := 3) (x := (.tmp 18)) (y := (.const (.int .i64 1))) (t := 3) (t2 := 3) (k := .i64) (m := i2) (by kernel_rfl) (by kernel_rfl) (by kernel_rfl) (by have h0 := (hRn1 _ (hZ _ hS11.subw)).small; omega) ?_
      refine ge_batch [1] (ans := []) (vs := [(18, .int .i64 ((i2 + 1 : Nat) : Int))]) (l := []) (by kernel_rfl) trivial ?_
      have hS18 := hS11.bring 2 rfl
      have hS19 := hS18.bring 2 rfl
      have hS20 := hS19.takeN 2
      obtain rfl := Option.some.inj h
      exact ge_nil fun a hF => hQ _ _ _ (Outs.again ⟨hS20, hF.weaken ⟨by kernel_rfl, by kernel_rfl, by kernel_rfl, by kernel_rfl, by kernel_rfl, by kernel_rfl, by kernel_rfl, by kernel_rfl, trivial⟩⟩)
  · rw [if_neg hc2] at h
    refine we_known (t := 19) (b := decide ((i2 : Int) < (e1.Acts.length : Int))) (v := false) (by kernel_rfl) (decide_eq_false hc2) ?_
    refine we_false (by kernel_rfl) ?_
    have hS21 := hS.bring 1 rfl
    have hS22 := hS21.takeN 1
    obtain rfl := Option.some.inj h
    exact we_exit fun a hF => hQ _ _ _ (Outs.out nofun (Exits.here ⟨hS22, hF.weaken ⟨by kernel_rfl, by kernel_rfl, by kernel_rfl, by kernel_rfl, trivial⟩⟩))
abbrev locks_ceilings.A0 (K : Nat) (w0 : World) (Z : Zone) (l0 : List SLocked) (A0 : Option Addr) (c0 : Nat) (hZ : ∀ w, Sub w0 w → Z w) (hR0 : RdZ Z A0 l0) (hL0 : l0.length ≤ c0) (b1 : Nat) : (Nat × (List Int)) → Act → World → Prop := fun (s : Nat × (List Int)) a w => St w0 w [Own.of (.slice (some ⟨b1, 0, none⟩) s.2.length 4) 3 s.2] ∧ Frm 40 a [(3, (.slice (some ⟨b1, 0, none⟩) s.2.length 4)), (9, .slice A0 l0.length c0), (10, .int .i64 (l0.length : Int)), (11, .int .i64 (s.1 : Int))]
abbrev locks_ceilings.B0 (K : Nat) (w0 : World) (Z : Zone) (l0 : List SLocked) (A0 : Option Addr) (c0 : Nat) (hZ : ∀ w, Sub w0 w → Z w) (hR0 : RdZ Z A0 l0) (hL0 : l0.length ≤ c0) (b1 : Nat) : ((List Int) ⊕ (List Int)) → Exit → Act → World → Prop := Exits 0 (fun (s : (List Int)) a w => St w0 w [Own.of (.slice (some ⟨b1, 0, none⟩) s.length 4) 3 s] ∧ Frm 40 a [(3, (.slice (some ⟨b1, 0, none⟩) s.length 4))]) (Rets Tryd.prog Tryd.f60 (locks_ceilings.Post w0))
theorem locks_ceilings_r0 (K : Nat) (w0 : World) (Z : Zone) (l0 : List SLocked) (A0 : Option Addr) (c0 : Nat) (hZ : ∀ w, Sub w0 w → Z w) (hR0 : RdZ Z A0 l0) (hL0 : l0.length ≤ c0) (b1 : Nat) (s : Nat × (List Int)) (o : (Nat × (List Int)) ⊕ ((List Int) ⊕ (List Int))) (h : locks_ceilings.r0 K l0 s = some o) (a : Act) (w : World) (hA : locks_ceilings.A0 K w0 Z l0 A0 c0 hZ hR0 hL0 b1 s a w) (Q : Exit → Act → World → Prop) (hQ : ∀ x a w, Outs (locks_ceilings.A0 K w0 Z l0 A0 c0 hZ hR0 hL0 b1) (locks_ceilings.B0 K w0 Z l0 A0 c0 hZ hR0 hL0 b1) o x a w → Q x a w) : (subF Tryd.f60 [1, 1, 0, 1, 0, 0]).wp Tryd.prog Q a w := by
  obtain ⟨i1, m1⟩ := s
  obtain ⟨hS, hF⟩ := hA
  replace hS : St w0 w [Own.of (.slice (some ⟨b1, 0, none⟩) m1.length 4) 3 m1] := hS
  simp only [locks_ceilings.r0] at h
  refine (?_ : WE Tryd.prog 40 (subF Tryd.f60 [1, 1, 0, 1, 0, 0]) Q [(3, (.slice (some ⟨b1, 0, none⟩) m1.length 4)), (9, .slice A0 l0.length c0), (10, .int .i64 (l0.length : Int)), (11, .int .i64 (i1 : Int))] w) a hF
  clear hF a
  refine we_seq fun K5 hK5 => ?_
  refine we_region [(0, 0)] rfl ?_
  refine ge_batch [0] (ans := []) (vs := [(12, .bool (decide ((i1 : Int) < (l0.length : Int))))]) (l := []) (by kernel_rfl) trivial ?_
  refine ge_nil fun a hF => hK5 _ _ ?_ a hF
  refine we_seq fun K6 hK6 => ?_
  by_cases hc1 : (i1 : Int) < (l0.length : Int)
  · rw [if_pos hc1] at h
    refine we_known (t := 12) (b := decide ((i1 : Int) < (l0.length : Int))) (v := true) (by kernel_rfl) (decide_eq_true hc1) ?_
    refine we_true (by kernel_rfl) ?_
    refine we_skip fun a hF => hK6 _ _ ?_ a hF
    refine we_seq fun K7 hK7 => ?_
    refine we_block ?_
    refine we_seq fun K8 hK8 => ?_
    refine we_region [(0, 0), (1, 0), (2, 1), (3, 2)] rfl ?_
    rcases hx2 : l0[i1]? with _ | e1
    · rw [hx2] at h; cases h
    rw [hx2] at h
    simp only [] at h
    obtain ⟨An1, cn1, hCs1, hLn1, hRn1⟩ := SLocked.getZ hR0 hx2
    refine ge_index (d := 13) (ty := 0) (t := 23) (el := 34) (sz := 3) (m := l0.length) (c := c0) (x := (.tmp 9)) (y := (.tmp 11)) (A := A0) (k' := .i64) (j := (i1 : Int)) (jn := i1) (b0 := blkOf A0) (o0 := offOf A0) (by kernel_rfl) (by kernel_rfl) (by kernel_rfl) (by kernel_rfl) (by kernel_rfl) (hR0.eqSome (hZ _ hS.subw) (pos_of_get hx2)) rfl (lt_of_get hx2) ?_
    refine ge_batch [1] (ans := [.val (.int .i64 e1.At), .val (.int .i64 e1.P), .val (.slice An1 e1.Acts.length cn1)]) (vs := [(14, .agg #[.int .i64 e1.At, .int .i64 e1.P, .slice An1 e1.Acts.length cn1])]) (l := [.loaded ⟨blkOf A0, offOf A0 + i1 * 3, none⟩ (.int .i64 e1.At), .loaded ⟨blkOf A0, offOf A0 + i1 * 3 + 1, none⟩ (.int .i64 e1.P), .loaded ⟨blkOf A0, offOf A0 + i1 * 3 + 2, none⟩ (.slice An1 e1.Acts.length cn1)]) (by kernel_rfl) ⟨hCs1 _ (hZ _ hS.subw) 0 _ rfl, hCs1 _ (hZ _ hS.subw) 1 _ rfl, hCs1 _ (hZ _ hS.subw) 2 _ rfl, trivial⟩ ?_
    refine ge_new (d := some 5) (o := .cells #[.int .i64 0, .int .i64 0, .slice none 0 0] 34) (v := fun b => .pointer (some ⟨b, 0, none⟩)) hS (fun b => by kernel_rfl) fun b2 w2 hx3 hS4 => ?_
    refine ge_set (b := b2) (j := 0) (cs := #[.int .i64 0, .int .i64 0, .slice none 0 0]) (t := 34) (vs := [.int .i64 e1.At, .int .i64 e1.P, .slice An1 e1.Acts.length cn1]) hS4 (by kernel_rfl) rfl rfl fun w3 hS5 => ?_
    have hS6 := hS5.nc #[.int .i64 e1.At, .int .i64 e1.P, .slice An1 e1.Acts.length cn1] rfl
    refine ge_nil fun a hF => hK8 _ _ ?_ a hF
    refine we_seq fun K9 hK9 => ?_
    refine we_region [(0, 0), (1, 0), (2, 0), (3, 0)] rfl ?_
    refine ge_batch [0, 1, 2, 3] (ans := [.val (.slice An1 e1.Acts.length cn1)]) (vs := [(18, .int .i64 0), (17, .int .i64 (e1.Acts.length : Int)), (16, .slice An1 e1.Acts.length cn1), (15, .pointer (some ⟨b2, 2, none⟩))]) (l := [.loaded ⟨b2, 2, none⟩ (.slice An1 e1.Acts.length cn1)]) (by kernel_rfl) ⟨hS6.cell 0 rfl rfl, trivial⟩ ?_
    refine ge_nil fun a hF => hK9 _ _ ?_ a hF
    refine we_block ?_
    have hS7 := hS6.bring 1 rfl
    have hS8 := hS7.bring 1 rfl
    rcases hq1 : iter (locks_ceilings.r1 e1) K (0, m1) with _ | (m5 | rr1)
    · rw [hq1] at h; cases h
    · rw [hq1] at h
      simp only [] at h
      refine we_iter (A := locks_ceilings.A1 K w0 Z l0 A0 c0 hZ hR0 hL0 b1 i1 m1 hc1 e1 hx2 An1 cn1 hCs1 hLn1 hRn1 b2) (B := locks_ceilings.B1 K w0 Z l0 A0 c0 hZ hR0 hL0 b1 i1 m1 hc1 e1 hx2 An1 cn1 hCs1 hLn1 hRn1 b2) hq1 (fun a hF => ⟨hS8, hF.weaken ⟨by kernel_rfl, by kernel_rfl, by kernel_rfl, by kernel_rfl, by kernel_rfl, by kernel_rfl, by kernel_rfl, by kernel_rfl, trivial⟩⟩) (fun s o hf a w hA Q hQ => locks_ceilings_r1 K w0 Z l0 A0 c0 hZ hR0 hL0 b1 i1 m1 hc1 e1 hx2 An1 cn1 hCs1 hLn1 hRn1 b2 s o hf a w hA Q hQ) ?_
      rintro _ a w7 _ ⟨rfl, hS23, hF⟩
      replace hS23 : St w0 w7 [Own.of (.slice (some ⟨b1, 0, none⟩) m5.length 4) 3 m5] := hS23
      refine hK7 [(3, (.slice (some ⟨b1, 0, none⟩) m5.length 4)), (9, .slice A0 l0.length c0), (10, .int .i64 (l0.length : Int)), (11, .int .i64 (i1 : Int))] w7 ?_ a hF
      refine we_region [(0, 0), (1, 0)] rfl ?_
      refine ge_addn (d := 38) (ty := 3) (x := (.tmp 11)) (y := (.const (.int .i64 1))) (t := 3) (t2 := 3) (k := .i64) (m := i1) (by kernel_rfl) (by kernel_rfl) (by kernel_rfl) (by have h0 := RdZ.small hR0 (hZ _ hS23.subw); omega) ?_
      refine ge_batch [1] (ans := []) (vs := [(11, .int .i64 ((i1 + 1 : Nat) : Int))]) (l := []) (by kernel_rfl) trivial ?_
      obtain rfl := Option.some.inj h
      exact ge_nil fun a hF => hQ _ _ _ (Outs.again ⟨hS23, hF.weaken ⟨by kernel_rfl, by kernel_rfl, by kernel_rfl, by kernel_rfl, trivial⟩⟩)
    · rw [hq1] at h
      simp only [] at h
      refine we_iter (A := locks_ceilings.A1 K w0 Z l0 A0 c0 hZ hR0 hL0 b1 i1 m1 hc1 e1 hx2 An1 cn1 hCs1 hLn1 hRn1 b2) (B := locks_ceilings.B1 K w0 Z l0 A0 c0 hZ hR0 hL0 b1 i1 m1 hc1 e1 hx2 An1 cn1 hCs1 hLn1 hRn1 b2) hq1 (fun a hF => ⟨hS8, hF.weaken ⟨by kernel_rfl, by kernel_rfl, by kernel_rfl, by kernel_rfl, by kernel_rfl, by kernel_rfl, by kernel_rfl, by kernel_rfl, trivial⟩⟩) (fun s o hf a w hA Q hQ => locks_ceilings_r1 K w0 Z l0 A0 c0 hZ hR0 hL0 b1 i1 m1 hc1 e1 hx2 An1 cn1 hCs1 hLn1 hRn1 b2 s o hf a w hA Q hQ) ?_
      rintro _ a w1 _ ⟨rfl, hb⟩
      obtain rfl := Option.some.inj h
      exact hQ _ _ _ (Outs.out nofun (Exits.on ⟨rfl, hb⟩))
  · rw [if_neg hc1] at h
    refine we_known (t := 12) (b := decide ((i1 : Int) < (l0.length : Int))) (v := false) (by kernel_rfl) (decide_eq_false hc1) ?_
    refine we_false (by kernel_rfl) ?_
    obtain rfl := Option.some.inj h
    exact we_exit fun a hF => hQ _ _ _ (Outs.out nofun (Exits.here ⟨hS, hF.weaken ⟨by kernel_rfl, trivial⟩⟩))
theorem locks_ceilings_ok (K : Nat) (Z : Zone) (l0 : List SLocked) (A0 : Option Addr) (c0 : Nat) (w0 : World) (hZ : ∀ w, Sub w0 w → Z w) (hR0 : RdZ Z A0 l0) (hL0 : l0.length ≤ c0) (r : List Int) (h : locks_ceilings.f K l0 = some r) :
    Calls Tryd.prog 60 #[.slice A0 l0.length c0] w0 (locks_ceilings.Post w0 r) := by
  have hS := St.start w0
  unfold locks_ceilings.f at h
  refine calls_enter (n := 40) (args := [.slice A0 l0.length c0]) (fn := Tryd.f60) rfl rfl rfl rfl ?_
  show WE _ _ _ _ [(0, .slice A0 l0.length c0)] _
  refine we_seq fun K1 hK1 => ?_
  refine we_region [(0, 0)] rfl ?_
  refine ge_batch [0] (ans := []) (vs := [(2, .slice none 0 0)]) (l := []) (by kernel_rfl) trivial ?_
  refine ge_nil fun a hF => hK1 _ _ ?_ a hF
  refine we_seq fun K2 hK2 => ?_
  refine we_region [(0, 1), (1, 0)] rfl ?_
  refine ge_new (d := some 8) (o := .cells #[.int .i64 (-1), .int .i64 (-1), .int .i64 (-1), .int .i64 (-1)] 3) (v := fun b => .slice (some ⟨b, 0, none⟩) 4 4) hS (fun b => by kernel_rfl) fun b1 w1 hx1 hS1 => ?_
  have hS2 := hS1.asRow (α := Int) (c := 4) ([(-1), (-1), (-1), (-1)] : List Int) (Nat.le_refl _) (by decide) rfl rfl
  have hS3 : St w0 w1 [Own.of (.slice (some ⟨b1, 0, none⟩) ([(-1), (-1), (-1), (-1)] : List Int).length 4) 3 ([(-1), (-1), (-1), (-1)] : List Int)] := by exact hS2
  refine ge_same (t := 8) (v := .slice (some ⟨b1, 0, none⟩) 4 4) (v' := (.slice (some ⟨b1, 0, none⟩) ([(-1), (-1), (-1), (-1)] : List Int).length 4)) (by kernel_rfl) rfl ?_
  refine ge_batch [1] (ans := []) (vs := [(3, (.slice (some ⟨b1, 0, none⟩) ([(-1), (-1), (-1), (-1)] : List Int).length 4))]) (l := []) (by kernel_rfl) trivial ?_
  refine ge_nil fun a hF => hK2 _ _ ?_ a hF
  refine we_seq fun K3 hK3 => ?_
  refine we_seq fun K4 hK4 => ?_
  refine we_region [(0, 0), (1, 0), (2, 0)] rfl ?_
  refine ge_batch [0, 1, 2] (ans := []) (vs := [(11, .int .i64 0), (10, .int .i64 (l0.length : Int)), (9, .slice A0 l0.length c0)]) (l := []) (by kernel_rfl) trivial ?_
  refine ge_nil fun a hF => hK4 _ _ ?_ a hF
  refine we_block ?_
  rcases hq2 : iter (locks_ceilings.r0 K l0) K (0, ([(-1), (-1), (-1), (-1)] : List Int)) with _ | (m6 | rr2)
  · rw [hq2] at h; cases h
  · rw [hq2] at h
    simp only [] at h
    refine we_iter (A := locks_ceilings.A0 K w0 Z l0 A0 c0 hZ hR0 hL0 b1) (B := locks_ceilings.B0 K w0 Z l0 A0 c0 hZ hR0 hL0 b1) hq2 (fun a hF => ⟨hS3, hF.weaken ⟨by kernel_rfl, by kernel_rfl, by kernel_rfl, by kernel_rfl, trivial⟩⟩) (fun s o hf a w hA Q hQ => locks_ceilings_r0 K w0 Z l0 A0 c0 hZ hR0 hL0 b1 s o hf a w hA Q hQ) ?_
    rintro _ a w8 _ ⟨rfl, hS24, hF⟩
    replace hS24 : St w0 w8 [Own.of (.slice (some ⟨b1, 0, none⟩) m6.length 4) 3 m6] := hS24
    refine hK3 [(3, (.slice (some ⟨b1, 0, none⟩) m6.length 4))] w8 ?_ a hF
    refine we_seq fun K15 hK15 => ?_
    refine we_region [(0, 0), (1, 0)] rfl ?_
    refine ge_batch [0, 1] (ans := []) (vs := [(2, (.slice (some ⟨b1, 0, none⟩) m6.length 4)), (39, (.slice (some ⟨b1, 0, none⟩) m6.length 4))]) (l := []) (by kernel_rfl) trivial ?_
    refine ge_nil fun a hF => hK15 _ _ ?_ a hF
    obtain rfl := Option.some.inj h
    exact we_ret (post_ret (rs := [.tmp 2]) (ans := []) (vs := [(.slice (some ⟨b1, 0, none⟩) m6.length 4)]) (l := []) rfl (by kernel_rfl) trivial ⟨(.slice (some ⟨b1, 0, none⟩) m6.length 4), rfl, hS24⟩)
  · rw [hq2] at h
    simp only [] at h
    refine we_iter (A := locks_ceilings.A0 K w0 Z l0 A0 c0 hZ hR0 hL0 b1) (B := locks_ceilings.B0 K w0 Z l0 A0 c0 hZ hR0 hL0 b1) hq2 (fun a hF => ⟨hS3, hF.weaken ⟨by kernel_rfl, by kernel_rfl, by kernel_rfl, by kernel_rfl, trivial⟩⟩) (fun s o hf a w hA Q hQ => locks_ceilings_r0 K w0 Z l0 A0 c0 hZ hR0 hL0 b1 s o hf a w hA Q hQ) ?_
    rintro _ a w1 _ ⟨rfl, hb⟩
    obtain rfl := Option.some.inj h
    exact hb

/-! punctual/locks.Ceilings -/
abbrev locks_Ceilings.Post (w0 : World) (r : (List Int) × SFault) (e : Ending) (w : World) : Prop := ∃ (v0 : Value), e = .returned (.tuple #[v0, .agg #[.int .i64 r.2.Code, .int .i64 r.2.At]]) ∧ St w0 w [Own.of v0 3 r.1]
def locks_Ceilings.f (K : Nat) (l0 : List SLocked) : Option ((List Int) × SFault) :=
  match locks_checkAll.f K l0 with
  | none => none
  | some r1 =>
    if r1.Code = 0 then
      match locks_ceilings.f K l0 with
      | none => none
      | some r2 =>
        some (r2, (⟨0, 0⟩ : SFault))
    else
      some (([] : List Int), r1)
theorem locks_Ceilings_ok (K : Nat) (Z : Zone) (l0 : List SLocked) (A0 : Option Addr) (c0 : Nat) (w0 : World) (hZ : ∀ w, Sub w0 w → Z w) (hR0 : RdZ Z A0 l0) (hL0 : l0.length ≤ c0) (r : (List Int) × SFault) (h : locks_Ceilings.f K l0 = some r) :
    Calls Tryd.prog 10 #[.slice A0 l0.length c0] w0 (locks_Ceilings.Post w0 r) := by
  have hS := St.start w0
  unfold locks_Ceilings.f at h
  refine calls_enter (n := 14) (args := [.slice A0 l0.length c0]) (fn := Tryd.f10) rfl rfl rfl rfl ?_
  show WE _ _ _ _ [(0, .slice A0 l0.length c0)] _
  refine we_seq fun K1 hK1 => ?_
  refine we_region [(0, 0), (1, 1)] rfl ?_
  refine ge_batch [0] (ans := []) (vs := [(2, .slice none 0 0)]) (l := []) (by kernel_rfl) trivial ?_
  refine ge_new (d := some 3) (o := .cells #[.int .i64 0, .int .i64 0] 27) (v := fun b => .pointer (some ⟨b, 0, none⟩)) hS (fun b => by kernel_rfl) fun b1 w1 hx1 hS1 => ?_
  refine ge_nil fun a hF => hK1 _ _ ?_ a hF
  refine we_seq fun K2 hK2 => ?_
  refine we_seq fun K3 hK3 => ?_
  refine we_region [(0, 0), (1, 1), (2, 1), (3, 2)] rfl ?_
  rcases hq1 : locks_checkAll.f K l0 with _ | r1
  · rw [hq1] at h; cases h
  rw [hq1] at h
  simp only [] at h
  refine ge_batch [0] (ans := []) (vs := [(5, .slice A0 l0.length c0)]) (l := []) (by kernel_rfl) trivial ?_
  refine ge_call (d := some 6) (f := 59) (args := #[.slice A0 l0.length c0]) (by kernel_rfl) (locks_checkAll_ok K Z l0 A0 c0 _ (fun w' k => (hZ w' (hS1.subw.trans k))) hR0 hL0 _ hq1) ?_
  rintro _ w2 ⟨rfl, hS2⟩
  refine ⟨_, rfl, hS2.below, ?_⟩
  have hS3 := hS1.call hS2
  refine ge_new (d := some 4) (o := .cells #[.int .i64 0, .int .i64 0] 27) (v := fun b => .pointer (some ⟨b, 0, none⟩)) hS3 (fun b => by kernel_rfl) fun b2 w3 hx2 hS4 => ?_
  refine ge_set (b := b2) (j := 0) (cs := #[.int .i64 0, .int .i64 0]) (t := 27) (vs := [.int .i64 r1.Code, .int .i64 r1.At]) hS4 (by kernel_rfl) rfl rfl fun w4 hS5 => ?_
  have hS6 := hS5.nc #[.int .i64 r1.Code, .int .i64 r1.At] rfl
  refine ge_nil fun a hF => hK3 _ _ ?_ a hF
  refine we_seq fun K4 hK4 => ?_
  refine we_region [(0, 0), (1, 0), (2, 0)] rfl ?_
  refine ge_batch [0, 1, 2] (ans := [.val (.int .i64 r1.Code)]) (vs := [(9, .bool (r1.Code != 0)), (8, .int .i64 r1.Code), (7, .pointer (some ⟨b2, 0, none⟩))]) (l := [.loaded ⟨b2, 0, none⟩ (.int .i64 r1.Code)]) (by kernel_rfl) ⟨hS6.cell 0 rfl rfl, trivial⟩ ?_
  refine ge_nil fun a hF => hK4 _ _ ?_ a hF
  by_cases hc1 : r1.Code = 0
  · rw [if_pos hc1] at h
    refine we_known (t := 9) (b := (r1.Code != 0)) (v := false) (by kernel_rfl) (bne_eq_false_iff_eq.2 hc1) ?_
    refine we_false (by kernel_rfl) ?_
    refine we_skip fun a hF => hK2 _ _ ?_ a hF
    refine we_seq fun K5 hK5 => ?_
    refine we_region [(0, 0), (1, 1), (2, 0), (3, 0), (4, 2)] rfl ?_
    rcases hq2 : locks_ceilings.f K l0 with _ | r2
    · rw [hq2] at h; cases h
    rw [hq2] at h
    simp only [] at h
    refine ge_batch [0] (ans := []) (vs := [(11, .slice A0 l0.length c0)]) (l := []) (by kernel_rfl) trivial ?_
    refine ge_call (d := some 12) (f := 60) (args := #[.slice A0 l0.length c0]) (by kernel_rfl) (locks_ceilings_ok K Z l0 A0 c0 _ (fun w' k => (hZ w' (hS6.subw.trans k))) hR0 hL0 _ hq2) ?_
    rintro _ w5 ⟨v1, rfl, hS7⟩
    refine ⟨_, rfl, hS7.below, ?_⟩
    have hS8 := hS6.call hS7
    refine ge_batch [2, 3] (ans := []) (vs := [(2, v1), (13, .agg #[.int .i64 0, .int .i64 0])]) (l := []) (by kernel_rfl) trivial ?_
    have hS9 := hS8.bring 2 rfl
    refine ge_set (b := b1) (j := 0) (cs := #[.int .i64 0, .int .i64 0]) (t := 27) (vs := [.int .i64 0, .int .i64 0]) hS9 (by kernel_rfl) rfl rfl fun w6 hS10 => ?_
    have hS11 := hS10.nc #[.int .i64 0, .int .i64 0] rfl
    refine ge_nil fun a hF => hK5 _ _ ?_ a hF
    have hS12 := hS11.bring 1 rfl
    have hS13 := hS12.takeN 1
    obtain rfl := Option.some.inj h
    exact we_ret (post_ret (rs := [.tmp 2, .cell 3 27]) (ans := [.val (.int .i64 0), .val (.int .i64 0)]) (vs := [v1, .agg #[.int .i64 0, .int .i64 0]]) (l := [.loaded ⟨b1, 0, none⟩ (.int .i64 0), .loaded ⟨b1, 1, none⟩ (.int .i64 0)]) rfl (by kernel_rfl) ⟨hS11.cell 0 rfl rfl, hS11.cell 0 rfl rfl, trivial⟩ ⟨v1, rfl, hS13⟩)
  · rw [if_neg hc1] at h
    refine we_known (t := 9) (b := (r1.Code != 0)) (v := true) (by kernel_rfl) (bne_iff_ne.2 hc1) ?_
    refine we_true (by kernel_rfl) ?_
    refine we_seq fun K6 hK6 => ?_
    refine we_draws (by kernel_rfl) [(0, 0), (1, 0), (2, 2)] (by kernel_rfl) ?_
    have hS14 := hS6.drew
    refine ge_batch [0, 1] (ans := [.val (.int .i64 r1.Code), .val (.int .i64 r1.At)]) (vs := [(2, .slice none 0 0), (10, .agg #[.int .i64 r1.Code, .int .i64 r1.At])]) (l := [.loaded ⟨b2, 0, none⟩ (.int .i64 r1.Code), .loaded ⟨b2, 1, none⟩ (.int .i64 r1.At)]) (by kernel_rfl) ⟨hS14.cell 0 rfl rfl, hS14.cell 0 rfl rfl, trivial⟩ ?_
    have hS15 := hS14.bring 1 rfl
    refine ge_set (b := b1) (j := 0) (cs := #[.int .i64 0, .int .i64 0]) (t := 27) (vs := [.int .i64 r1.Code, .int .i64 r1.At]) hS15 (by kernel_rfl) rfl rfl fun w7 hS16 => ?_
    have hS17 := hS16.nc #[.int .i64 r1.Code, .int .i64 r1.At] rfl
    refine ge_nil fun a hF => hK6 _ _ ?_ a hF
    have hS18 := hS17.nil (α := Int) 3
    have hS19 := hS18.takeN 1
    obtain rfl := Option.some.inj h
    exact we_ret (post_ret (rs := [.tmp 2, .cell 3 27]) (ans := [.val (.int .i64 r1.Code), .val (.int .i64 r1.At)]) (vs := [(.slice none 0 0), .agg #[.int .i64 r1.Code, .int .i64 r1.At]]) (l := [.loaded ⟨b1, 0, none⟩ (.int .i64 r1.Code), .loaded ⟨b1, 1, none⟩ (.int .i64 r1.At)]) rfl (by kernel_rfl) ⟨hS18.cell 1 rfl rfl, hS18.cell 1 rfl rfl, trivial⟩ ⟨(.slice none 0 0), rfl, hS19⟩)

/-! punctual/locks.Longest -/
abbrev locks_Longest.Post (w0 : World) (r : Int × SFault) (e : Ending) (w : World) : Prop := e = .returned (.tuple #[.int .i64 r.1, .agg #[.int .i64 r.2.Code, .int .i64 r.2.At]]) ∧ St w0 w []
def locks_Longest.r0 (l0 : List SAct) : Int × Int × Int × Nat → Option ((Int × Int × Int × Nat) ⊕ (Int ⊕ (Int × SFault)))
  | (z1, z2, z3, i1) =>
    if (i1 : Int) < (l0.length : Int) then
      match l0[i1]? with
      | none => none
      | some e1 =>
        if e1.Do = 1 then
          if z3 > 0 then
            some (.inl (z1, IntKind.i64.wrap (z2 + e1.N), z3, (i1 + 1)))
          else
            some (.inl (z1, z2, z3, (i1 + 1)))
        else
          if e1.Do = 2 then
            some (.inl (z1, z2, IntKind.i64.wrap (z3 + 1), (i1 + 1)))
          else
            if e1.Do = 3 then
              if (IntKind.i64.wrap (z3 - 1)) = 0 then
                some (.inl (gmax z1 z2, 0, IntKind.i64.wrap (z3 - 1), (i1 + 1)))
              else
                some (.inl (z1, z2, IntKind.i64.wrap (z3 - 1), (i1 + 1)))
            else
              some (.inl (z1, z2, z3, (i1 + 1)))
    else
      some (.inr (.inl z1))
def locks_Longest.f (K : Nat) (l0 : List SAct) : Option (Int × SFault) :=
  match locks_Check.f K l0 with
  | none => none
  | some r1 =>
    if r1.Code = 0 then
      match iter (locks_Longest.r0 l0) K (0, 0, 0, 0) with
      | none => none
      | some (.inl z5) =>
        some (z5, (⟨0, 0⟩ : SFault))
      | some (.inr rr1) =>
        some rr1
    else
      some (0, r1)
abbrev locks_Longest.A0 (K : Nat) (w0 : World) (l0 : List SAct) (A0 : Option Addr) (c0 : Nat) (hR0 : RdL w0 A0 l0) (hL0 : l0.length ≤ c0) (b1 : Nat) (r1 : SFault) (b2 : Nat) (hc1 : r1.Code = 0) : (Int × Int × Int × Nat) → Act → World → Prop := fun (s : Int × Int × Int × Nat) a w => St w0 w [Own.blk b1 (.cells #[.int .i64 0, .int .i64 0] 27 (0, 0))] ∧ Frm 48 a [(3, .pointer (some ⟨b1, 0, none⟩)), (5, .int .i64 s.1), (6, .int .i64 s.2.1), (7, .int .i64 s.2.2.1), (16, .slice A0 l0.length c0), (17, .int .i64 (l0.length : Int)), (18, .int .i64 (s.2.2.2 : Int))]
abbrev locks_Longest.B0 (K : Nat) (w0 : World) (l0 : List SAct) (A0 : Option Addr) (c0 : Nat) (hR0 : RdL w0 A0 l0) (hL0 : l0.length ≤ c0) (b1 : Nat) (r1 : SFault) (b2 : Nat) (hc1 : r1.Code = 0) : (Int ⊕ (Int × SFault)) → Exit → Act → World → Prop := Exits 0 (fun (s : Int) a w => St w0 w [Own.blk b1 (.cells #[.int .i64 0, .int .i64 0] 27 (0, 0))] ∧ Frm 48 a [(3, .pointer (some ⟨b1, 0, none⟩)), (5, .int .i64 s)]) (Rets Tryd.prog Tryd.f12 (locks_Longest.Post w0))
theorem locks_Longest_r0 (K : Nat) (w0 : World) (l0 : List SAct) (A0 : Option Addr) (c0 : Nat) (hR0 : RdL w0 A0 l0) (hL0 : l0.length ≤ c0) (b1 : Nat) (r1 : SFault) (b2 : Nat) (hc1 : r1.Code = 0) (s : Int × Int × Int × Nat) (o : (Int × Int × Int × Nat) ⊕ (Int ⊕ (Int × SFault))) (h : locks_Longest.r0 l0 s = some o) (a : Act) (w : World) (hA : locks_Longest.A0 K w0 l0 A0 c0 hR0 hL0 b1 r1 b2 hc1 s a w) (Q : Exit → Act → World → Prop) (hQ : ∀ x a w, Outs (locks_Longest.A0 K w0 l0 A0 c0 hR0 hL0 b1 r1 b2 hc1) (locks_Longest.B0 K w0 l0 A0 c0 hR0 hL0 b1 r1 b2 hc1) o x a w → Q x a w) : (subF Tryd.f12 [1, 1, 1, 0, 1, 0, 0]).wp Tryd.prog Q a w := by
  obtain ⟨z1, z2, z3, i1⟩ := s
  obtain ⟨hS, hF⟩ := hA
  replace hS : St w0 w [Own.blk b1 (.cells #[.int .i64 0, .int .i64 0] 27 (0, 0))] := hS
  simp only [locks_Longest.r0] at h
  refine (?_ : WE Tryd.prog 48 (subF Tryd.f12 [1, 1, 1, 0, 1, 0, 0]) Q [(3, .pointer (some ⟨b1, 0, none⟩)), (5, .int .i64 z1), (6, .int .i64 z2), (7, .int .i64 z3), (16, .slice A0 l0.length c0), (17, .int .i64 (l0.length : Int)), (18, .int .i64 (i1 : Int))] w) a hF
  clear hF a
  refine we_seq fun K8 hK8 => ?_
  refine we_region [(0, 0)] rfl ?_
  refine ge_batch [0] (ans := []) (vs := [(19, .bool (decide ((i1 : Int) < (l0.length : Int))))]) (l := []) (by kernel_rfl) trivial ?_
  refine ge_nil fun a hF => hK8 _ _ ?_ a hF
  refine we_seq fun K9 hK9 => ?_
  by_cases hc2 : (i1 : Int) < (l0.length : Int)
  · rw [if_pos hc2] at h
    refine we_known (t := 19) (b := decide ((i1 : Int) < (l0.length : Int))) (v := true) (by kernel_rfl) (decide_eq_true hc2) ?_
    refine we_true (by kernel_rfl) ?_
    refine we_skip fun a hF => hK9 _ _ ?_ a hF
    refine we_seq fun K10 hK10 => ?_
    refine we_block ?_
    refine we_seq fun K11 hK11 => ?_
    refine we_region [(0, 0), (1, 0), (2, 1), (3, 2)] rfl ?_
    rcases hx3 : l0[i1]? with _ | e1
    · rw [hx3] at h; cases h
    rw [hx3] at h
    simp only [] at h
    refine ge_index (d := 20) (ty := 0) (t := 22) (el := 39) (sz := 2) (m := l0.length) (c := c0) (x := (.tmp 16)) (y := (.tmp 18)) (A := A0) (k' := .i64) (j := (i1 : Int)) (jn := i1) (b0 := blkOf A0) (o0 := offOf A0) (by kernel_rfl) (by kernel_rfl) (by kernel_rfl) (by kernel_rfl) (by kernel_rfl) ((hS.rd hR0).eqSome (pos_of_get hx3)) rfl (lt_of_get hx3) ?_
    refine ge_batch [1] (ans := [.val (.int .i64 e1.Do), .val (.int .i64 e1.N)]) (vs := [(21, .agg #[.int .i64 e1.Do, .int .i64 e1.N])]) (l := [.loaded ⟨blkOf A0, offOf A0 + i1 * 2, none⟩ (.int .i64 e1.Do), .loaded ⟨blkOf A0, offOf A0 + i1 * 2 + 1, none⟩ (.int .i64 e1.N)]) (by kernel_rfl) ⟨RdL.cell (j := 0) (hS.rd hR0) hx3 rfl, RdL.cell (j := 1) (hS.rd hR0) hx3 rfl, trivial⟩ ?_
    refine ge_new (d := some 9) (o := .cells #[.int .i64 0, .int .i64 0] 39) (v := fun b => .pointer (some ⟨b, 0, none⟩)) hS (fun b => by kernel_rfl) fun b3 w5 hx4 hS9 => ?_
    refine ge_set (b := b3) (j := 0) (cs := #[.int .i64 0, .int .i64 0]) (t := 39) (vs := [.int .i64 e1.Do, .int .i64 e1.N]) hS9 (by kernel_rfl) rfl rfl fun w6 hS10 => ?_
    have hS11 := hS10.nc #[.int .i64 e1.Do, .int .i64 e1.N] rfl
    refine ge_nil fun a hF => hK11 _ _ ?_ a hF
    refine we_seq fun K12 hK12 => ?_
    refine we_region [(0, 0), (1, 0)] rfl ?_
    refine ge_batch [0, 1] (ans := [.val (.int .i64 e1.Do)]) (vs := [(23, .int .i64 e1.Do), (22, .pointer (some ⟨b3, 0, none⟩))]) (l := [.loaded ⟨b3, 0, none⟩ (.int .i64 e1.Do)]) (by kernel_rfl) ⟨hS11.cell 0 rfl rfl, trivial⟩ ?_
    refine ge_nil fun a hF => hK12 _ _ ?_ a hF
    refine we_block ?_
    refine we_seq fun K13 hK13 => ?_
    refine we_region [(0, 0), (1, 0)] rfl ?_
    refine ge_batch [0, 1] (ans := []) (vs := [(24, .bool (e1.Do == 1)), (25, .bool (e1.Do == 1))]) (l := []) (by kernel_rfl) trivial ?_
    refine ge_nil fun a hF => hK13 _ _ ?_ a hF
    by_cases hc3 : e1.Do = 1
    · rw [if_pos hc3] at h
      refine we_known (t := 24) (b := (e1.Do == 1)) (v := true) (by kernel_rfl) (beq_iff_eq.2 hc3) ?_
      refine we_true (by kernel_rfl) ?_
      refine we_seq fun K14 hK14 => ?_
      refine we_region [(0, 0), (1, 0)] rfl ?_
      refine ge_batch [0, 1] (ans := []) (vs := [(27, .bool (decide (z3 > 0))), (26, .int .i64 z3)]) (l := []) (by kernel_rfl) trivial ?_
      refine ge_nil fun a hF => hK14 _ _ ?_ a hF
      by_cases hc4 : z3 > 0
      · rw [if_pos hc4] at h
        refine we_known (t := 27) (b := decide (z3 > 0)) (v := true) (by kernel_rfl) (decide_eq_true hc4) ?_
        refine we_true (by kernel_rfl) ?_
        refine we_region [(0, 0), (1, 0), (2, 0), (3, 0), (4, 0)] rfl ?_
        refine ge_batch [0, 1, 2, 3, 4] (ans := [.val (.int .i64 e1.N)]) (vs := [(6, .int .i64 (IntKind.i64.wrap (z2 + e1.N))), (31, .int .i64 (IntKind.i64.wrap (z2 + e1.N))), (30, .int .i64 e1.N), (29, .pointer (some ⟨b3, 1, none⟩)), (28, .int .i64 z2)]) (l := [.loaded ⟨b3, 1, none⟩ (.int .i64 e1.N)]) (by kernel_rfl) ⟨hS11.cell 0 rfl rfl, trivial⟩ ?_
        refine ge_nil fun a hF => hK10 _ _ ?_ a hF
        refine we_region [(0, 0), (1, 0)] rfl ?_
        refine ge_addn (d := 45) (ty := 3) (x := (.tmp 18)) (y := (.const (.int .i64 1))) (t := 3) (t2 := 3) (k := .i64) (m := i1) (by kernel_rfl) (by kernel_rfl) (by kernel_rfl) (by have h0 := hR0.small; omega) ?_
        refine ge_batch [1] (ans := []) (vs := [(18, .int .i64 ((i1 + 1 : Nat) : Int))]) (l := []) (by kernel_rfl) trivial ?_
        have hS12 := hS11.bring 1 rfl
        have hS13 := hS12.takeN 1
        obtain rfl := Option.some.inj h
        exact ge_nil fun a hF => hQ _ _ _ (Outs.again ⟨hS13, hF.weaken ⟨by kernel_rfl, by kernel_rfl, by kernel_rfl, by kernel_rfl, by kernel_rfl, by kernel_rfl, by kernel_rfl, trivial⟩⟩)
      · rw [if_neg hc4] at h
        refine we_known (t := 27) (b := decide (z3 > 0)) (v := false) (by kernel_rfl) (decide_eq_false hc4) ?_
        refine we_false (by kernel_rfl) ?_
        refine we_skip fun a hF => hK10 _ _ ?_ a hF
        refine we_region [(0, 0), (1, 0)] rfl ?_
        refine ge_addn (d := 45) (ty := 3) (x := (.tmp 18)) (y := (.const (.int .i64 1))) (t := 3) (t2 := 3) (k := .i64) (m := i1) (by kernel_rfl) (by kernel_rfl) (by kernel_rfl) (by have h0 := hR0.small; omega) ?_
        refine ge_batch [1] (ans := []) (vs := [(18, .int .i64 ((i1 + 1 : Nat) : Int))]) (l := []) (by kernel_rfl) trivial ?_
        have hS14 := hS11.bring 1 rfl
        have hS15 := hS14.takeN 1
        obtain rfl := Option.some.inj h
        exact ge_nil fun a hF => hQ _ _ _ (Outs.again ⟨hS15, hF.weaken ⟨by kernel_rfl, by kernel_rfl, by kernel_rfl, by kernel_rfl, by kernel_rfl, by kernel_rfl, by kernel_rfl, trivial⟩⟩)
    · rw [if_neg hc3] at h
      refine we_known (t := 24) (b := (e1.Do == 1)) (v := false) (by kernel_rfl) (beq_eq_false_iff_ne.2 hc3) ?_
      refine we_false (by kernel_rfl) ?_
      refine we_seq fun K15 hK15 => ?_
      refine we_region [(0, 0), (1, 0)] rfl ?_
      refine ge_batch [0, 1] (ans := []) (vs := [(32, .bool (e1.Do == 2)), (33, .bool (e1.Do == 2))]) (l := []) (by kernel_rfl) trivial ?_
      refine ge_nil fun a hF => hK15 _ _ ?_ a hF
      by_cases hc5 : e1.Do = 2
      · rw [if_pos hc5] at h
        refine we_known (t := 32) (b := (e1.Do == 2)) (v := true) (by kernel_rfl) (beq_iff_eq.2 hc5) ?_
        refine we_true (by kernel_rfl) ?_
        refine we_region [(0, 0), (1, 0), (2, 0)] rfl ?_
        refine ge_batch [0, 1, 2] (ans := []) (vs := [(7, .int .i64 (IntKind.i64.wrap (z3 + 1))), (35, .int .i64 (IntKind.i64.wrap (z3 + 1))), (34, .int .i64 z3)]) (l := []) (by kernel_rfl) trivial ?_
        refine ge_nil fun a hF => hK10 _ _ ?_ a hF
        refine we_region [(0, 0), (1, 0)] rfl ?_
        refine ge_addn (d := 45) (ty := 3) (x := (.tmp 18)) (y := (.const (.int .i64 1))) (t := 3) (t2 := 3) (k := .i64) (m := i1) (by kernel_rfl) (by kernel_rfl) (by kernel_rfl) (by have h0 := hR0.small; omega) ?_
        refine ge_batch [1] (ans := []) (vs := [(18, .int .i64 ((i1 + 1 : Nat) : Int))]) (l := []) (by kernel_rfl) trivial ?_
        have hS16 := hS11.bring 1 rfl
        have hS17 := hS16.takeN 1
        obtain rfl := Option.some.inj h
        exact ge_nil fun a hF => hQ _ _ _ (Outs.again ⟨hS17, hF.weaken ⟨by kernel_rfl, by kernel_rfl, by kernel_rfl, by kernel_rfl, by kernel_rfl, by kernel_rfl, by kernel_rfl, trivial⟩⟩)
      · rw [if_neg hc5] at h
        refine we_known (t := 32) (b := (e1.Do == 2)) (v := false) (by kernel_rfl) (beq_eq_false_iff_ne.2 hc5) ?_
        refine we_false (by kernel_rfl) ?_
        refine we_seq fun K16 hK16 => ?_
        refine we_region [(0, 0), (1, 0)] rfl ?_
        refine ge_batch [0, 1] (ans := []) (vs := [(36, .bool (e1.Do == 3)), (37, .bool (e1.Do == 3))]) (l := []) (by kernel_rfl) trivial ?_
        refine ge_nil fun a hF => hK16 _ _ ?_ a hF
        by_cases hc6 : e1.Do = 3
        · rw [if_pos hc6] at h
          refine we_known (t := 36) (b := (e1.Do == 3)) (v := true) (by kernel_rfl) (beq_iff_eq.2 hc6) ?_
          refine we_true (by kernel_rfl) ?_
          refine we_seq fun K17 hK17 => ?_
          refine we_region [(0, 0), (1, 0), (2, 0)] rfl ?_
          refine ge_batch [0, 1, 2] (ans := []) (vs := [(7, .int .i64 (IntKind.i64.wrap (z3 - 1))), (39, .int .i64 (IntKind.i64.wrap (z3 - 1))), (38, .int .i64 z3)]) (l := []) (by kernel_rfl) trivial ?_
          refine ge_nil fun a hF => hK17 _ _ ?_ a hF
          refine we_seq fun K18 hK18 => ?_
          refine we_region [(0, 0), (1, 0)] rfl ?_
          refine ge_batch [0, 1] (ans := []) (vs := [(41, .bool ((IntKind.i64.wrap (z3 - 1)) == 0)), (40, .int .i64 (IntKind.i64.wrap (z3 - 1)))]) (l := []) (by kernel_rfl) trivial ?_
          refine ge_nil fun a hF => hK18 _ _ ?_ a hF
          by_cases hc7 : (IntKind.i64.wrap (z3 - 1)) = 0
          · rw [if_pos hc7] at h
            refine we_known (t := 41) (b := ((IntKind.i64.wrap (z3 - 1)) == 0)) (v := true) (by kernel_rfl) (beq_iff_eq.2 hc7) ?_
            refine we_true (by kernel_rfl) ?_
            refine we_region [(0, 0), (1, 0), (2, 0), (3, 0), (4, 0)] rfl ?_
            refine ge_batch [0, 1, 2, 3, 4] (ans := []) (vs := [(6, .int .i64 0), (5, .int .i64 (gmax z1 z2)), (44, .int .i64 (gmax z1 z2)), (43, .int .i64 z2), (42, .int .i64 z1)]) (l := []) (by kernel_rfl) trivial ?_
            refine ge_nil fun a hF => hK10 _ _ ?_ a hF
            refine we_region [(0, 0), (1, 0)] rfl ?_
            refine ge_addn (d := 45) (ty := 3) (x := (.tmp 18)) (y := (.const (.int .i64 1))) (t := 3) (t2 := 3) (k := .i64) (m := i1) (by kernel_rfl) (by kernel_rfl) (by kernel_rfl) (by have h0 := hR0.small; omega) ?_
            refine ge_batch [1] (ans := []) (vs := [(18, .int .i64 ((i1 + 1 : Nat) : Int))]) (l := []) (by kernel_rfl) trivial ?_
            have hS18 := hS11.bring 1 rfl
            have hS19 := hS18.takeN 1
            obtain rfl := Option.some.inj h
            exact ge_nil fun a hF => hQ _ _ _ (Outs.again ⟨hS19, hF.weaken ⟨by kernel_rfl, by kernel_rfl, by kernel_rfl, by kernel_rfl, by kernel_rfl, by kernel_rfl, by kernel_rfl, trivial⟩⟩)
          · rw [if_neg hc7] at h
            refine we_known (t := 41) (b := ((IntKind.i64.wrap (z3 - 1)) == 0)) (v := false) (by kernel_rfl) (beq_eq_false_iff_ne.2 hc7) ?_
            refine we_false (by kernel_rfl) ?_
            refine we_skip fun a hF => hK10 _ _ ?_ a hF
            refine we_region [(0, 0), (1, 0)] rfl ?_
            refine ge_addn (d := 45) (ty := 3) (x := (.tmp 18)) (y := (.const (.int .i64 1))) (t := 3) (t2 := 3) (k := .i64) (m := i1) (by kernel_rfl) (by kernel_rfl) (by kernel_rfl) (by have h0 := hR0.small; omega) ?_
            refine ge_batch [1] (ans := []) (vs := [(18, .int .i64 ((i1 + 1 : Nat) : Int))]) (l := []) (by kernel_rfl) trivial ?_
            have hS20 := hS11.bring 1 rfl
            have hS21 := hS20.takeN 1
            obtain rfl := Option.some.inj h
            exact ge_nil fun a hF => hQ _ _ _ (Outs.again ⟨hS21, hF.weaken ⟨by kernel_rfl, by kernel_rfl, by kernel_rfl, by kernel_rfl, by kernel_rfl, by kernel_rfl, by kernel_rfl, trivial⟩⟩)
        · rw [if_neg hc6] at h
          refine we_known (t := 36) (b := (e1.Do == 3)) (v := false) (by kernel_rfl) (beq_eq_false_iff_ne.2 hc6) ?_
          refine we_false (by kernel_rfl) ?_
          refine we_skip fun a hF => hK10 _ _ ?_ a hF
          refine we_region [(0, 0), (1, 0)] rfl ?_
          refine ge_addn (d := 45) (ty := 3) (x := (.tmp 18)) (y := (.const (.int .i64 1))) (t := 3) (t2 := 3) (k := .i64) (m := i1) (by kernel_rfl) (by kernel_rfl) (by kernel_rfl) (by have h0 := hR0.small; omega) ?_
          refine ge_batch [1] (ans := []) (vs := [(18, .int .i64 ((i1 + 1 : Nat) : Int))]) (l := []) (by kernel_rfl) trivial ?_
          have hS22 := hS11.bring 1 rfl
          have hS23 := hS22.takeN 1
          obtain rfl := Option.some.inj h
          exact ge_nil fun a hF => hQ _ _ _ (Outs.again ⟨hS23, hF.weaken ⟨by kernel_rfl, by kernel_rfl, by kernel_rfl, by kernel_rfl, by kernel_rfl, by kernel_rfl, by kernel_rfl, trivial⟩⟩)
  · rw [if_neg hc2] at h
    refine we_known (t := 19) (b := decide ((i1 : Int) < (l0.length : Int))) (v := false) (by kernel_rfl) (decide_eq_false hc2) ?_
    refine we_false (by kernel_rfl) ?_
    obtain rfl := Option.some.inj h
    exact we_exit fun a hF => hQ _ _ _ (Outs.out nofun (Exits.here ⟨hS, hF.weaken ⟨by kernel_rfl, by kernel_rfl, trivial⟩⟩))
theorem locks_Longest_ok (K : Nat) (l0 : List SAct) (A0 : Option Addr) (c0 : Nat) (w0 : World) (hR0 : RdL w0 A0 l0) (hL0 : l0.length ≤ c0) (r : Int × SFault) (h : locks_Longest.f K l0 = some r) :
    Calls Tryd.prog 12 #[.slice A0 l0.length c0] w0 (locks_Longest.Post w0 r) := by
  have hS := St.start w0
  unfold locks_Longest.f at h
  refine calls_enter (n := 48) (args := [.slice A0 l0.length c0]) (fn := Tryd.f12) rfl rfl rfl rfl ?_
  show WE _ _ _ _ [(0, .slice A0 l0.length c0)] _
  refine we_seq fun K1 hK1 => ?_
  refine we_region [(0, 0), (1, 1)] rfl ?_
  refine ge_batch [0] (ans := []) (vs := [(2, .int .i64 0)]) (l := []) (by kernel_rfl) trivial ?_
  refine ge_new (d := some 3) (o := .cells #[.int .i64 0, .int .i64 0] 27) (v := fun b => .pointer (some ⟨b, 0, none⟩)) hS (fun b => by kernel_rfl) fun b1 w1 hx1 hS1 => ?_
  refine ge_nil fun a hF => hK1 _ _ ?_ a hF
  refine we_seq fun K2 hK2 => ?_
  refine we_seq fun K3 hK3 => ?_
  refine we_region [(0, 0), (1, 1), (2, 1), (3, 2)] rfl ?_
  rcases hq1 : locks_Check.f K l0 with _ | r1
  · rw [hq1] at h; cases h
  rw [hq1] at h
  simp only [] at h
  refine ge_batch [0] (ans := []) (vs := [(10, .slice A0 l0.length c0)]) (l := []) (by kernel_rfl) trivial ?_
  refine ge_call (d := some 11) (f := 18) (args := #[.slice A0 l0.length c0]) (by kernel_rfl) (locks_Check_ok K l0 A0 c0 _ (hS1.rd hR0) hL0 _ hq1) ?_
  rintro _ w2 ⟨rfl, hS2⟩
  refine ⟨_, rfl, hS2.below, ?_⟩
  have hS3 := hS1.call hS2
  refine ge_new (d := some 4) (o := .cells #[.int .i64 0, .int .i64 0] 27) (v := fun b => .pointer (some ⟨b, 0, none⟩)) hS3 (fun b => by kernel_rfl) fun b2 w3 hx2 hS4 => ?_
  refine ge_set (b := b2) (j := 0) (cs := #[.int .i64 0, .int .i64 0]) (t := 27) (vs := [.int .i64 r1.Code, .int .i64 r1.At]) hS4 (by kernel_rfl) rfl rfl fun w4 hS5 => ?_
  have hS6 := hS5.nc #[.int .i64 r1.Code, .int .i64 r1.At] rfl
  refine ge_nil fun a hF => hK3 _ _ ?_ a hF
  refine we_seq fun K4 hK4 => ?_
  refine we_region [(0, 0), (1, 0), (2, 0)] rfl ?_
  refine ge_batch [0, 1, 2] (ans := [.val (.int .i64 r1.Code)]) (vs := [(14, .bool (r1.Code != 0)), (13, .int .i64 r1.Code), (12, .pointer (some ⟨b2, 0, none⟩))]) (l := [.loaded ⟨b2, 0, none⟩ (.int .i64 r1.Code)]) (by kernel_rfl) ⟨hS6.cell 0 rfl rfl, trivial⟩ ?_
  refine ge_nil fun a hF => hK4 _ _ ?_ a hF
  by_cases hc1 : r1.Code = 0
  · rw [if_pos hc1] at h
    refine we_known (t := 14) (b := (r1.Code != 0)) (v := false) (by kernel_rfl) (bne_eq_false_iff_eq.2 hc1) ?_
    refine we_false (by kernel_rfl) ?_
    refine we_skip fun a hF => hK2 _ _ ?_ a hF
    refine we_seq fun K5 hK5 => ?_
    refine we_region [(0, 0), (1, 0), (2, 0)] rfl ?_
    refine ge_batch [0, 1, 2] (ans := []) (vs := [(7, .int .i64 0), (6, .int .i64 0), (5, .int .i64 0)]) (l := []) (by kernel_rfl) trivial ?_
    refine ge_nil fun a hF => hK5 _ _ ?_ a hF
    refine we_seq fun K6 hK6 => ?_
    refine we_seq fun K7 hK7 => ?_
    refine we_region [(0, 0), (1, 0), (2, 0)] rfl ?_
    refine ge_batch [0, 1, 2] (ans := []) (vs := [(18, .int .i64 0), (17, .int .i64 (l0.length : Int)), (16, .slice A0 l0.length c0)]) (l := []) (by kernel_rfl) trivial ?_
    refine ge_nil fun a hF => hK7 _ _ ?_ a hF
    refine we_block ?_
    have hS7 := hS6.bring 1 rfl
    have hS8 := hS7.takeN 1
    rcases hq2 : iter (locks_Longest.r0 l0) K (0, 0, 0, 0) with _ | (z5 | rr1)
    · rw [hq2] at h; cases h
    · rw [hq2] at h
      simp only [] at h
      refine we_iter (A := locks_Longest.A0 K w0 l0 A0 c0 hR0 hL0 b1 r1 b2 hc1) (B := locks_Longest.B0 K w0 l0 A0 c0 hR0 hL0 b1 r1 b2 hc1) hq2 (fun a hF => ⟨hS8, hF.weaken ⟨by kernel_rfl, by kernel_rfl, by kernel_rfl, by kernel_rfl, by kernel_rfl, by kernel_rfl, by kernel_rfl, trivial⟩⟩) (fun s o hf a w hA Q hQ => locks_Longest_r0 K w0 l0 A0 c0 hR0 hL0 b1 r1 b2 hc1 s o hf a w hA Q hQ) ?_
      rintro _ a w7 _ ⟨rfl, hS24, hF⟩
      replace hS24 : St w0 w7 [Own.blk b1 (.cells #[.int .i64 0, .int .i64 0] 27 (0, 0))] := hS24
      refine hK6 [(3, .pointer (some ⟨b1, 0, none⟩)), (5, .int .i64 z5)] w7 ?_ a hF
      refine we_seq fun K19 hK19 => ?_
      refine we_region [(0, 0), (1, 0), (2, 0), (3, 2)] rfl ?_
      refine ge_batch [0, 1, 2] (ans := []) (vs := [(2, .int .i64 z5), (47, .agg #[.int .i64 0, .int .i64 0]), (46, .int .i64 z5)]) (l := []) (by kernel_rfl) trivial ?_
      refine ge_set (b := b1) (j := 0) (cs := #[.int .i64 0, .int .i64 0]) (t := 27) (vs := [.int .i64 0, .int .i64 0]) hS24 (by kernel_rfl) rfl rfl fun w8 hS25 => ?_
      have hS26 := hS25.nc #[.int .i64 0, .int .i64 0] rfl
      refine ge_nil fun a hF => hK19 _ _ ?_ a hF
      have hS27 := hS26.takeN 0
      obtain rfl := Option.some.inj h
      exact we_ret (post_ret (rs := [.tmp 2, .cell 3 27]) (ans := [.val (.int .i64 0), .val (.int .i64 0)]) (vs := [.int .i64 z5, .agg #[.int .i64 0, .int .i64 0]]) (l := [.loaded ⟨b1, 0, none⟩ (.int .i64 0), .loaded ⟨b1, 1, none⟩ (.int .i64 0)]) rfl (by kernel_rfl) ⟨hS26.cell 0 rfl rfl, hS26.cell 0 rfl rfl, trivial⟩ ⟨rfl, hS27⟩)
    · rw [hq2] at h
      simp only [] at h
      refine we_iter (A := locks_Longest.A0 K w0 l0 A0 c0 hR0 hL0 b1 r1 b2 hc1) (B := locks_Longest.B0 K w0 l0 A0 c0 hR0 hL0 b1 r1 b2 hc1) hq2 (fun a hF => ⟨hS8, hF.weaken ⟨by kernel_rfl, by kernel_rfl, by kernel_rfl, by kernel_rfl, by kernel_rfl, by kernel_rfl, by kernel_rfl, trivial⟩⟩) (fun s o hf a w hA Q hQ => locks_Longest_r0 K w0 l0 A0 c0 hR0 hL0 b1 r1 b2 hc1 s o hf a w hA Q hQ) ?_
      rintro _ a w1 _ ⟨rfl, hb⟩
      obtain rfl := Option.some.inj h
      exact hb
  · rw [if_neg hc1] at h
    refine we_known (t := 14) (b := (r1.Code != 0)) (v := true) (by kernel_rfl) (bne_iff_ne.2 hc1) ?_
    refine we_true (by kernel_rfl) ?_
    refine we_seq fun K20 hK20 => ?_
    refine we_draws (by kernel_rfl) [(0, 0), (1, 0), (2, 2)] (by kernel_rfl) ?_
    have hS28 := hS6.drew
    refine ge_batch [0, 1] (ans := [.val (.int .i64 r1.Code), .val (.int .i64 r1.At)]) (vs := [(2, .int .i64 0), (15, .agg #[.int .i64 r1.Code, .int .i64 r1.At])]) (l := [.loaded ⟨b2, 0, none⟩ (.int .i64 r1.Code), .loaded ⟨b2, 1, none⟩ (.int .i64 r1.At)]) (by kernel_rfl) ⟨hS28.cell 0 rfl rfl, hS28.cell 0 rfl rfl, trivial⟩ ?_
    have hS29 := hS28.bring 1 rfl
    refine ge_set (b := b1) (j := 0) (cs := #[.int .i64 0, .int .i64 0]) (t := 27) (vs := [.int .i64 r1.Code, .int .i64 r1.At]) hS29 (by kernel_rfl) rfl rfl fun w9 hS30 => ?_
    have hS31 := hS30.nc #[.int .i64 r1.Code, .int .i64 r1.At] rfl
    refine ge_nil fun a hF => hK20 _ _ ?_ a hF
    have hS32 := hS31.takeN 0
    obtain rfl := Option.some.inj h
    exact we_ret (post_ret (rs := [.tmp 2, .cell 3 27]) (ans := [.val (.int .i64 r1.Code), .val (.int .i64 r1.At)]) (vs := [.int .i64 0, .agg #[.int .i64 r1.Code, .int .i64 r1.At]]) (l := [.loaded ⟨b1, 0, none⟩ (.int .i64 r1.Code), .loaded ⟨b1, 1, none⟩ (.int .i64 r1.At)]) rfl (by kernel_rfl) ⟨hS31.cell 0 rfl rfl, hS31.cell 0 rfl rfl, trivial⟩ ⟨rfl, hS32⟩)

/-! punctual/punctualsame.Same[int] -/
abbrev punctualsame_Same_int.Post (w0 : World) (r : Bool) (e : Ending) (w : World) : Prop := e = .returned (.bool r) ∧ St w0 w []
def punctualsame_Same_int.r0 (l0 : List Int) (l1 : List Int) : Nat → Option (Nat ⊕ (Unit ⊕ Bool))
  | i1 =>
    if (i1 : Int) < (l0.length : Int) then
      match l0[i1]? with
      | none => none
      | some e1 =>
        match l1[i1]? with
        | none => none
        | some e2 =>
          if e1 = e2 then
            some (.inl (i1 + 1))
          else
            some (.inr (.inr false))
    else
      some (.inr (.inl ()))
def punctualsame_Same_int.f (K : Nat) (l0 : List Int) (l1 : List Int) : Option Bool :=
  if (l0.length : Int) = (l1.length : Int) then
    match iter (punctualsame_Same_int.r0 l0 l1) K 0 with
    | none => none
    | some (.inl _) =>
      some true
    | some (.inr rr1) =>
      some rr1
  else
    some false
abbrev punctualsame_Same_int.A0 (K : Nat) (w0 : World) (l0 : List Int) (A0 : Option Addr) (c0 : Nat) (l1 : List Int) (A1 : Option Addr) (c1 : Nat) (hR0 : RdL w0 A0 l0) (hL0 : l0.length ≤ c0) (hR1 : RdL w0 A1 l1) (hL1 : l1.length ≤ c1) (hc1 : (l0.length : Int) = (l1.length : Int)) : Nat → Act → World → Prop := fun (s : Nat) a w => St w0 w [] ∧ Frm 26 a [(0, .slice A0 l0.length c0), (1, .slice A1 l1.length c1), (12, .int .i64 (l0.length : Int)), (13, .int .i64 (s : Int))]
abbrev punctualsame_Same_int.B0 (K : Nat) (w0 : World) (l0 : List Int) (A0 : Option Addr) (c0 : Nat) (l1 : List Int) (A1 : Option Addr) (c1 : Nat) (hR0 : RdL w0 A0 l0) (hL0 : l0.length ≤ c0) (hR1 : RdL w0 A1 l1) (hL1 : l1.length ≤ c1) (hc1 : (l0.length : Int) = (l1.length : Int)) : (Unit ⊕ Bool) → Exit → Act → World → Prop := Exits 0 (fun (s : Unit) a w => St w0 w [] ∧ Frm 26 a []) (Rets Tryd.prog Tryd.f13 (punctualsame_Same_int.Post w0))
theorem punctualsame_Same_int_r0 (K : Nat) (w0 : World) (l0 : List Int) (A0 : Option Addr) (c0 : Nat) (l1 : List Int) (A1 : Option Addr) (c1 : Nat) (hR0 : RdL w0 A0 l0) (hL0 : l0.length ≤ c0) (hR1 : RdL w0 A1 l1) (hL1 : l1.length ≤ c1) (hc1 : (l0.length : Int) = (l1.length : Int)) (s : Nat) (o : Nat ⊕ (Unit ⊕ Bool)) (h : punctualsame_Same_int.r0 l0 l1 s = some o) (a : Act) (w : World) (hA : punctualsame_Same_int.A0 K w0 l0 A0 c0 l1 A1 c1 hR0 hL0 hR1 hL1 hc1 s a w) (Q : Exit → Act → World → Prop) (hQ : ∀ x a w, Outs (punctualsame_Same_int.A0 K w0 l0 A0 c0 l1 A1 c1 hR0 hL0 hR1 hL1 hc1) (punctualsame_Same_int.B0 K w0 l0 A0 c0 l1 A1 c1 hR0 hL0 hR1 hL1 hc1) o x a w → Q x a w) : (subF Tryd.f13 [1, 1, 0, 1, 0, 0]).wp Tryd.prog Q a w := by
  obtain ⟨i1, hs⟩ : ∃ z, z = s := ⟨s, rfl⟩
  subst hs
  obtain ⟨hS, hF⟩ := hA
  replace hS : St w0 w [] := hS
  simp only [punctualsame_Same_int.r0] at h
  refine (?_ : WE Tryd.prog 26 (subF Tryd.f13 [1, 1, 0, 1, 0, 0]) Q [(0, .slice A0 l0.length c0), (1, .slice A1 l1.length c1), (12, .int .i64 (l0.length : Int)), (13, .int .i64 (i1 : Int))] w) a hF
  clear hF a
  refine we_seq fun K6 hK6 => ?_
  refine we_region [(0, 0)] rfl ?_
  refine ge_batch [0] (ans := []) (vs := [(14, .bool (decide ((i1 : Int) < (l0.length : Int))))]) (l := []) (by kernel_rfl) trivial ?_
  refine ge_nil fun a hF => hK6 _ _ ?_ a hF
  refine we_seq fun K7 hK7 => ?_
  by_cases hc2 : (i1 : Int) < (l0.length : Int)
  · rw [if_pos hc2] at h
    refine we_known (t := 14) (b := decide ((i1 : Int) < (l0.length : Int))) (v := true) (by kernel_rfl) (decide_eq_true hc2) ?_
    refine we_true (by kernel_rfl) ?_
    refine we_skip fun a hF => hK7 _ _ ?_ a hF
    refine we_seq fun K8 hK8 => ?_
    refine we_block ?_
    refine we_seq fun K9 hK9 => ?_
    refine we_region [(0, 0), (1, 0)] rfl ?_
    refine ge_batch [0, 1] (ans := []) (vs := [(5, .int .i64 (i1 : Int)), (15, .int .i64 (i1 : Int))]) (l := []) (by kernel_rfl) trivial ?_
    refine ge_nil fun a hF => hK9 _ _ ?_ a hF
    refine we_seq fun K10 hK10 => ?_
    refine we_draws (by kernel_rfl) [(0, 0), (1, 0), (2, 0), (3, 0), (4, 0), (5, 0), (6, 0), (7, 0), (8, 0)] (by kernel_rfl) ?_
    have hS1 := hS.drew
    refine ge_batch [0, 1] (ans := []) (vs := [(17, .int .i64 (i1 : Int)), (16, .slice A0 l0.length c0)]) (l := []) (by kernel_rfl) trivial ?_
    rcases hx1 : l0[i1]? with _ | e1
    · rw [hx1] at h; cases h
    rw [hx1] at h
    simp only [] at h
    refine ge_index (d := 18) (ty := 0) (t := 24) (el := 3) (sz := 1) (m := l0.length) (c := c0) (x := (.tmp 16)) (y := (.tmp 17)) (A := A0) (k' := .i64) (j := (i1 : Int)) (jn := i1) (b0 := blkOf A0) (o0 := offOf A0) (by kernel_rfl) (by kernel_rfl) (by kernel_rfl) (by kernel_rfl) (by kernel_rfl) ((hS1.rd hR0).eqSome (pos_of_get hx1)) rfl (lt_of_get hx1) ?_
    refine ge_batch [3, 4, 5] (ans := [.val (.int .i64 e1)]) (vs := [(21, .int .i64 (i1 : Int)), (20, .slice A1 l1.length c1), (19, .int .i64 e1)]) (l := [.loaded ⟨blkOf A0, offOf A0 + i1 * 1, none⟩ (.int .i64 e1)]) (by kernel_rfl) ⟨RdL.cell (j := 0) (hS1.rd hR0) hx1 rfl, trivial⟩ ?_
    rcases hx2 : l1[i1]? with _ | e2
    · rw [hx2] at h; cases h
    rw [hx2] at h
    simp only [] at h
    refine ge_index (d := 22) (ty := 0) (t := 24) (el := 3) (sz := 1) (m := l1.length) (c := c1) (x := (.tmp 20)) (y := (.tmp 21)) (A := A1) (k' := .i64) (j := (i1 : Int)) (jn := i1) (b0 := blkOf A1) (o0 := offOf A1) (by kernel_rfl) (by kernel_rfl) (by kernel_rfl) (by kernel_rfl) (by kernel_rfl) ((hS1.rd hR1).eqSome (pos_of_get hx2)) rfl (lt_of_get hx2) ?_
    refine ge_batch [7, 8] (ans := [.val (.int .i64 e2)]) (vs := [(24, .bool (e1 != e2)), (23, .int .i64 e2)]) (l := [.loaded ⟨blkOf A1, offOf A1 + i1 * 1, none⟩ (.int .i64 e2)]) (by kernel_rfl) ⟨RdL.cell (j := 0) (hS1.rd hR1) hx2 rfl, trivial⟩ ?_
    refine ge_nil fun a hF => hK10 _ _ ?_ a hF
    by_cases hc3 : e1 = e2
    · rw [if_pos hc3] at h
      refine we_known (t := 24) (b := (e1 != e2)) (v := false) (by kernel_rfl) (bne_eq_false_iff_eq.2 hc3) ?_
      refine we_false (by kernel_rfl) ?_
      refine we_skip fun a hF => hK8 _ _ ?_ a hF
      refine we_region [(0, 0), (1, 0)] rfl ?_
      refine ge_addn (d := 25) (ty := 3) (x := (.tmp 13)) (y := (.const (.int .i64 1))) (t := 3) (t2 := 3) (k := .i64) (m := i1) (by kernel_rfl) (by kernel_rfl) (by kernel_rfl) (by have h0 := hR0.small; omega) ?_
      refine ge_batch [1] (ans := []) (vs := [(13, .int .i64 ((i1 + 1 : Nat) : Int))]) (l := []) (by kernel_rfl) trivial ?_
      obtain rfl := Option.some.inj h
      exact ge_nil fun a hF => hQ _ _ _ (Outs.again ⟨hS1, hF.weaken ⟨by kernel_rfl, by kernel_rfl, by kernel_rfl, by kernel_rfl, trivial⟩⟩)
    · rw [if_neg hc3] at h
      refine we_known (t := 24) (b := (e1 != e2)) (v := true) (by kernel_rfl) (bne_iff_ne.2 hc3) ?_
      refine we_true (by kernel_rfl) ?_
      refine we_seq fun K11 hK11 => ?_
      refine we_region [(0, 0)] rfl ?_
      refine ge_batch [0] (ans := []) (vs := [(4, .bool false)]) (l := []) (by kernel_rfl) trivial ?_
      refine ge_nil fun a hF => hK11 _ _ ?_ a hF
      obtain rfl := Option.some.inj h
      exact we_ret fun a hF => hQ _ _ _ (Outs.out nofun (Exits.on ⟨rfl, (post_ret (rs := [.tmp 4]) (ans := []) (vs := [.bool false]) (l := []) rfl (by kernel_rfl) trivial ⟨rfl, hS1⟩) a hF⟩))
  · rw [if_neg hc2] at h
    refine we_known (t := 14) (b := decide ((i1 : Int) < (l0.length : Int))) (v := false) (by kernel_rfl) (decide_eq_false hc2) ?_
    refine we_false (by kernel_rfl) ?_
    obtain rfl := Option.some.inj h
    exact we_exit fun a hF => hQ _ _ _ (Outs.out nofun (Exits.here ⟨hS, hF.weaken trivial⟩))
theorem punctualsame_Same_int_ok (K : Nat) (l0 : List Int) (A0 : Option Addr) (c0 : Nat) (l1 : List Int) (A1 : Option Addr) (c1 : Nat) (w0 : World) (hR0 : RdL w0 A0 l0) (hL0 : l0.length ≤ c0) (hR1 : RdL w0 A1 l1) (hL1 : l1.length ≤ c1) (r : Bool) (h : punctualsame_Same_int.f K l0 l1 = some r) :
    Calls Tryd.prog 13 #[.slice A0 l0.length c0, .slice A1 l1.length c1] w0 (punctualsame_Same_int.Post w0 r) := by
  have hS := St.start w0
  unfold punctualsame_Same_int.f at h
  refine calls_enter (n := 26) (args := [.slice A0 l0.length c0, .slice A1 l1.length c1]) (fn := Tryd.f13) rfl rfl rfl rfl ?_
  show WE _ _ _ _ [(0, .slice A0 l0.length c0), (1, .slice A1 l1.length c1)] _
  refine we_seq fun K1 hK1 => ?_
  refine we_region [(0, 0)] rfl ?_
  refine ge_batch [0] (ans := []) (vs := [(4, .bool false)]) (l := []) (by kernel_rfl) trivial ?_
  refine ge_nil fun a hF => hK1 _ _ ?_ a hF
  refine we_seq fun K2 hK2 => ?_
  refine we_seq fun K3 hK3 => ?_
  refine we_region [(0, 0), (1, 0), (2, 0), (3, 0), (4, 0)] rfl ?_
  refine ge_batch [0, 1, 2, 3, 4] (ans := []) (vs := [(10, .bool ((l0.length : Int) != (l1.length : Int))), (9, .int .i64 (l1.length : Int)), (8, .slice A1 l1.length c1), (7, .int .i64 (l0.length : Int)), (6, .slice A0 l0.length c0)]) (l := []) (by kernel_rfl) trivial ?_
  refine ge_nil fun a hF => hK3 _ _ ?_ a hF
  by_cases hc1 : (l0.length : Int) = (l1.length : Int)
  · rw [if_pos hc1] at h
    refine we_known (t := 10) (b := ((l0.length : Int) != (l1.length : Int))) (v := false) (by kernel_rfl) (bne_eq_false_iff_eq.2 hc1) ?_
    refine we_false (by kernel_rfl) ?_
    refine we_skip fun a hF => hK2 _ _ ?_ a hF
    refine we_seq fun K4 hK4 => ?_
    refine we_seq fun K5 hK5 => ?_
    refine we_region [(0, 0), (1, 0), (2, 0)] rfl ?_
    refine ge_batch [0, 1, 2] (ans := []) (vs := [(13, .int .i64 0), (12, .int .i64 (l0.length : Int)), (11, .slice A0 l0.length c0)]) (l := []) (by kernel_rfl) trivial ?_
    refine ge_nil fun a hF => hK5 _ _ ?_ a hF
    refine we_block ?_
    rcases hq1 : iter (punctualsame_Same_int.r0 l0 l1) K 0 with _ | (_ | rr1)
    · rw [hq1] at h; cases h
    · rw [hq1] at h
      simp only [] at h
      refine we_iter (A := punctualsame_Same_int.A0 K w0 l0 A0 c0 l1 A1 c1 hR0 hL0 hR1 hL1 hc1) (B := punctualsame_Same_int.B0 K w0 l0 A0 c0 l1 A1 c1 hR0 hL0 hR1 hL1 hc1) hq1 (fun a hF => ⟨hS, hF.weaken ⟨by kernel_rfl, by kernel_rfl, by kernel_rfl, by kernel_rfl, trivial⟩⟩) (fun s o hf a w hA Q hQ => punctualsame_Same_int_r0 K w0 l0 A0 c0 l1 A1 c1 hR0 hL0 hR1 hL1 hc1 s o hf a w hA Q hQ) ?_
      rintro _ a w1 _ ⟨rfl, hS2, hF⟩
      replace hS2 : St w0 w1 [] := hS2
      refine hK4 [] w1 ?_ a hF
      refine we_seq fun K12 hK12 => ?_
      refine we_region [(0, 0)] rfl ?_
      refine ge_batch [0] (ans := []) (vs := [(4, .bool true)]) (l := []) (by kernel_rfl) trivial ?_
      refine ge_nil fun a hF => hK12 _ _ ?_ a hF
      obtain rfl := Option.some.inj h
      exact we_ret (post_ret (rs := [.tmp 4]) (ans := []) (vs := [.bool true]) (l := []) rfl (by kernel_rfl) trivial ⟨rfl, hS2⟩)
    · rw [hq1] at h
      simp only [] at h
      refine we_iter (A := punctualsame_Same_int.A0 K w0 l0 A0 c0 l1 A1 c1 hR0 hL0 hR1 hL1 hc1) (B := punctualsame_Same_int.B0 K w0 l0 A0 c0 l1 A1 c1 hR0 hL0 hR1 hL1 hc1) hq1 (fun a hF => ⟨hS, hF.weaken ⟨by kernel_rfl, by kernel_rfl, by kernel_rfl, by kernel_rfl, trivial⟩⟩) (fun s o hf a w hA Q hQ => punctualsame_Same_int_r0 K w0 l0 A0 c0 l1 A1 c1 hR0 hL0 hR1 hL1 hc1 s o hf a w hA Q hQ) ?_
      rintro _ a w1 _ ⟨rfl, hb⟩
      obtain rfl := Option.some.inj h
      exact hb
  · rw [if_neg hc1] at h
    refine we_known (t := 10) (b := ((l0.length : Int) != (l1.length : Int))) (v := true) (by kernel_rfl) (bne_iff_ne.2 hc1) ?_
    refine we_true (by kernel_rfl) ?_
    refine we_seq fun K13 hK13 => ?_
    refine we_region [(0, 0)] rfl ?_
    refine ge_batch [0] (ans := []) (vs := [(4, .bool false)]) (l := []) (by kernel_rfl) trivial ?_
    refine ge_nil fun a hF => hK13 _ _ ?_ a hF
    obtain rfl := Option.some.inj h
    exact we_ret (post_ret (rs := [.tmp 4]) (ans := []) (vs := [.bool false]) (l := []) rfl (by kernel_rfl) trivial ⟨rfl, hS⟩)

/-! punctual/punctuallaw.few -/
abbrev few.Post (w0 : World) (r : Bool) (e : Ending) (w : World) : Prop := e = .returned (.bool r) ∧ St w0 w []
def few.f (x0 : Int) : Bool :=
  decide (x0 ≤ 5000)
theorem few_ok (x0 : Int) (w0 : World) (r : Bool) (h : few.f x0 = r) :
    Calls Tryd.prog 14 #[.int .i64 x0] w0 (few.Post w0 r) := by
  have hS := St.start w0
  unfold few.f at h
  refine calls_enter (n := 5) (args := [.int .i64 x0]) (fn := Tryd.f14) rfl rfl rfl rfl ?_
  show WE _ _ _ _ [(0, .int .i64 x0)] _
  refine we_seq fun K1 hK1 => ?_
  refine we_region [(0, 0)] rfl ?_
  refine ge_batch [0] (ans := []) (vs := [(2, .bool false)]) (l := []) (by kernel_rfl) trivial ?_
  refine ge_nil fun a hF => hK1 _ _ ?_ a hF
  refine we_seq fun K2 hK2 => ?_
  refine we_region [(0, 0), (1, 0), (2, 0)] rfl ?_
  refine ge_batch [0, 1, 2] (ans := []) (vs := [(2, .bool (decide (x0 ≤ 5000))), (4, .bool (decide (x0 ≤ 5000))), (3, .int .i64 x0)]) (l := []) (by kernel_rfl) trivial ?_
  refine ge_nil fun a hF => hK2 _ _ ?_ a hF
  subst h
  exact we_ret (post_ret (rs := [.tmp 2]) (ans := []) (vs := [.bool (decide (x0 ≤ 5000))]) (l := []) rfl (by kernel_rfl) trivial ⟨rfl, hS⟩)

/-! punctual/punctualsame.Lend[punctual/api.Act] -/
abbrev punctualsame_Lend_api_Act.Post (w0 : World) (n : Nat) (r : List SAct) (e : Ending) (w : World) : Prop := ∃ (A : Option Addr) (c : Nat), e = .returned (.slice A n c) ∧ r.length ≤ c ∧ St w0 w [Own.of (.slice A r.length c) 39 r]
def punctualsame_Lend_api_Act.f (l0 : List SAct) (x1 : SAct) : Option (List SAct) :=
  if 0 ≤ (IntKind.i64.wrap ((l0.length : Int) + 3)) then
    if ((IntKind.i64.wrap ((l0.length : Int) + 3)).toNat) ≤ 8796093022208 then
      if (List.replicate 0 (⟨0, 0⟩ : SAct)).length + l0.length ≤ 8796093022208 then
        if ((List.replicate 0 (⟨0, 0⟩ : SAct)) ++ l0).length + 3 ≤ 8796093022208 then
          some (((List.replicate 0 (⟨0, 0⟩ : SAct)) ++ l0) ++ ([x1, x1, x1] : List SAct))
        else
          none
      else
        none
    else
      none
  else
    none
theorem punctualsame_Lend_api_Act_ok (l0 : List SAct) (A0 : Option Addr) (c0 : Nat) (x1 : SAct) (w0 : World) (hR0 : RdL w0 A0 l0) (hL0 : l0.length ≤ c0) (r : List SAct) (h : punctualsame_Lend_api_Act.f l0 x1 = some r) :
    Calls Tryd.prog 15 #[.slice A0 l0.length c0, .agg #[.int .i64 x1.Do, .int .i64 x1.N]] w0 (punctualsame_Lend_api_Act.Post w0 l0.length r) := by
  have hS := St.start w0
  unfold punctualsame_Lend_api_Act.f at h
  refine calls_enter (n := 21) (args := [.slice A0 l0.length c0, .agg #[.int .i64 x1.Do, .int .i64 x1.N]]) (fn := Tryd.f15) rfl rfl rfl rfl ?_
  show WE _ _ _ _ [(0, .slice A0 l0.length c0), (1, .agg #[.int .i64 x1.Do, .int .i64 x1.N])] _
  refine we_seq fun K1 hK1 => ?_
  refine we_region [(0, 1), (1, 0)] rfl ?_
  refine ge_new (d := some 3) (o := .cells #[.int .i64 x1.Do, .int .i64 x1.N] 39) (v := fun b => .pointer (some ⟨b, 0, none⟩)) hS (fun b => by kernel_rfl) fun b1 w1 hx1 hS1 => ?_
  refine ge_batch [1] (ans := []) (vs := [(4, .slice none 0 0)]) (l := []) (by kernel_rfl) trivial ?_
  refine ge_nil fun a hF => hK1 _ _ ?_ a hF
  refine we_seq fun K2 hK2 => ?_
  refine we_orders3 (by kernel_rfl) [(6, [⟨b1, 0, none⟩, ⟨b1, 1, none⟩], [9, 10], []), (7, [⟨b1, 0, none⟩, ⟨b1, 1, none⟩], [9, 10], []), (8, [⟨b1, 0, none⟩, ⟨b1, 1, none⟩], [9, 10], [])] (.vals [0] (.vals [1] (.vals [2] (.vals [4] (.vals [6] (.vals [7] (.vals [8] (.alt 3 1 (.alt 5 2 (.alt 9 1 (.alt 10 2 (.vals [11] .fin) .nomore) .nomore) (.alt 9 1 (.alt 5 2 (.alt 10 2 (.vals [11] .fin) .nomore) .nomore) .nomore)) (.alt 9 1 (.alt 3 1 (.alt 5 2 (.alt 10 2 (.vals [11] .fin) .nomore) .nomore) .nomore) .nomore))))))))) (by kernel_rfl) (by kernel_rfl) ?_
  have hS2 := hS1.drew
  refine go3_batch [0, 1, 2, 4] (ans := []) (vs := [(10, .slice A0 l0.length c0), (8, .int .i64 (IntKind.i64.wrap ((l0.length : Int) + 3))), (7, .int .i64 (l0.length : Int)), (6, .slice A0 l0.length c0)]) (l := []) (by kernel_rfl) trivial mem_nil3 ?_
  refine go3_batch [6] (ans := [.val (.int .i64 x1.Do), .val (.int .i64 x1.N)]) (vs := [(12, .agg #[.int .i64 x1.Do, .int .i64 x1.N])]) (l := [.loaded ⟨b1, 0, none⟩ (.int .i64 x1.Do), .loaded ⟨b1, 1, none⟩ (.int .i64 x1.N)]) (by kernel_rfl) ⟨hS2.cell 0 rfl rfl, hS2.cell 0 rfl rfl, trivial⟩ (mem_one3 (by kernel_rfl)) ?_
  refine go3_batch [7] (ans := [.val (.int .i64 x1.Do), .val (.int .i64 x1.N)]) (vs := [(13, .agg #[.int .i64 x1.Do, .int .i64 x1.N])]) (l := [.loaded ⟨b1, 0, none⟩ (.int .i64 x1.Do), .loaded ⟨b1, 1, none⟩ (.int .i64 x1.N)]) (by kernel_rfl) ⟨hS2.cell 0 rfl rfl, hS2.cell 0 rfl rfl, trivial⟩ (mem_one3 (by kernel_rfl)) ?_
  refine go3_batch [8] (ans := [.val (.int .i64 x1.Do), .val (.int .i64 x1.N)]) (vs := [(14, .agg #[.int .i64 x1.Do, .int .i64 x1.N])]) (l := [.loaded ⟨b1, 0, none⟩ (.int .i64 x1.Do), .loaded ⟨b1, 1, none⟩ (.int .i64 x1.N)]) (by kernel_rfl) ⟨hS2.cell 0 rfl rfl, hS2.cell 0 rfl rfl, trivial⟩ (mem_one3 (by kernel_rfl)) ?_
  by_cases hc1 : 0 ≤ (IntKind.i64.wrap ((l0.length : Int) + 3))
  · rw [if_pos hc1] at h
    by_cases hc2 : ((IntKind.i64.wrap ((l0.length : Int) + 3)).toNat) ≤ 8796093022208
    · rw [if_pos hc2] at h
      refine go_alt3 (fun KK hKK => ?_) ?_
      · refine ge_one2 ?_
        refine ge_make (α := SAct) (d := 9) (t := 22) (el := 39) (bytes := 16) (l := 0) (c := ((IntKind.i64.wrap ((l0.length : Int) + 3)).toNat)) (x := (.const (.int .i64 0))) (y := (.tmp 8)) (ty := 22) (k1 := .i64) (k2 := .i64) (li := 0) (ci := (IntKind.i64.wrap ((l0.length : Int) + 3))) (z := .agg #[.int .i64 0, .int .i64 0]) (z' := (⟨0, 0⟩ : SAct)) (by kernel_rfl) (by kernel_rfl) (by kernel_rfl) rfl (Int.toNat_of_nonneg hc1).symm (by kernel_rfl) (by kernel_rfl) rfl hS2 (Nat.zero_le _) rfl (by omega) fun v1 w2 _ hS3 => ?_
        refine ge_nil fun a hF => hKK _ _ (RS.of2 (l := [.loaded ⟨b1, 0, none⟩ (.int .i64 x1.Do), .loaded ⟨b1, 1, none⟩ (.int .i64 x1.N), .loaded ⟨b1, 0, none⟩ (.int .i64 x1.Do), .loaded ⟨b1, 1, none⟩ (.int .i64 x1.N), .loaded ⟨b1, 0, none⟩ (.int .i64 x1.Do), .loaded ⟨b1, 1, none⟩ (.int .i64 x1.N)]) (by kernel_rfl) ⟨hS2.cell 0 rfl rfl, hS2.cell 0 rfl rfl, hS2.cell 0 rfl rfl, hS2.cell 0 rfl rfl, hS2.cell 0 rfl rfl, hS2.cell 0 rfl rfl, trivial⟩ ⟨hS3.cell 1 rfl rfl, hS3.cell 1 rfl rfl, hS3.cell 1 rfl rfl, hS3.cell 1 rfl rfl, hS3.cell 1 rfl rfl, hS3.cell 1 rfl rfl, trivial⟩) ?_ a hF
        refine go_alt3 (fun KK hKK => ?_) ?_
        · by_cases hc3 : (List.replicate 0 (⟨0, 0⟩ : SAct)).length + l0.length ≤ 8796093022208
          · rw [if_pos hc3] at h
            refine ge_appendL (α := SAct) (m := 0) (d := 11) (t := 22) (el := 39) (bytes := 16) (c1 := c0) (A1 := A0) (x := (.tmp 9)) (y := (.tmp 10)) (ty := 22) (v := v1) (z := .agg #[.int .i64 0, .int .i64 0]) (l := (List.replicate 0 (⟨0, 0⟩ : SAct))) (us := l0) (by kernel_rfl) (by kernel_rfl) (by kernel_rfl) (by kernel_rfl) (by kernel_rfl) rfl hS3 (hS3.rd hR0) rfl (Nat.mul_le_of_le_div _ _ _ hc3) fun v2 w3 hS4 => ?_
            have hS5 : St w0 w3 [Own.of v2 39 ((List.replicate 0 (⟨0, 0⟩ : SAct)) ++ l0), Own.blk b1 (.cells #[.int .i64 x1.Do, .int .i64 x1.N] 39 (0, 0))] := hS4
            refine ge_nil fun a hF => hKK _ _ (RS.of2 (l := [.loaded ⟨b1, 0, none⟩ (.int .i64 x1.Do), .loaded ⟨b1, 1, none⟩ (.int .i64 x1.N), .loaded ⟨b1, 0, none⟩ (.int .i64 x1.Do), .loaded ⟨b1, 1, none⟩ (.int .i64 x1.N), .loaded ⟨b1, 0, none⟩ (.int .i64 x1.Do), .loaded ⟨b1, 1, none⟩ (.int .i64 x1.N)]) (by kernel_rfl) ⟨hS3.cell 1 rfl rfl, hS3.cell 1 rfl rfl, hS3.cell 1 rfl rfl, hS3.cell 1 rfl rfl, hS3.cell 1 rfl rfl, hS3.cell 1 rfl rfl, trivial⟩ ⟨hS5.cell 1 rfl rfl, hS5.cell 1 rfl rfl, hS5.cell 1 rfl rfl, hS5.cell 1 rfl rfl, hS5.cell 1 rfl rfl, hS5.cell 1 rfl rfl, trivial⟩) ?_ a hF
            refine go_alt3 (fun KK hKK => ?_) ?_
            · refine ge_one2 ?_
              refine ge_new (d := some 15) (o := .cells #[.int .i64 x1.Do, .int .i64 x1.N, .int .i64 x1.Do, .int .i64 x1.N, .int .i64 x1.Do, .int .i64 x1.N] 39) (v := fun b => .slice (some ⟨b, 0, none⟩) 3 3) hS5 (fun b => by kernel_rfl) fun b2 w4 hx2 hS6 => ?_
              refine ge_nil fun a hF => hKK _ _ (RS.of2 (l := []) (by kernel_rfl) trivial trivial) ?_ a hF
              refine go_alt3 (fun KK hKK => ?_) ?_
              · have hS7 := hS6.bring 1 rfl
                by_cases hc4 : ((List.replicate 0 (⟨0, 0⟩ : SAct)) ++ l0).length + 3 ≤ 8796093022208
                · rw [if_pos hc4] at h
                  refine ge_appendL (α := SAct) (m := 0) (d := 16) (t := 22) (el := 39) (bytes := 16) (c1 := 3) (A1 := (some ⟨b2, 0, none⟩)) (x := (.tmp 11)) (y := (.tmp 15)) (ty := 22) (v := v2) (z := .agg #[.int .i64 0, .int .i64 0]) (l := ((List.replicate 0 (⟨0, 0⟩ : SAct)) ++ l0)) (us := ([x1, x1, x1] : List SAct)) (by kernel_rfl) (by kernel_rfl) (by kernel_rfl) (by kernel_rfl) (by kernel_rfl) rfl hS7 (hS7.rdBlk 1 ([x1, x1, x1] : List SAct) rfl rfl rfl) rfl (Nat.mul_le_of_le_div _ _ _ hc4) fun v3 w5 hS8 => ?_
                  have hS9 : St w0 w5 [Own.of v3 39 (((List.replicate 0 (⟨0, 0⟩ : SAct)) ++ l0) ++ ([x1, x1, x1] : List SAct)), Own.blk b2 (.cells #[.int .i64 x1.Do, .int .i64 x1.N, .int .i64 x1.Do, .int .i64 x1.N, .int .i64 x1.Do, .int .i64 x1.N] 39 (0, 0)), Own.blk b1 (.cells #[.int .i64 x1.Do, .int .i64 x1.N] 39 (0, 0))] := hS8
                  refine ge_nil fun a hF => hKK _ _ (RS.of2 (l := []) (by kernel_rfl) trivial trivial) ?_ a hF
                  refine go3_batch [11] (ans := []) (vs := [(5, v3)]) (l := []) (by kernel_rfl) trivial mem_nil3 ?_
                  refine go_fin3 fun a hF => hK2 _ _ ?_ a hF
                  refine we_seq fun K3 hK3 => ?_
                  refine we_region [(0, 0), (1, 0), (2, 0), (3, 0), (4, 0)] rfl ?_
                  refine ge_batch [0, 1, 2] (ans := []) (vs := [(19, .int .i64 (l0.length : Int)), (18, .slice A0 l0.length c0), (17, v3)]) (l := []) (by kernel_rfl) trivial ?_
                  obtain ⟨Z1, cz1, rfl, hcp1⟩ := hS9.open2 0 rfl
                  refine ge_sliceHi (d := 20) (ty := 22) (t := 22) (el := 39) (sz := 2) (m := ((((List.replicate 0 (⟨0, 0⟩ : SAct)) ++ l0) ++ ([x1, x1, x1] : List SAct)).length)) (c := cz1) (hn := l0.length) (x := (.tmp 17)) (y := (.tmp 19)) (A := Z1) (k' := .i64) (hi := (l0.length : Int)) (by kernel_rfl) (by kernel_rfl) (by kernel_rfl) rfl (by kernel_rfl) (by kernel_rfl) (by have h0 := hcp1; simp only [List.length_append, List.length_cons, List.length_nil] at h0; omega) ?_
                  refine ge_batch [4] (ans := []) (vs := [(4, .slice Z1 l0.length cz1)]) (l := []) (by kernel_rfl) trivial ?_
                  refine ge_nil fun a hF => hK3 _ _ ?_ a hF
                  have hS10 := hS9.takeN 1
                  obtain rfl := Option.some.inj h
                  exact we_ret (post_ret (rs := [.tmp 4]) (ans := []) (vs := [.slice Z1 l0.length cz1]) (l := []) rfl (by kernel_rfl) trivial ⟨Z1, cz1, rfl, hcp1, hS10⟩)
                · rw [if_neg hc4] at h
                  cases h
              exact go_nomore3
            exact go_nomore3
          · rw [if_neg hc3] at h
            cases h
        refine go_alt3 (fun KK hKK => ?_) ?_
        · refine ge_one2 ?_
          refine ge_new (d := some 15) (o := .cells #[.int .i64 x1.Do, .int .i64 x1.N, .int .i64 x1.Do, .int .i64 x1.N, .int .i64 x1.Do, .int .i64 x1.N] 39) (v := fun b => .slice (some ⟨b, 0, none⟩) 3 3) hS3 (fun b => by kernel_rfl) fun b2 w3 hx2 hS4 => ?_
          refine ge_nil fun a hF => hKK _ _ (RS.of2 (l := []) (by kernel_rfl) trivial trivial) ?_ a hF
          refine go_alt3 (fun KK hKK => ?_) ?_
          · have hS5 := hS4.bring 1 rfl
            by_cases hc3 : (List.replicate 0 (⟨0, 0⟩ : SAct)).length + l0.length ≤ 8796093022208
            · rw [if_pos hc3] at h
              refine ge_appendL (α := SAct) (m := 0) (d := 11) (t := 22) (el := 39) (bytes := 16) (c1 := c0) (A1 := A0) (x := (.tmp 9)) (y := (.tmp 10)) (ty := 22) (v := v1) (z := .agg #[.int .i64 0, .int .i64 0]) (l := (List.replicate 0 (⟨0, 0⟩ : SAct))) (us := l0) (by kernel_rfl) (by kernel_rfl) (by kernel_rfl) (by kernel_rfl) (by kernel_rfl) rfl hS5 (hS5.rd hR0) rfl (Nat.mul_le_of_le_div _ _ _ hc3) fun v2 w4 hS6 => ?_
              have hS7 : St w0 w4 [Own.of v2 39 ((List.replicate 0 (⟨0, 0⟩ : SAct)) ++ l0), Own.blk b2 (.cells #[.int .i64 x1.Do, .int .i64 x1.N, .int .i64 x1.Do, .int .i64 x1.N, .int .i64 x1.Do, .int .i64 x1.N] 39 (0, 0)), Own.blk b1 (.cells #[.int .i64 x1.Do, .int .i64 x1.N] 39 (0, 0))] := hS6
              refine ge_nil fun a hF => hKK _ _ (RS.of2 (l := [.loaded ⟨b1, 0, none⟩ (.int .i64 x1.Do), .loaded ⟨b1, 1, none⟩ (.int .i64 x1.N), .loaded ⟨b1, 0, none⟩ (.int .i64 x1.Do), .loaded ⟨b1, 1, none⟩ (.int .i64 x1.N), .loaded ⟨b1, 0, none⟩ (.int .i64 x1.Do), .loaded ⟨b1, 1, none⟩ (.int .i64 x1.N)]) (by kernel_rfl) ⟨hS4.cell 2 rfl rfl, hS4.cell 2 rfl rfl, hS4.cell 2 rfl rfl, hS4.cell 2 rfl rfl, hS4.cell 2 rfl rfl, hS4.cell 2 rfl rfl, trivial⟩ ⟨hS7.cell 2 rfl rfl, hS7.cell 2 rfl rfl, hS7.cell 2 rfl rfl, hS7.cell 2 rfl rfl, hS7.cell 2 rfl rfl, hS7.cell 2 rfl rfl, trivial⟩) ?_ a hF
              refine go_alt3 (fun KK hKK => ?_) ?_
              · by_cases hc4 : ((List.replicate 0 (⟨0, 0⟩ : SAct)) ++ l0).length + 3 ≤ 8796093022208
                · rw [if_pos hc4] at h
                  refine ge_appendL (α := SAct) (m := 0) (d := 16) (t := 22) (el := 39) (bytes := 16) (c1 := 3) (A1 := (some ⟨b2, 0, none⟩)) (x := (.tmp 11)) (y := (.tmp 15)) (ty := 22) (v := v2) (z := .agg #[.int .i64 0, .int .i64 0]) (l := ((List.replicate 0 (⟨0, 0⟩ : SAct)) ++ l0)) (us := ([x1, x1, x1] : List SAct)) (by kernel_rfl) (by kernel_rfl) (by kernel_rfl) (by kernel_rfl) (by kernel_rfl) rfl hS7 (hS7.rdBlk 1 ([x1, x1, x1] : List SAct) rfl rfl rfl) rfl (Nat.mul_le_of_le_div _ _ _ hc4) fun v3 w5 hS8 => ?_
                  have hS9 : St w0 w5 [Own.of v3 39 (((List.replicate 0 (⟨0, 0⟩ : SAct)) ++ l0) ++ ([x1, x1, x1] : List SAct)), Own.blk b2 (.cells #[.int .i64 x1.Do, .int .i64 x1.N, .int .i64 x1.Do, .int .i64 x1.N, .int .i64 x1.Do, .int .i64 x1.N] 39 (0, 0)), Own.blk b1 (.cells #[.int .i64 x1.Do, .int .i64 x1.N] 39 (0, 0))] := hS8
                  refine ge_nil fun a hF => hKK _ _ (RS.of2 (l := []) (by kernel_rfl) trivial trivial) ?_ a hF
                  refine go3_batch [11] (ans := []) (vs := [(5, v3)]) (l := []) (by kernel_rfl) trivial mem_nil3 ?_
                  refine go_fin3 fun a hF => hK2 _ _ ?_ a hF
                  refine we_seq fun K3 hK3 => ?_
                  refine we_region [(0, 0), (1, 0), (2, 0), (3, 0), (4, 0)] rfl ?_
                  refine ge_batch [0, 1, 2] (ans := []) (vs := [(19, .int .i64 (l0.length : Int)), (18, .slice A0 l0.length c0), (17, v3)]) (l := []) (by kernel_rfl) trivial ?_
                  obtain ⟨Z1, cz1, rfl, hcp1⟩ := hS9.open2 0 rfl
                  refine ge_sliceHi (d := 20) (ty := 22) (t := 22) (el := 39) (sz := 2) (m := ((((List.replicate 0 (⟨0, 0⟩ : SAct)) ++ l0) ++ ([x1, x1, x1] : List SAct)).length)) (c := cz1) (hn := l0.length) (x := (.tmp 17)) (y := (.tmp 19)) (A := Z1) (k' := .i64) (hi := (l0.length : Int)) (by kernel_rfl) (by kernel_rfl) (by kernel_rfl) rfl (by kernel_rfl) (by kernel_rfl) (by have h0 := hcp1; simp only [List.length_append, List.length_cons, List.length_nil] at h0; omega) ?_
                  refine ge_batch [4] (ans := []) (vs := [(4, .slice Z1 l0.length cz1)]) (l := []) (by kernel_rfl) trivial ?_
                  refine ge_nil fun a hF => hK3 _ _ ?_ a hF
                  have hS10 := hS9.takeN 1
                  obtain rfl := Option.some.inj h
                  exact we_ret (post_ret (rs := [.tmp 4]) (ans := []) (vs := [.slice Z1 l0.length cz1]) (l := []) rfl (by kernel_rfl) trivial ⟨Z1, cz1, rfl, hcp1, hS10⟩)
                · rw [if_neg hc4] at h
                  cases h
              exact go_nomore3
            · rw [if_neg hc3] at h
              cases h
          exact go_nomore3
        exact go_nomore3
      refine go_alt3 (fun KK hKK => ?_) ?_
      · refine ge_one2 ?_
        refine ge_new (d := some 15) (o := .cells #[.int .i64 x1.Do, .int .i64 x1.N, .int .i64 x1.Do, .int .i64 x1.N, .int .i64 x1.Do, .int .i64 x1.N] 39) (v := fun b => .slice (some ⟨b, 0, none⟩) 3 3) hS2 (fun b => by kernel_rfl) fun b2 w2 hx2 hS3 => ?_
        refine ge_nil fun a hF => hKK _ _ (RS.of2 (l := []) (by kernel_rfl) trivial trivial) ?_ a hF
        refine go_alt3 (fun KK hKK => ?_) ?_
        · refine ge_one2 ?_
          refine ge_make (α := SAct) (d := 9) (t := 22) (el := 39) (bytes := 16) (l := 0) (c := ((IntKind.i64.wrap ((l0.length : Int) + 3)).toNat)) (x := (.const (.int .i64 0))) (y := (.tmp 8)) (ty := 22) (k1 := .i64) (k2 := .i64) (li := 0) (ci := (IntKind.i64.wrap ((l0.length : Int) + 3))) (z := .agg #[.int .i64 0, .int .i64 0]) (z' := (⟨0, 0⟩ : SAct)) (by kernel_rfl) (by kernel_rfl) (by kernel_rfl) rfl (Int.toNat_of_nonneg hc1).symm (by kernel_rfl) (by kernel_rfl) rfl hS3 (Nat.zero_le _) rfl (by omega) fun v1 w3 _ hS4 => ?_
          refine ge_nil fun a hF => hKK _ _ (RS.of2 (l := [.loaded ⟨b1, 0, none⟩ (.int .i64 x1.Do), .loaded ⟨b1, 1, none⟩ (.int .i64 x1.N), .loaded ⟨b1, 0, none⟩ (.int .i64 x1.Do), .loaded ⟨b1, 1, none⟩ (.int .i64 x1.N), .loaded ⟨b1, 0, none⟩ (.int .i64 x1.Do), .loaded ⟨b1, 1, none⟩ (.int .i64 x1.N)]) (by kernel_rfl) ⟨hS3.cell 1 rfl rfl, hS3.cell 1 rfl rfl, hS3.cell 1 rfl rfl, hS3.cell 1 rfl rfl, hS3.cell 1 rfl rfl, hS3.cell 1 rfl rfl, trivial⟩ ⟨hS4.cell 2 rfl rfl, hS4.cell 2 rfl rfl, hS4.cell 2 rfl rfl, hS4.cell 2 rfl rfl, hS4.cell 2 rfl rfl, hS4.cell 2 rfl rfl, trivial⟩) ?_ a hF
          refine go_alt3 (fun KK hKK => ?_) ?_
          · by_cases hc3 : (List.replicate 0 (⟨0, 0⟩ : SAct)).length + l0.length ≤ 8796093022208
            · rw [if_pos hc3] at h
              refine ge_appendL (α := SAct) (m := 0) (d := 11) (t := 22) (el := 39) (bytes := 16) (c1 := c0) (A1 := A0) (x := (.tmp 9)) (y := (.tmp 10)) (ty := 22) (v := v1) (z := .agg #[.int .i64 0, .int .i64 0]) (l := (List.replicate 0 (⟨0, 0⟩ : SAct))) (us := l0) (by kernel_rfl) (by kernel_rfl) (by kernel_rfl) (by kernel_rfl) (by kernel_rfl) rfl hS4 (hS4.rd hR0) rfl (Nat.mul_le_of_le_div _ _ _ hc3) fun v2 w4 hS5 => ?_
              have hS6 : St w0 w4 [Own.of v2 39 ((List.replicate 0 (⟨0, 0⟩ : SAct)) ++ l0), Own.blk b2 (.cells #[.int .i64 x1.Do, .int .i64 x1.N, .int .i64 x1.Do, .int .i64 x1.N, .int .i64 x1.Do, .int .i64 x1.N] 39 (0, 0)), Own.blk b1 (.cells #[.int .i64 x1.Do, .int .i64 x1.N] 39 (0, 0))] := hS5
              refine ge_nil fun a hF => hKK _ _ (RS.of2 (l := [.loaded ⟨b1, 0, none⟩ (.int .i64 x1.Do), .loaded ⟨b1, 1, none⟩ (.int .i64 x1.N), .loaded ⟨b1, 0, none⟩ (.int .i64 x1.Do), .loaded ⟨b1, 1, none⟩ (.int .i64 x1.N), .loaded ⟨b1, 0, none⟩ (.int .i64 x1.Do), .loaded ⟨b1, 1, none⟩ (.int .i64 x1.N)]) (by kernel_rfl) ⟨hS4.cell 2 rfl rfl, hS4.cell 2 rfl rfl, hS4.cell 2 rfl rfl, hS4.cell 2 rfl rfl, hS4.cell 2 rfl rfl, hS4.cell 2 rfl rfl, trivial⟩ ⟨hS6.cell 2 rfl rfl, hS6.cell 2 rfl rfl, hS6.cell 2 rfl rfl, hS6.cell 2 rfl rfl, hS6.cell 2 rfl rfl, hS6.cell 2 rfl rfl, trivial⟩) ?_ a hF
              refine go_alt3 (fun KK hKK => ?_) ?_
              · by_cases hc4 : ((List.replicate 0 (⟨0, 0⟩ : SAct)) ++ l0).length + 3 ≤ 8796093022208
                · rw [if_pos hc4] at h
                  refine ge_appendL (α := SAct) (m := 0) (d := 16) (t := 22) (el := 39) (bytes := 16) (c1 := 3) (A1 := (some ⟨b2, 0, none⟩)) (x := (.tmp 11)) (y := (.tmp 15)) (ty := 22) (v := v2) (z := .agg #[.int .i64 0, .int .i64 0]) (l := ((List.replicate 0 (⟨0, 0⟩ : SAct)) ++ l0)) (us := ([x1, x1, x1] : List SAct)) (by kernel_rfl) (by kernel_rfl) (by kernel_rfl) (by kernel_rfl) (by kernel_rfl) rfl hS6 (hS6.rdBlk 1 ([x1, x1, x1] : List SAct) rfl rfl rfl) rfl (Nat.mul_le_of_le_div _ _ _ hc4) fun v3 w5 hS7 => ?_
                  have hS8 : St w0 w5 [Own.of v3 39 (((List.replicate 0 (⟨0, 0⟩ : SAct)) ++ l0) ++ ([x1, x1, x1] : List SAct)), Own.blk b2 (.cells #[.int .i64 x1.Do, .int .i64 x1.N, .int .i64 x1.Do, .int .i64 x1.N, .int .i64 x1.Do, .int .i64 x1.N] 39 (0, 0)), Own.blk b1 (.cells #[.int .i64 x1.Do, .int .i64 x1.N] 39 (0, 0))] := hS7
                  refine ge_nil fun a hF => hKK _ _ (RS.of2 (l := []) (by kernel_rfl) trivial trivial) ?_ a hF
                  refine go3_batch [11] (ans := []) (vs := [(5, v3)]) (l := []) (by kernel_rfl) trivial mem_nil3 ?_
                  refine go_fin3 fun a hF => hK2 _ _ ?_ a hF
                  refine we_seq fun K3 hK3 => ?_
                  refine we_region [(0, 0), (1, 0), (2, 0), (3, 0), (4, 0)] rfl ?_
                  refine ge_batch [0, 1, 2] (ans := []) (vs := [(19, .int .i64 (l0.length : Int)), (18, .slice A0 l0.length c0), (17, v3)]) (l := []) (by kernel_rfl) trivial ?_
                  obtain ⟨Z1, cz1, rfl, hcp1⟩ := hS8.open2 0 rfl
                  refine ge_sliceHi (d := 20) (ty := 22) (t := 22) (el := 39) (sz := 2) (m := ((((List.replicate 0 (⟨0, 0⟩ : SAct)) ++ l0) ++ ([x1, x1, x1] : List SAct)).length)) (c := cz1) (hn := l0.length) (x := (.tmp 17)) (y := (.tmp 19)) (A := Z1) (k' := .i64) (hi := (l0.length : Int)) (by kernel_rfl) (by kernel_rfl) (by kernel_rfl) rfl (by kernel_rfl) (by kernel_rfl) (by have h0 := hcp1; simp only [List.length_append, List.length_cons, List.length_nil] at h0; omega) ?_
                  refine ge_batch [4] (ans := []) (vs := [(4, .slice Z1 l0.length cz1)]) (l := []) (by kernel_rfl) trivial ?_
                  refine ge_nil fun a hF => hK3 _ _ ?_ a hF
                  have hS9 := hS8.takeN 1
                  obtain rfl := Option.some.inj h
                  exact we_ret (post_ret (rs := [.tmp 4]) (ans := []) (vs := [.slice Z1 l0.length cz1]) (l := []) rfl (by kernel_rfl) trivial ⟨Z1, cz1, rfl, hcp1, hS9⟩)
                · rw [if_neg hc4] at h
                  cases h
              exact go_nomore3
            · rw [if_neg hc3] at h
              cases h
          exact go_nomore3
        exact go_nomore3
      exact go_nomore3
    · rw [if_neg hc2] at h
      cases h
  · rw [if_neg hc1] at h
    cases h
theorem punctualsame_Lend_api_Act_full (l0 : List SAct) (x1 : SAct) {r : List SAct} (h : punctualsame_Lend_api_Act.f l0 x1 = some r) : r = l0 ++ [x1, x1, x1] := by
  unfold punctualsame_Lend_api_Act.f at h
  repeat' split at h
  all_goals first | (exact (Option.some.inj h).symm) | cases h

/-! punctual/punctualref.F -/
abbrev punctualref_F.Post (w0 : World) (r : SFault) (e : Ending) (w : World) : Prop := e = .returned (.agg #[.int .i64 r.Code, .int .i64 r.At]) ∧ St w0 w []
def punctualref_F.f (x0 : Int) (x1 : Int) : SFault :=
  (⟨x0, x1⟩ : SFault)
theorem punctualref_F_ok (x0 : Int) (x1 : Int) (w0 : World) (r : SFault) (h : punctualref_F.f x0 x1 = r) :
    Calls Tryd.prog 61 #[.int .i64 x0, .int .i64 x1] w0 (punctualref_F.Post w0 r) := by
  have hS := St.start w0
  unfold punctualref_F.f at h
  refine calls_enter (n := 8) (args := [.int .i64 x0, .int .i64 x1]) (fn := Tryd.f61) rfl rfl rfl rfl ?_
  show WE _ _ _ _ [(0, .int .i64 x0), (1, .int .i64 x1)] _
  refine we_seq fun K1 hK1 => ?_
  refine we_region [(0, 1)] rfl ?_
  refine ge_new (d := some 4) (o := .cells #[.int .i64 0, .int .i64 0] 27) (v := fun b => .pointer (some ⟨b, 0, none⟩)) hS (fun b => by kernel_rfl) fun b1 w1 hx1 hS1 => ?_
  refine ge_nil fun a hF => hK1 _ _ ?_ a hF
  refine we_seq fun K2 hK2 => ?_
  refine we_region [(0, 0), (1, 0), (2, 0), (3, 2)] rfl ?_
  refine ge_batch [0, 1, 2] (ans := []) (vs := [(7, .agg #[.int .i64 x0, .int .i64 x1]), (6, .int .i64 x1), (5, .int .i64 x0)]) (l := []) (by kernel_rfl) trivial ?_
  refine ge_set (b := b1) (j := 0) (cs := #[.int .i64 0, .int .i64 0]) (t := 27) (vs := [.int .i64 x0, .int .i64 x1]) hS1 (by kernel_rfl) rfl rfl fun w2 hS2 => ?_
  have hS3 := hS2.nc #[.int .i64 x0, .int .i64 x1] rfl
  refine ge_nil fun a hF => hK2 _ _ ?_ a hF
  have hS4 := hS3.takeN 0
  subst h
  exact we_ret (post_ret (rs := [.cell 4 27]) (ans := [.val (.int .i64 x0), .val (.int .i64 x1)]) (vs := [.agg #[.int .i64 x0, .int .i64 x1]]) (l := [.loaded ⟨b1, 0, none⟩ (.int .i64 x0), .loaded ⟨b1, 1, none⟩ (.int .i64 x1)]) rfl (by kernel_rfl) ⟨hS3.cell 0 rfl rfl, hS3.cell 0 rfl rfl, trivial⟩ ⟨rfl, hS4⟩)
end Go.Proofs.YtccfilmiboepjaaDoor.GV
