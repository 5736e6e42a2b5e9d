/- Walks of single functions, written by a program of this work. -/
import Derived.Test.YtnckikjcjgmdlaaGv28
import Derived.Test.YtnckikjcjgmdlaaProg
namespace Go.Proofs.Ytnckikjcjgmdlaa.GV
open Go Go.RowKit
set_option linter.unusedVariables false
set_option linter.unusedSimpArgs false
set_option maxRecDepth 100000

structure SIns where
  Op : Int
  A : Int
  B : Int
def SIns.eqb (x y : SIns) : Bool := ((x.Op == y.Op) && ((x.A == y.A) && ((x.B == y.B) && true)))
instance : Ok SIns := ⟨fun x => Ok.ok x.Op ∧ Ok.ok x.A ∧ Ok.ok x.B ∧ True⟩
instance : Flat SIns := ⟨3, fun x => [.int .i64 x.Op, .int .i64 x.A, .int .i64 x.B], fun _ => rfl, fun _ => rfl, by decide⟩

/-! punctual/punctuallaw.image -/
abbrev image.Post (w0 : World) (r : List SIns) (e : Ending) (w : World) : Prop := ∃ (v0 : Value), e = .returned (v0) ∧ St w0 w [Own.of v0 29 r]
def image.f : List SIns :=
  ([(⟨13, 0, 2⟩ : SIns), (⟨2, 0, 0⟩ : SIns), (⟨9, 0, 0⟩ : SIns), (⟨4, 0, 0⟩ : SIns), (⟨3, 0, 0⟩ : SIns), (⟨14, 0, 1⟩ : SIns), (⟨2, 0, 0⟩ : SIns), (⟨1, 2, 0⟩ : SIns), (⟨6, 0, 0⟩ : SIns), (⟨10, 1, 0⟩ : SIns)] : List SIns)
theorem image_ok  (w0 : World) (r : List SIns) (h : image.f = r) :
    Calls Try.prog 41 #[] w0 (image.Post w0 r) := by
  have hS := St.start w0
  unfold image.f at h
  refine calls_enter (n := 12) (args := []) (fn := Try.f41) rfl rfl rfl rfl ?_
  show WE _ _ _ _ [] _
  refine we_seq fun K1 hK1 => ?_
  refine we_region [(0, 0)] rfl ?_
  refine ge_batch [0] (ans := []) (vs := [(0, .slice none 0 0)]) (l := []) (by kernel_rfl) trivial ?_
  refine ge_nil fun a hF => hK1 _ _ ?_ a hF
  refine we_seq fun K2 hK2 => ?_
  refine we_region [(0, 0), (1, 0), (2, 0), (3, 0), (4, 0), (5, 0), (6, 0), (7, 0), (8, 0), (9, 0), (10, 1), (11, 0)] rfl ?_
  refine ge_batch [0, 1, 2, 3, 4, 5, 6, 7, 8, 9] (ans := []) (vs := [(10, .agg #[.int .i64 10, .int .i64 1, .int .i64 0]), (9, .agg #[.int .i64 6, .int .i64 0, .int .i64 0]), (8, .agg #[.int .i64 1, .int .i64 2, .int .i64 0]), (7, .agg #[.int .i64 2, .int .i64 0, .int .i64 0]), (6, .agg #[.int .i64 14, .int .i64 0, .int .i64 1]), (5, .agg #[.int .i64 3, .int .i64 0, .int .i64 0]), (4, .agg #[.int .i64 4, .int .i64 0, .int .i64 0]), (3, .agg #[.int .i64 9, .int .i64 0, .int .i64 0]), (2, .agg #[.int .i64 2, .int .i64 0, .int .i64 0]), (1, .agg #[.int .i64 13, .int .i64 0, .int .i64 2])]) (l := []) (by kernel_rfl) trivial ?_
  refine ge_new (d := some 11) (o := .cells #[.int .i64 13, .int .i64 0, .int .i64 2, .int .i64 2, .int .i64 0, .int .i64 0, .int .i64 9, .int .i64 0, .int .i64 0, .int .i64 4, .int .i64 0, .int .i64 0, .int .i64 3, .int .i64 0, .int .i64 0, .int .i64 14, .int .i64 0, .int .i64 1, .int .i64 2, .int .i64 0, .int .i64 0, .int .i64 1, .int .i64 2, .int .i64 0, .int .i64 6, .int .i64 0, .int .i64 0, .int .i64 10, .int .i64 1, .int .i64 0] 29) (v := fun b => .slice (some ⟨b, 0, none⟩) 10 10) hS (fun b => by kernel_rfl) fun b1 w1 hx1 hS1 => ?_
  refine ge_batch [11] (ans := []) (vs := [(0, .slice (some ⟨b1, 0, none⟩) 10 10)]) (l := []) (by kernel_rfl) trivial ?_
  refine ge_nil fun a hF => hK2 _ _ ?_ a hF
  have hS2 := hS1.asRow (α := SIns) (c := 10) ([(⟨13, 0, 2⟩ : SIns), (⟨2, 0, 0⟩ : SIns), (⟨9, 0, 0⟩ : SIns), (⟨4, 0, 0⟩ : SIns), (⟨3, 0, 0⟩ : SIns), (⟨14, 0, 1⟩ : SIns), (⟨2, 0, 0⟩ : SIns), (⟨1, 2, 0⟩ : SIns), (⟨6, 0, 0⟩ : SIns), (⟨10, 1, 0⟩ : SIns)] : List SIns) (Nat.le_refl _) (by decide) rfl rfl
  subst h
  exact we_ret (post_ret (rs := [.tmp 0]) (ans := []) (vs := [(.slice (some ⟨b1, 0, none⟩) 10 10)]) (l := []) rfl (by kernel_rfl) trivial ⟨(.slice (some ⟨b1, 0, none⟩) 10 10), rfl, hS2⟩)

structure SShape where
  In : List Int
  Close : List (Int × Int)

structure SFault where
  Code : Int
  At : Int
def SFault.eqb (x y : SFault) : Bool := ((x.Code == y.Code) && ((x.At == y.At) && true))
instance : Ok SFault := ⟨fun x => Ok.ok x.Code ∧ Ok.ok x.At ∧ True⟩
instance : Flat SFault := ⟨2, fun x => [.int .i64 x.Code, .int .i64 x.At], fun _ => rfl, fun _ => rfl, by decide⟩

/-! punctual/mach.Look$1 -/
abbrev mach_Look_1.Post (w0 : World) (r : SShape × SFault) (e : Ending) (w : World) : Prop := ∃ (v0 : Value) (mv1 : Option Nat), e = .returned (.tuple #[.agg #[v0, .map mv1], .agg #[.int .i64 r.2.Code, .int .i64 r.2.At]]) ∧ St w0 w [Own.of v0 3 r.1.In, Own.mapv (κ := Int) (ν := Int) mv1 r.1.Close]
def mach_Look_1.f (x0 : Int) (x1 : Int) : SShape × SFault :=
  ((⟨([] : List Int), ([] : List (Int × Int))⟩ : SShape), (⟨x0, x1⟩ : SFault))
theorem mach_Look_1_ok (x0 : Int) (x1 : Int) (w0 : World) (r : SShape × SFault) (h : mach_Look_1.f x0 x1 = r) :
    Calls Try.prog 82 #[.int .i64 x0, .int .i64 x1] w0 (mach_Look_1.Post w0 r) := by
  have hS := St.start w0
  unfold mach_Look_1.f at h
  refine calls_enter (n := 10) (args := [.int .i64 x0, .int .i64 x1]) (fn := Try.f82) rfl rfl rfl rfl ?_
  show WE _ _ _ _ [(0, .int .i64 x0), (1, .int .i64 x1)] _
  refine we_seq fun K1 hK1 => ?_
  refine we_region [(0, 1), (1, 1)] rfl ?_
  refine ge_new (d := some 4) (o := .cells #[.slice none 0 0, .map none] 115) (v := fun b => .pointer (some ⟨b, 0, none⟩)) hS (fun b => by kernel_rfl) fun b1 w1 hx1 hS1 => ?_
  refine ge_new (d := some 5) (o := .cells #[.int .i64 0, .int .i64 0] 40) (v := fun b => .pointer (some ⟨b, 0, none⟩)) hS1 (fun b => by kernel_rfl) fun b2 w2 hx2 hS2 => ?_
  refine ge_nil fun a hF => hK1 _ _ ?_ a hF
  refine we_seq fun K2 hK2 => ?_
  refine we_region [(0, 0), (1, 0), (2, 0), (3, 0), (4, 2), (5, 2)] rfl ?_
  refine ge_batch [0, 1, 2, 3] (ans := []) (vs := [(9, .agg #[.int .i64 x0, .int .i64 x1]), (8, .int .i64 x1), (7, .int .i64 x0), (6, .agg #[.slice none 0 0, .map none])]) (l := []) (by kernel_rfl) trivial ?_
  have hS3 := hS2.bring 1 rfl
  refine ge_set (b := b1) (j := 0) (cs := #[.slice none 0 0, .map none]) (t := 115) (vs := [.slice none 0 0, .map none]) hS3 (by kernel_rfl) rfl rfl fun w3 hS4 => ?_
  have hS5 : St w0 w3 [Own.blk b1 (.cells #[.slice none 0 0, .map none] 115 (0, 0)), Own.blk b2 (.cells #[.int .i64 0, .int .i64 0] 40 (0, 0))] := hS4
  have hS6 := hS5.bring 1 rfl
  refine ge_set (b := b2) (j := 0) (cs := #[.int .i64 0, .int .i64 0]) (t := 40) (vs := [.int .i64 x0, .int .i64 x1]) hS6 (by kernel_rfl) rfl rfl fun w4 hS7 => ?_
  have hS8 : St w0 w4 [Own.blk b2 (.cells #[.int .i64 x0, .int .i64 x1] 40 (0, 0)), Own.blk b1 (.cells #[.slice none 0 0, .map none] 115 (0, 0))] := hS7
  refine ge_nil fun a hF => hK2 _ _ ?_ a hF
  have hS9 := hS8.nil (α := Int) 3
  have hS10 := hS9.nilMap (κ := Int) (ν := Int)
  have hS11 := hS10.bring 1 rfl
  have hS12 := hS11.takeN 2
  subst h
  exact we_ret (post_ret (rs := [.cell 4 115, .cell 5 40]) (ans := [.val ((.slice none 0 0)), .val (.map none), .val (.int .i64 x0), .val (.int .i64 x1)]) (vs := [.agg #[(.slice none 0 0), .map none], .agg #[.int .i64 x0, .int .i64 x1]]) (l := [.loaded ⟨b1, 0, none⟩ ((.slice none 0 0)), .loaded ⟨b1, 1, none⟩ (.map none), .loaded ⟨b2, 0, none⟩ (.int .i64 x0), .loaded ⟨b2, 1, none⟩ (.int .i64 x1)]) rfl (by kernel_rfl) ⟨hS10.cell 3 rfl rfl, hS10.cell 3 rfl rfl, hS10.cell 2 rfl rfl, hS10.cell 2 rfl rfl, trivial⟩ ⟨(.slice none 0 0), none, rfl, hS12⟩)

/-! punctual/mach.operand -/
abbrev mach_operand.Post (w0 : World) (r : Int × Int) (e : Ending) (w : World) : Prop := e = .returned (.tuple #[.int .i64 r.1, .int .i64 r.2]) ∧ St w0 w []
def mach_operand.p0 (x0 : Int) : Option (Bool ⊕ (Int × Int)) :=
    if x0 = 2 then
      some (.inl true)
    else
      if x0 = 3 then
        some (.inl true)
      else
        some (.inl (x0 == 15))
def mach_operand.p1 (x0 : Int) : Option (Bool ⊕ (Int × Int)) :=
    if x0 = 9 then
      some (.inl true)
    else
      if x0 = 10 then
        some (.inl true)
      else
        if x0 = 16 then
          some (.inl true)
        else
          some (.inl (x0 == 17))
def mach_operand.f (x0 : Int) : Option (Int × Int) :=
  if x0 = 1 then
    some (999999999, (-1))
  else
    match mach_operand.p0 x0 with
    | none => none
    | some (.inl q2) =>
      if q2 = true then
        some (7, (-1))
      else
        match mach_operand.p1 x0 with
        | none => none
        | some (.inl q4) =>
          if q4 = true then
            some (3, (-1))
          else
            if x0 = 11 then
              some (2000, (-1))
            else
              if x0 = 12 then
                some (2000, (-1))
              else
                if x0 = 13 then
                  some (7, 1000)
                else
                  if x0 = 14 then
                    some (7, 2000)
                  else
                    if x0 = 18 then
                      some (1000, (-1))
                    else
                      some ((-1), (-1))
        | some (.inr rr1) =>
          some rr1
    | some (.inr rr2) =>
      some rr2
abbrev mach_operand.A0 (K : Nat) (w0 : World) (x0 : Int) (hc1 : ¬ (x0 = 1)) : Bool → Act → World → Prop := fun (s : Bool) a w => St w0 w [] ∧ Frm 25 a [(4, .int .i64 x0), (7, .bool s)]
abbrev mach_operand.B0 (K : Nat) (w0 : World) (x0 : Int) (hc1 : ¬ (x0 = 1)) : (Int × Int) → Exit → Act → World → Prop := Rets Try.prog Try.f83 (mach_operand.Post w0)
theorem mach_operand_p0 (K : Nat) (w0 : World) (x0 : Int) (hc1 : ¬ (x0 = 1)) (o : Bool ⊕ (Int × Int)) (h : mach_operand.p0 x0 = some o) (w : World) (hS : St w0 w []) (Q : Exit → Act → World → Prop) (hQ : ∀ x a w, Outs (mach_operand.A0 K w0 x0 hc1) (mach_operand.B0 K w0 x0 hc1) o x a w → Q x a w) : WE Try.prog 25 (subF Try.f83 [1, 0, 1, 0, 1, 1, 0]) Q [(0, .int .i64 x0), (2, .int .i64 0), (3, .int .i64 0), (4, .int .i64 x0), (5, .bool false), (6, .bool (x0 == 1))] w := by
  simp only [mach_operand.p0] at h
  refine we_seq fun K7 hK7 => ?_
  refine we_region [(0, 0), (1, 0)] rfl ?_
  refine ge_batch [0, 1] (ans := []) (vs := [(7, .bool (x0 == 2)), (8, .bool (x0 == 2))]) (l := []) (by kernel_rfl) trivial ?_
  refine ge_nil fun a hF => hK7 _ _ ?_ a hF
  by_cases hc2 : x0 = 2
  · rw [if_pos hc2] at h
    refine we_known (t := 7) (b := (x0 == 2)) (v := true) (by kernel_rfl) (beq_iff_eq.2 hc2) ?_
    refine we_true (by kernel_rfl) ?_
    obtain rfl := Option.some.inj h
    exact we_skip fun a hF => hQ _ _ _ (Outs.again ⟨hS, hF.weaken ⟨by kernel_rfl, by kernel_rfl, trivial⟩⟩)
  · rw [if_neg hc2] at h
    refine we_known (t := 7) (b := (x0 == 2)) (v := false) (by kernel_rfl) (beq_eq_false_iff_ne.2 hc2) ?_
    refine we_false (by kernel_rfl) ?_
    refine we_seq fun K8 hK8 => ?_
    refine we_region [(0, 0), (1, 0)] rfl ?_
    refine ge_batch [0, 1] (ans := []) (vs := [(7, .bool (x0 == 3)), (9, .bool (x0 == 3))]) (l := []) (by kernel_rfl) trivial ?_
    refine ge_nil fun a hF => hK8 _ _ ?_ a hF
    by_cases hc3 : x0 = 3
    · rw [if_pos hc3] at h
      refine we_known (t := 7) (b := (x0 == 3)) (v := true) (by kernel_rfl) (beq_iff_eq.2 hc3) ?_
      refine we_true (by kernel_rfl) ?_
      obtain rfl := Option.some.inj h
      exact we_skip fun a hF => hQ _ _ _ (Outs.again ⟨hS, hF.weaken ⟨by kernel_rfl, by kernel_rfl, trivial⟩⟩)
    · rw [if_neg hc3] at h
      refine we_known (t := 7) (b := (x0 == 3)) (v := false) (by kernel_rfl) (beq_eq_false_iff_ne.2 hc3) ?_
      refine we_false (by kernel_rfl) ?_
      refine we_region [(0, 0), (1, 0)] rfl ?_
      refine ge_batch [0, 1] (ans := []) (vs := [(7, .bool (x0 == 15)), (10, .bool (x0 == 15))]) (l := []) (by kernel_rfl) trivial ?_
      obtain rfl := Option.some.inj h
      exact ge_nil fun a hF => hQ _ _ _ (Outs.again ⟨hS, hF.weaken ⟨by kernel_rfl, by kernel_rfl, trivial⟩⟩)
abbrev mach_operand.A1 (K : Nat) (w0 : World) (x0 : Int) (hc1 : ¬ (x0 = 1)) (q2 : Bool) (hc4 : ¬ (q2 = true)) : Bool → Act → World → Prop := fun (s : Bool) a w => St w0 w [] ∧ Frm 25 a [(4, .int .i64 x0), (11, .bool s)]
abbrev mach_operand.B1 (K : Nat) (w0 : World) (x0 : Int) (hc1 : ¬ (x0 = 1)) (q2 : Bool) (hc4 : ¬ (q2 = true)) : (Int × Int) → Exit → Act → World → Prop := Rets Try.prog Try.f83 (mach_operand.Post w0)
theorem mach_operand_p1 (K : Nat) (w0 : World) (x0 : Int) (hc1 : ¬ (x0 = 1)) (q2 : Bool) (hc4 : ¬ (q2 = true)) (o : Bool ⊕ (Int × Int)) (h : mach_operand.p1 x0 = some o) (w : World) (hS : St w0 w []) (Q : Exit → Act → World → Prop) (hQ : ∀ x a w, Outs (mach_operand.A1 K w0 x0 hc1 q2 hc4) (mach_operand.B1 K w0 x0 hc1 q2 hc4) o x a w → Q x a w) : WE Try.prog 25 (subF Try.f83 [1, 0, 1, 0, 1, 1, 1, 1, 0]) Q [(4, .int .i64 x0), (7, .bool false)] w := by
  simp only [mach_operand.p1] at h
  refine we_seq fun K11 hK11 => ?_
  refine we_region [(0, 0), (1, 0)] rfl ?_
  refine ge_batch [0, 1] (ans := []) (vs := [(11, .bool (x0 == 9)), (12, .bool (x0 == 9))]) (l := []) (by kernel_rfl) trivial ?_
  refine ge_nil fun a hF => hK11 _ _ ?_ a hF
  by_cases hc5 : x0 = 9
  · rw [if_pos hc5] at h
    refine we_known (t := 11) (b := (x0 == 9)) (v := true) (by kernel_rfl) (beq_iff_eq.2 hc5) ?_
    refine we_true (by kernel_rfl) ?_
    obtain rfl := Option.some.inj h
    exact we_skip fun a hF => hQ _ _ _ (Outs.again ⟨hS, hF.weaken ⟨by kernel_rfl, by kernel_rfl, trivial⟩⟩)
  · rw [if_neg hc5] at h
    refine we_known (t := 11) (b := (x0 == 9)) (v := false) (by kernel_rfl) (beq_eq_false_iff_ne.2 hc5) ?_
    refine we_false (by kernel_rfl) ?_
    refine we_seq fun K12 hK12 => ?_
    refine we_region [(0, 0), (1, 0)] rfl ?_
    refine ge_batch [0, 1] (ans := []) (vs := [(11, .bool (x0 == 10)), (13, .bool (x0 == 10))]) (l := []) (by kernel_rfl) trivial ?_
    refine ge_nil fun a hF => hK12 _ _ ?_ a hF
    by_cases hc6 : x0 = 10
    · rw [if_pos hc6] at h
      refine we_known (t := 11) (b := (x0 == 10)) (v := true) (by kernel_rfl) (beq_iff_eq.2 hc6) ?_
      refine we_true (by kernel_rfl) ?_
      obtain rfl := Option.some.inj h
      exact we_skip fun a hF => hQ _ _ _ (Outs.again ⟨hS, hF.weaken ⟨by kernel_rfl, by kernel_rfl, trivial⟩⟩)
    · rw [if_neg hc6] at h
      refine we_known (t := 11) (b := (x0 == 10)) (v := false) (by kernel_rfl) (beq_eq_false_iff_ne.2 hc6) ?_
      refine we_false (by kernel_rfl) ?_
      refine we_seq fun K13 hK13 => ?_
      refine we_region [(0, 0), (1, 0)] rfl ?_
      refine ge_batch [0, 1] (ans := []) (vs := [(11, .bool (x0 == 16)), (14, .bool (x0 == 16))]) (l := []) (by kernel_rfl) trivial ?_
      refine ge_nil fun a hF => hK13 _ _ ?_ a hF
      by_cases hc7 : x0 = 16
      · rw [if_pos hc7] at h
        refine we_known (t := 11) (b := (x0 == 16)) (v := true) (by kernel_rfl) (beq_iff_eq.2 hc7) ?_
        refine we_true (by kernel_rfl) ?_
        obtain rfl := Option.some.inj h
        exact we_skip fun a hF => hQ _ _ _ (Outs.again ⟨hS, hF.weaken ⟨by kernel_rfl, by kernel_rfl, trivial⟩⟩)
      · rw [if_neg hc7] at h
        refine we_known (t := 11) (b := (x0 == 16)) (v := false) (by kernel_rfl) (beq_eq_false_iff_ne.2 hc7) ?_
        refine we_false (by kernel_rfl) ?_
        refine we_region [(0, 0), (1, 0)] rfl ?_
        refine ge_batch [0, 1] (ans := []) (vs := [(11, .bool (x0 == 17)), (15, .bool (x0 == 17))]) (l := []) (by kernel_rfl) trivial ?_
        obtain rfl := Option.some.inj h
        exact ge_nil fun a hF => hQ _ _ _ (Outs.again ⟨hS, hF.weaken ⟨by kernel_rfl, by kernel_rfl, trivial⟩⟩)
theorem mach_operand_ok (x0 : Int) (w0 : World) (r : Int × Int) (h : mach_operand.f x0 = some r) :
    Calls Try.prog 83 #[.int .i64 x0] w0 (mach_operand.Post w0 r) := by
  have hS := St.start w0
  unfold mach_operand.f at h
  refine calls_enter (n := 25) (args := [.int .i64 x0]) (fn := Try.f83) rfl rfl rfl rfl ?_
  show WE _ _ _ _ [(0, .int .i64 x0)] _
  refine we_seq fun K1 hK1 => ?_
  refine we_region [(0, 0), (1, 0)] rfl ?_
  refine ge_batch [0, 1] (ans := []) (vs := [(3, .int .i64 0), (2, .int .i64 0)]) (l := []) (by kernel_rfl) trivial ?_
  refine ge_nil fun a hF => hK1 _ _ ?_ a hF
  refine we_seq fun K2 hK2 => ?_
  refine we_seq fun K3 hK3 => ?_
  refine we_region [(0, 0)] rfl ?_
  refine ge_batch [0] (ans := []) (vs := [(4, .int .i64 x0)]) (l := []) (by kernel_rfl) trivial ?_
  refine ge_nil fun a hF => hK3 _ _ ?_ a hF
  refine we_block ?_
  refine we_seq fun K4 hK4 => ?_
  refine we_region [(0, 0), (1, 0)] rfl ?_
  refine ge_batch [0, 1] (ans := []) (vs := [(5, .bool (x0 == 1)), (6, .bool (x0 == 1))]) (l := []) (by kernel_rfl) trivial ?_
  refine ge_nil fun a hF => hK4 _ _ ?_ a hF
  by_cases hc1 : x0 = 1
  · rw [if_pos hc1] at h
    refine we_known (t := 5) (b := (x0 == 1)) (v := true) (by kernel_rfl) (beq_iff_eq.2 hc1) ?_
    refine we_true (by kernel_rfl) ?_
    refine we_seq fun K5 hK5 => ?_
    refine we_region [(0, 0), (1, 0)] rfl ?_
    refine ge_batch [0, 1] (ans := []) (vs := [(3, .int .i64 (-1)), (2, .int .i64 999999999)]) (l := []) (by kernel_rfl) trivial ?_
    refine ge_nil fun a hF => hK5 _ _ ?_ a hF
    obtain rfl := Option.some.inj h
    exact we_ret (post_ret (rs := [.tmp 2, .tmp 3]) (ans := []) (vs := [.int .i64 999999999, .int .i64 (-1)]) (l := []) rfl (by kernel_rfl) trivial ⟨rfl, hS⟩)
  · rw [if_neg hc1] at h
    refine we_known (t := 5) (b := (x0 == 1)) (v := false) (by kernel_rfl) (beq_eq_false_iff_ne.2 hc1) ?_
    refine we_false (by kernel_rfl) ?_
    refine we_seq fun K6 hK6 => ?_
    rcases hq1 : mach_operand.p0 x0 with _ | (q2 | rr2)
    · rw [hq1] at h; cases h
    · rw [hq1] at h
      simp only [] at h
      refine we_keep (e' := [(0, .int .i64 x0), (2, .int .i64 0), (3, .int .i64 0), (4, .int .i64 x0), (5, .bool false), (6, .bool (x0 == 1))]) ⟨by kernel_rfl, by kernel_rfl, by kernel_rfl, by kernel_rfl, by kernel_rfl, by kernel_rfl, trivial⟩ (mach_operand_p0 0 w0 x0 hc1 _ hq1 _ hS _ ?_)
      rintro _ a w1 ⟨rfl, hS1, hF⟩
      replace hS1 : St w0 w1 [] := hS1
      refine hK6 [(4, .int .i64 x0), (7, .bool q2)] w1 ?_ a hF
      by_cases hc4 : q2 = true
      · rw [if_pos hc4] at h
        refine we_known (t := 7) (b := q2) (v := true) (by kernel_rfl) hc4 ?_
        refine we_true (by kernel_rfl) ?_
        refine we_seq fun K9 hK9 => ?_
        refine we_region [(0, 0), (1, 0)] rfl ?_
        refine ge_batch [0, 1] (ans := []) (vs := [(3, .int .i64 (-1)), (2, .int .i64 7)]) (l := []) (by kernel_rfl) trivial ?_
        refine ge_nil fun a hF => hK9 _ _ ?_ a hF
        obtain rfl := Option.some.inj h
        exact we_ret (post_ret (rs := [.tmp 2, .tmp 3]) (ans := []) (vs := [.int .i64 7, .int .i64 (-1)]) (l := []) rfl (by kernel_rfl) trivial ⟨rfl, hS1⟩)
      · rw [if_neg hc4] at h
        refine we_known (t := 7) (b := q2) (v := false) (by kernel_rfl) (Bool.eq_false_iff.2 hc4) ?_
        refine we_false (by kernel_rfl) ?_
        refine we_seq fun K10 hK10 => ?_
        rcases hq2 : mach_operand.p1 x0 with _ | (q4 | rr1)
        · rw [hq2] at h; cases h
        · rw [hq2] at h
          simp only [] at h
          refine we_keep (e' := [(4, .int .i64 x0), (7, .bool false)]) ⟨by kernel_rfl, by kernel_rfl, trivial⟩ (mach_operand_p1 0 w0 x0 hc1 q2 hc4 _ hq2 _ hS1 _ ?_)
          rintro _ a w2 ⟨rfl, hS2, hF⟩
          replace hS2 : St w0 w2 [] := hS2
          refine hK10 [(4, .int .i64 x0), (11, .bool q4)] w2 ?_ a hF
          by_cases hc8 : q4 = true
          · rw [if_pos hc8] at h
            refine we_known (t := 11) (b := q4) (v := true) (by kernel_rfl) hc8 ?_
            refine we_true (by kernel_rfl) ?_
            refine we_seq fun K14 hK14 => ?_
            refine we_region [(0, 0), (1, 0)] rfl ?_
            refine ge_batch [0, 1] (ans := []) (vs := [(3, .int .i64 (-1)), (2, .int .i64 3)]) (l := []) (by kernel_rfl) trivial ?_
            refine ge_nil fun a hF => hK14 _ _ ?_ a hF
            obtain rfl := Option.some.inj h
            exact we_ret (post_ret (rs := [.tmp 2, .tmp 3]) (ans := []) (vs := [.int .i64 3, .int .i64 (-1)]) (l := []) rfl (by kernel_rfl) trivial ⟨rfl, hS2⟩)
          · rw [if_neg hc8] at h
            refine we_known (t := 11) (b := q4) (v := false) (by kernel_rfl) (Bool.eq_false_iff.2 hc8) ?_
            refine we_false (by kernel_rfl) ?_
            refine we_seq fun K15 hK15 => ?_
            refine we_seq fun K16 hK16 => ?_
            refine we_region [(0, 0), (1, 0)] rfl ?_
            refine ge_batch [0, 1] (ans := []) (vs := [(16, .bool (x0 == 11)), (17, .bool (x0 == 11))]) (l := []) (by kernel_rfl) trivial ?_
            refine ge_nil fun a hF => hK16 _ _ ?_ a hF
            by_cases hc9 : x0 = 11
            · rw [if_pos hc9] at h
              refine we_known (t := 16) (b := (x0 == 11)) (v := true) (by kernel_rfl) (beq_iff_eq.2 hc9) ?_
              refine we_true (by kernel_rfl) ?_
              refine we_skip fun a hF => hK15 _ _ ?_ a hF
              refine we_true (by kernel_rfl) ?_
              refine we_seq fun K17 hK17 => ?_
              refine we_region [(0, 0), (1, 0)] rfl ?_
              refine ge_batch [0, 1] (ans := []) (vs := [(3, .int .i64 (-1)), (2, .int .i64 2000)]) (l := []) (by kernel_rfl) trivial ?_
              refine ge_nil fun a hF => hK17 _ _ ?_ a hF
              obtain rfl := Option.some.inj h
              exact we_ret (post_ret (rs := [.tmp 2, .tmp 3]) (ans := []) (vs := [.int .i64 2000, .int .i64 (-1)]) (l := []) rfl (by kernel_rfl) trivial ⟨rfl, hS2⟩)
            · rw [if_neg hc9] at h
              refine we_known (t := 16) (b := (x0 == 11)) (v := false) (by kernel_rfl) (beq_eq_false_iff_ne.2 hc9) ?_
              refine we_false (by kernel_rfl) ?_
              refine we_region [(0, 0), (1, 0)] rfl ?_
              refine ge_batch [0, 1] (ans := []) (vs := [(16, .bool (x0 == 12)), (18, .bool (x0 == 12))]) (l := []) (by kernel_rfl) trivial ?_
              refine ge_nil fun a hF => hK15 _ _ ?_ a hF
              by_cases hc10 : x0 = 12
              · rw [if_pos hc10] at h
                refine we_known (t := 16) (b := (x0 == 12)) (v := true) (by kernel_rfl) (beq_iff_eq.2 hc10) ?_
                refine we_true (by kernel_rfl) ?_
                refine we_seq fun K18 hK18 => ?_
                refine we_region [(0, 0), (1, 0)] rfl ?_
                refine ge_batch [0, 1] (ans := []) (vs := [(3, .int .i64 (-1)), (2, .int .i64 2000)]) (l := []) (by kernel_rfl) trivial ?_
                refine ge_nil fun a hF => hK18 _ _ ?_ a hF
                obtain rfl := Option.some.inj h
                exact we_ret (post_ret (rs := [.tmp 2, .tmp 3]) (ans := []) (vs := [.int .i64 2000, .int .i64 (-1)]) (l := []) rfl (by kernel_rfl) trivial ⟨rfl, hS2⟩)
              · rw [if_neg hc10] at h
                refine we_known (t := 16) (b := (x0 == 12)) (v := false) (by kernel_rfl) (beq_eq_false_iff_ne.2 hc10) ?_
                refine we_false (by kernel_rfl) ?_
                refine we_seq fun K19 hK19 => ?_
                refine we_region [(0, 0), (1, 0)] rfl ?_
                refine ge_batch [0, 1] (ans := []) (vs := [(19, .bool (x0 == 13)), (20, .bool (x0 == 13))]) (l := []) (by kernel_rfl) trivial ?_
                refine ge_nil fun a hF => hK19 _ _ ?_ a hF
                by_cases hc11 : x0 = 13
                · rw [if_pos hc11] at h
                  refine we_known (t := 19) (b := (x0 == 13)) (v := true) (by kernel_rfl) (beq_iff_eq.2 hc11) ?_
                  refine we_true (by kernel_rfl) ?_
                  refine we_seq fun K20 hK20 => ?_
                  refine we_region [(0, 0), (1, 0)] rfl ?_
                  refine ge_batch [0, 1] (ans := []) (vs := [(3, .int .i64 1000), (2, .int .i64 7)]) (l := []) (by kernel_rfl) trivial ?_
                  refine ge_nil fun a hF => hK20 _ _ ?_ a hF
                  obtain rfl := Option.some.inj h
                  exact we_ret (post_ret (rs := [.tmp 2, .tmp 3]) (ans := []) (vs := [.int .i64 7, .int .i64 1000]) (l := []) rfl (by kernel_rfl) trivial ⟨rfl, hS2⟩)
                · rw [if_neg hc11] at h
                  refine we_known (t := 19) (b := (x0 == 13)) (v := false) (by kernel_rfl) (beq_eq_false_iff_ne.2 hc11) ?_
                  refine we_false (by kernel_rfl) ?_
                  refine we_seq fun K21 hK21 => ?_
                  refine we_region [(0, 0), (1, 0)] rfl ?_
                  refine ge_batch [0, 1] (ans := []) (vs := [(21, .bool (x0 == 14)), (22, .bool (x0 == 14))]) (l := []) (by kernel_rfl) trivial ?_
                  refine ge_nil fun a hF => hK21 _ _ ?_ a hF
                  by_cases hc12 : x0 = 14
                  · rw [if_pos hc12] at h
                    refine we_known (t := 21) (b := (x0 == 14)) (v := true) (by kernel_rfl) (beq_iff_eq.2 hc12) ?_
                    refine we_true (by kernel_rfl) ?_
                    refine we_seq fun K22 hK22 => ?_
                    refine we_region [(0, 0), (1, 0)] rfl ?_
                    refine ge_batch [0, 1] (ans := []) (vs := [(3, .int .i64 2000), (2, .int .i64 7)]) (l := []) (by kernel_rfl) trivial ?_
                    refine ge_nil fun a hF => hK22 _ _ ?_ a hF
                    obtain rfl := Option.some.inj h
                    exact we_ret (post_ret (rs := [.tmp 2, .tmp 3]) (ans := []) (vs := [.int .i64 7, .int .i64 2000]) (l := []) rfl (by kernel_rfl) trivial ⟨rfl, hS2⟩)
                  · rw [if_neg hc12] at h
                    refine we_known (t := 21) (b := (x0 == 14)) (v := false) (by kernel_rfl) (beq_eq_false_iff_ne.2 hc12) ?_
                    refine we_false (by kernel_rfl) ?_
                    refine we_seq fun K23 hK23 => ?_
                    refine we_region [(0, 0), (1, 0)] rfl ?_
                    refine ge_batch [0, 1] (ans := []) (vs := [(23, .bool (x0 == 18)), (24, .bool (x0 == 18))]) (l := []) (by kernel_rfl) trivial ?_
                    refine ge_nil fun a hF => hK23 _ _ ?_ a hF
                    by_cases hc13 : x0 = 18
                    · rw [if_pos hc13] at h
                      refine we_known (t := 23) (b := (x0 == 18)) (v := true) (by kernel_rfl) (beq_iff_eq.2 hc13) ?_
                      refine we_true (by kernel_rfl) ?_
                      refine we_seq fun K24 hK24 => ?_
                      refine we_region [(0, 0), (1, 0)] rfl ?_
                      refine ge_batch [0, 1] (ans := []) (vs := [(3, .int .i64 (-1)), (2, .int .i64 1000)]) (l := []) (by kernel_rfl) trivial ?_
                      refine ge_nil fun a hF => hK24 _ _ ?_ a hF
                      obtain rfl := Option.some.inj h
                      exact we_ret (post_ret (rs := [.tmp 2, .tmp 3]) (ans := []) (vs := [.int .i64 1000, .int .i64 (-1)]) (l := []) rfl (by kernel_rfl) trivial ⟨rfl, hS2⟩)
                    · rw [if_neg hc13] at h
                      refine we_known (t := 23) (b := (x0 == 18)) (v := false) (by kernel_rfl) (beq_eq_false_iff_ne.2 hc13) ?_
                      refine we_false (by kernel_rfl) ?_
                      refine we_skip fun a hF => hK2 _ _ ?_ a hF
                      refine we_seq fun K25 hK25 => ?_
                      refine we_region [(0, 0), (1, 0)] rfl ?_
                      refine ge_batch [0, 1] (ans := []) (vs := [(3, .int .i64 (-1)), (2, .int .i64 (-1))]) (l := []) (by kernel_rfl) trivial ?_
                      refine ge_nil fun a hF => hK25 _ _ ?_ a hF
                      obtain rfl := Option.some.inj h
                      exact we_ret (post_ret (rs := [.tmp 2, .tmp 3]) (ans := []) (vs := [.int .i64 (-1), .int .i64 (-1)]) (l := []) rfl (by kernel_rfl) trivial ⟨rfl, hS2⟩)
        · rw [hq2] at h
          simp only [] at h
          refine we_keep (e' := [(4, .int .i64 x0), (7, .bool false)]) ⟨by kernel_rfl, by kernel_rfl, trivial⟩ (mach_operand_p1 0 w0 x0 hc1 q2 hc4 _ hq2 _ hS1 _ ?_)
          rintro _ a w1 ⟨_, rfl, hb⟩
          obtain rfl := Option.some.inj h
          exact hb
    · rw [hq1] at h
      simp only [] at h
      refine we_keep (e' := [(0, .int .i64 x0), (2, .int .i64 0), (3, .int .i64 0), (4, .int .i64 x0), (5, .bool false), (6, .bool (x0 == 1))]) ⟨by kernel_rfl, by kernel_rfl, by kernel_rfl, by kernel_rfl, by kernel_rfl, by kernel_rfl, trivial⟩ (mach_operand_p0 0 w0 x0 hc1 _ hq1 _ hS _ ?_)
      rintro _ a w1 ⟨_, rfl, hb⟩
      obtain rfl := Option.some.inj h
      exact hb

/-! punctual/mach.fits -/
abbrev mach_fits.Post (w0 : World) (r : Bool) (e : Ending) (w : World) : Prop := e = .returned (.bool r) ∧ St w0 w []
def mach_fits.f (x0 : Int) (x1 : Int) : Bool :=
  if x0 ≥ 0 then
    decide (x0 ≤ (gmax x1 0))
  else
    false
theorem mach_fits_ok (x0 : Int) (x1 : Int) (w0 : World) (r : Bool) (h : mach_fits.f x0 x1 = r) :
    Calls Try.prog 84 #[.int .i64 x0, .int .i64 x1] w0 (mach_fits.Post w0 r) := by
  have hS := St.start w0
  unfold mach_fits.f at h
  refine calls_enter (n := 13) (args := [.int .i64 x0, .int .i64 x1]) (fn := Try.f84) rfl rfl rfl rfl ?_
  show WE _ _ _ _ [(0, .int .i64 x0), (1, .int .i64 x1)] _
  refine we_seq fun K1 hK1 => ?_
  refine we_region [(0, 0)] rfl ?_
  refine ge_batch [0] (ans := []) (vs := [(4, .bool false)]) (l := []) (by kernel_rfl) trivial ?_
  refine ge_nil fun a hF => hK1 _ _ ?_ a hF
  refine we_seq fun K2 hK2 => ?_
  refine we_region [(0, 0), (1, 0), (2, 0), (3, 0), (4, 0), (5, 0), (6, 0), (7, 0), (8, 0)] rfl ?_
  refine ge_batch [0, 1, 2] (ans := []) (vs := [(7, .bool (decide (x0 ≥ 0))), (6, .bool (decide (x0 ≥ 0))), (5, .int .i64 x0)]) (l := []) (by kernel_rfl) trivial ?_
  by_cases hc1 : x0 ≥ 0
  · rw [if_pos hc1] at h
    refine ge_known (t := 7) (b := decide (x0 ≥ 0)) (c := true) (by kernel_rfl) (decide_eq_true hc1) ?_
    refine ge_batch [3, 4, 5, 6, 7, 8] (ans := []) (vs := [(4, .bool (decide (x0 ≤ (gmax x1 0)))), (12, .bool (decide (x0 ≤ (gmax x1 0)))), (11, .bool (decide (x0 ≤ (gmax x1 0)))), (10, .int .i64 (gmax x1 0)), (9, .int .i64 x1), (8, .int .i64 x0)]) (l := []) (by kernel_rfl) trivial ?_
    refine ge_nil fun a hF => hK2 _ _ ?_ a hF
    subst h
    exact we_ret (post_ret (rs := [.tmp 4]) (ans := []) (vs := [.bool (decide (x0 ≤ (gmax x1 0)))]) (l := []) rfl (by kernel_rfl) trivial ⟨rfl, hS⟩)
  · rw [if_neg hc1] at h
    refine ge_known (t := 7) (b := decide (x0 ≥ 0)) (c := false) (by kernel_rfl) (decide_eq_false hc1) ?_
    refine ge_batch [3, 4, 5, 6, 7, 8] (ans := []) (vs := [(4, .bool false), (12, .bool false), (11, undef), (10, undef), (9, undef), (8, undef)]) (l := []) (by kernel_rfl) trivial ?_
    refine ge_nil fun a hF => hK2 _ _ ?_ a hF
    subst h
    exact we_ret (post_ret (rs := [.tmp 4]) (ans := []) (vs := [.bool false]) (l := []) rfl (by kernel_rfl) trivial ⟨rfl, hS⟩)

/-! (*punctual/mach.looker).top -/
abbrev mach_looker_top.Post (w0 : World) (bp0 : Nat) (lp0_0 : List SIns) (Ap0_0 : Option Addr) (cp0_0 : Nat) (lp0_1 : List Int) (Ap0_1 : Option Addr) (cp0_1 : Nat) (lp0_2 : List Int) (Ap0_2 : Option Addr) (cp0_2 : Nat) (mp0_3 : List (Int × Int)) (mbp0_3 : Nat) (LT : List Own) (r : Int) (e : Ending) (w : World) : Prop := e = .returned (.int .i64 r) ∧ St w0 w [Own.blk bp0 (.cells #[.slice Ap0_0 lp0_0.length cp0_0, (.slice Ap0_1 lp0_1.length cp0_1), (.slice Ap0_2 lp0_2.length cp0_2), .map (some mbp0_3)] 143 (0, 0)), Own.of (.slice Ap0_1 lp0_1.length cp0_1) 3 lp0_1, Own.of (.slice Ap0_2 lp0_2.length cp0_2) 3 lp0_2, Own.map (κ := Int) (ν := Int) mbp0_3 mp0_3, Own.all LT]
def mach_looker_top.f (lp0_0 : List SIns) (lp0_1 : List Int) (lp0_2 : List Int) (mp0_3 : List (Int × Int)) : Option Int :=
  if (lp0_1.length : Int) = 0 then
    some (-1)
  else
    if 0 ≤ (IntKind.i64.wrap ((lp0_1.length : Int) - 1)) then
      match lp0_1[(IntKind.i64.wrap ((lp0_1.length : Int) - 1)).toNat]? with
      | none => none
      | some e1 =>
        some e1
    else
      none
theorem mach_looker_top_ok (bp0 : Nat) (lp0_0 : List SIns) (Ap0_0 : Option Addr) (cp0_0 : Nat) (lp0_1 : List Int) (Ap0_1 : Option Addr) (cp0_1 : Nat) (lp0_2 : List Int) (Ap0_2 : Option Addr) (cp0_2 : Nat) (mp0_3 : List (Int × Int)) (mbp0_3 : Nat) (w0 wE : World) (LT : List Own) (hS : St w0 wE [Own.blk bp0 (.cells #[.slice Ap0_0 lp0_0.length cp0_0, (.slice Ap0_1 lp0_1.length cp0_1), (.slice Ap0_2 lp0_2.length cp0_2), .map (some mbp0_3)] 143 (0, 0)), Own.of (.slice Ap0_1 lp0_1.length cp0_1) 3 lp0_1, Own.of (.slice Ap0_2 lp0_2.length cp0_2) 3 lp0_2, Own.map (κ := Int) (ν := Int) mbp0_3 mp0_3, Own.all LT]) (hRp0_0 : RdL w0 Ap0_0 lp0_0) (hLp0_0 : lp0_0.length ≤ cp0_0) (r : Int) (h : mach_looker_top.f lp0_0 lp0_1 lp0_2 mp0_3 = some r) :
    Calls Try.prog 103 #[.pointer (some ⟨bp0, 0, none⟩)] wE (mach_looker_top.Post w0 bp0 lp0_0 Ap0_0 cp0_0 lp0_1 Ap0_1 cp0_1 lp0_2 Ap0_2 cp0_2 mp0_3 mbp0_3 LT r) := by
  unfold mach_looker_top.f at h
  refine calls_enter (n := 21) (args := [.pointer (some ⟨bp0, 0, none⟩)]) (fn := Try.f103) rfl rfl rfl rfl ?_
  show WE _ _ _ _ [(0, .pointer (some ⟨bp0, 0, none⟩))] _
  refine we_seq fun K1 hK1 => ?_
  refine we_region [(0, 0)] rfl ?_
  refine ge_batch [0] (ans := []) (vs := [(2, .int .i64 0)]) (l := []) (by kernel_rfl) trivial ?_
  refine ge_nil fun a hF => hK1 _ _ ?_ a hF
  refine we_seq fun K2 hK2 => ?_
  refine we_seq fun K3 hK3 => ?_
  refine we_region [(0, 0), (1, 0), (2, 0), (3, 0), (4, 0), (5, 0)] rfl ?_
  refine ge_batch [0, 1, 2, 3, 4, 5] (ans := [.val ((.slice Ap0_1 lp0_1.length cp0_1))]) (vs := [(8, .bool ((lp0_1.length : Int) == 0)), (7, .int .i64 (lp0_1.length : Int)), (6, (.slice Ap0_1 lp0_1.length cp0_1)), (5, .pointer (some ⟨bp0, 1, none⟩)), (4, .pointer (some ⟨bp0, 0, none⟩)), (3, .pointer (some ⟨bp0, 0, none⟩))]) (l := [.loaded ⟨bp0, 1, none⟩ ((.slice Ap0_1 lp0_1.length cp0_1))]) (by kernel_rfl) ⟨hS.cell 0 rfl rfl, trivial⟩ ?_
  refine ge_nil fun a hF => hK3 _ _ ?_ a hF
  by_cases hc1 : (lp0_1.length : Int) = 0
  · rw [if_pos hc1] at h
    refine we_known (t := 8) (b := ((lp0_1.length : Int) == 0)) (v := true) (by kernel_rfl) (beq_iff_eq.2 hc1) ?_
    refine we_true (by kernel_rfl) ?_
    refine we_seq fun K4 hK4 => ?_
    refine we_region [(0, 0)] rfl ?_
    refine ge_batch [0] (ans := []) (vs := [(2, .int .i64 (-1))]) (l := []) (by kernel_rfl) trivial ?_
    refine ge_nil fun a hF => hK4 _ _ ?_ a hF
    have hS1 := hS.bring 4 rfl
    have hS2 := hS1.bring 4 rfl
    have hS3 := hS2.bring 4 rfl
    have hS4 := hS3.bring 4 rfl
    have hS5 := hS4.bring 4 rfl
    obtain rfl := Option.some.inj h
    exact we_ret (post_ret (rs := [.tmp 2]) (ans := []) (vs := [.int .i64 (-1)]) (l := []) rfl (by kernel_rfl) trivial ⟨rfl, hS5⟩)
  · rw [if_neg hc1] at h
    refine we_known (t := 8) (b := ((lp0_1.length : Int) == 0)) (v := false) (by kernel_rfl) (beq_eq_false_iff_ne.2 hc1) ?_
    refine we_false (by kernel_rfl) ?_
    refine we_skip fun a hF => hK2 _ _ ?_ a hF
    refine we_seq fun K5 hK5 => ?_
    refine we_draws (by kernel_rfl) [(0, 0), (1, 0), (2, 0), (3, 0), (4, 0), (5, 0), (6, 0), (7, 0), (8, 0), (9, 0), (10, 0), (11, 0), (12, 0)] (by kernel_rfl) ?_
    have hS6 := hS.drew
    refine ge_batch [0, 1, 2, 3, 4, 5, 6, 7, 8, 9] (ans := [.val ((.slice Ap0_1 lp0_1.length cp0_1)), .val ((.slice Ap0_1 lp0_1.length cp0_1))]) (vs := [(18, .int .i64 (IntKind.i64.wrap ((lp0_1.length : Int) - 1))), (17, .int .i64 (lp0_1.length : Int)), (16, (.slice Ap0_1 lp0_1.length cp0_1)), (15, .pointer (some ⟨bp0, 1, none⟩)), (14, .pointer (some ⟨bp0, 0, none⟩)), (13, .pointer (some ⟨bp0, 0, none⟩)), (12, (.slice Ap0_1 lp0_1.length cp0_1)), (11, .pointer (some ⟨bp0, 1, none⟩)), (10, .pointer (some ⟨bp0, 0, none⟩)), (9, .pointer (some ⟨bp0, 0, none⟩))]) (l := [.loaded ⟨bp0, 1, none⟩ ((.slice Ap0_1 lp0_1.length cp0_1)), .loaded ⟨bp0, 1, none⟩ ((.slice Ap0_1 lp0_1.length cp0_1))]) (by kernel_rfl) ⟨hS6.cell 0 rfl rfl, hS6.cell 0 rfl rfl, trivial⟩ ?_
    by_cases hc2 : 0 ≤ (IntKind.i64.wrap ((lp0_1.length : Int) - 1))
    · rw [if_pos hc2] at h
      rcases hx1 : lp0_1[(IntKind.i64.wrap ((lp0_1.length : Int) - 1)).toNat]? with _ | e1
      · rw [hx1] at h; cases h
      rw [hx1] at h
      simp only [] at h
      refine ge_index (d := 19) (ty := 0) (t := 24) (el := 3) (sz := 1) (m := lp0_1.length) (c := cp0_1) (x := (.tmp 12)) (y := (.tmp 18)) (A := Ap0_1) (k' := .i64) (j := (IntKind.i64.wrap ((lp0_1.length : Int) - 1))) (jn := ((IntKind.i64.wrap ((lp0_1.length : Int) - 1)).toNat)) (b0 := blkOf Ap0_1) (o0 := offOf Ap0_1) (by kernel_rfl) (by kernel_rfl) (by kernel_rfl) (by kernel_rfl) (by kernel_rfl) ((hS6.rdAt 1 rfl).eqSome (pos_of_get hx1)) (Int.toNat_of_nonneg hc2).symm (lt_of_get hx1) ?_
      refine ge_batch [11, 12] (ans := [.val (.int .i64 e1)]) (vs := [(2, .int .i64 e1), (20, .int .i64 e1)]) (l := [.loaded ⟨blkOf Ap0_1, offOf Ap0_1 + ((IntKind.i64.wrap ((lp0_1.length : Int) - 1)).toNat) * 1, none⟩ (.int .i64 e1)]) (by kernel_rfl) ⟨RdL.cell (j := 0) (hS6.rdAt 1 rfl) hx1 rfl, trivial⟩ ?_
      refine ge_nil fun a hF => hK5 _ _ ?_ a hF
      have hS7 := hS6.bring 4 rfl
      have hS8 := hS7.bring 4 rfl
      have hS9 := hS8.bring 4 rfl
      have hS10 := hS9.bring 4 rfl
      have hS11 := hS10.bring 4 rfl
      obtain rfl := Option.some.inj h
      exact we_ret (post_ret (rs := [.tmp 2]) (ans := []) (vs := [.int .i64 e1]) (l := []) rfl (by kernel_rfl) trivial ⟨rfl, hS11⟩)
    · rw [if_neg hc2] at h
      cases h

/-! (*punctual/mach.looker).holds -/
abbrev mach_looker_holds.Post (w0 : World) (bp0 : Nat) (lp0_0 : List SIns) (Ap0_0 : Option Addr) (cp0_0 : Nat) (lp0_1 : List Int) (Ap0_1 : Option Addr) (cp0_1 : Nat) (lp0_2 : List Int) (Ap0_2 : Option Addr) (cp0_2 : Nat) (mp0_3 : List (Int × Int)) (mbp0_3 : Nat) (x1 : Int) (x2 : Int) (LT : List Own) (r : Bool) (e : Ending) (w : World) : Prop := e = .returned (.bool r) ∧ St w0 w [Own.blk bp0 (.cells #[.slice Ap0_0 lp0_0.length cp0_0, (.slice Ap0_1 lp0_1.length cp0_1), (.slice Ap0_2 lp0_2.length cp0_2), .map (some mbp0_3)] 143 (0, 0)), Own.of (.slice Ap0_1 lp0_1.length cp0_1) 3 lp0_1, Own.of (.slice Ap0_2 lp0_2.length cp0_2) 3 lp0_2, Own.map (κ := Int) (ν := Int) mbp0_3 mp0_3, Own.all LT]
def mach_looker_holds.r0 (lp0_0 : List SIns) (lp0_1 : List Int) (x1 : Int) (x2 : Int) : Nat → Option (Nat ⊕ (Unit ⊕ Bool))
  | i1 =>
    if (i1 : Int) < (lp0_1.length : Int) then
      match lp0_1[i1]? with
      | none => none
      | some e1 =>
        if 0 ≤ e1 then
          match lp0_0[(e1).toNat]? with
          | none => none
          | some e2 =>
            if e2.Op = x1 then
              if e2.A = x2 then
                some (.inr (.inr true))
              else
                some (.inl (i1 + 1))
            else
              some (.inl (i1 + 1))
        else
          none
    else
      some (.inr (.inl ()))
def mach_looker_holds.f (K : Nat) (lp0_0 : List SIns) (lp0_1 : List Int) (lp0_2 : List Int) (mp0_3 : List (Int × Int)) (x1 : Int) (x2 : Int) : Option Bool :=
  match iter (mach_looker_holds.r0 lp0_0 lp0_1 x1 x2) K 0 with
  | none => none
  | some (.inl _) =>
    some false
  | some (.inr rr1) =>
    some rr1
abbrev mach_looker_holds.A0 (K : Nat) (w0 : World) (bp0 : Nat) (lp0_0 : List SIns) (Ap0_0 : Option Addr) (cp0_0 : Nat) (lp0_1 : List Int) (Ap0_1 : Option Addr) (cp0_1 : Nat) (lp0_2 : List Int) (Ap0_2 : Option Addr) (cp0_2 : Nat) (mp0_3 : List (Int × Int)) (mbp0_3 : Nat) (x1 : Int) (x2 : Int) (LT : List Own) (hRp0_0 : RdL w0 Ap0_0 lp0_0) (hLp0_0 : lp0_0.length ≤ cp0_0) : Nat → Act → World → Prop := fun (s : Nat) a w => St w0 w [Own.blk bp0 (.cells #[.slice Ap0_0 lp0_0.length cp0_0, (.slice Ap0_1 lp0_1.length cp0_1), (.slice Ap0_2 lp0_2.length cp0_2), .map (some mbp0_3)] 143 (0, 0)), Own.of (.slice Ap0_1 lp0_1.length cp0_1) 3 lp0_1, Own.of (.slice Ap0_2 lp0_2.length cp0_2) 3 lp0_2, Own.map (κ := Int) (ν := Int) mbp0_3 mp0_3, Own.all LT] ∧ Frm 41 a [(0, .pointer (some ⟨bp0, 0, none⟩)), (1, .int .i64 x1), (2, .int .i64 x2), (12, (.slice Ap0_1 lp0_1.length cp0_1)), (13, .int .i64 (lp0_1.length : Int)), (14, .int .i64 (s : Int))]
abbrev mach_looker_holds.B0 (K : Nat) (w0 : World) (bp0 : Nat) (lp0_0 : List SIns) (Ap0_0 : Option Addr) (cp0_0 : Nat) (lp0_1 : List Int) (Ap0_1 : Option Addr) (cp0_1 : Nat) (lp0_2 : List Int) (Ap0_2 : Option Addr) (cp0_2 : Nat) (mp0_3 : List (Int × Int)) (mbp0_3 : Nat) (x1 : Int) (x2 : Int) (LT : List Own) (hRp0_0 : RdL w0 Ap0_0 lp0_0) (hLp0_0 : lp0_0.length ≤ cp0_0) : (Unit ⊕ Bool) → Exit → Act → World → Prop := Exits 0 (fun (s : Unit) a w => St w0 w [Own.blk bp0 (.cells #[.slice Ap0_0 lp0_0.length cp0_0, (.slice Ap0_1 lp0_1.length cp0_1), (.slice Ap0_2 lp0_2.length cp0_2), .map (some mbp0_3)] 143 (0, 0)), Own.of (.slice Ap0_1 lp0_1.length cp0_1) 3 lp0_1, Own.of (.slice Ap0_2 lp0_2.length cp0_2) 3 lp0_2, Own.map (κ := Int) (ν := Int) mbp0_3 mp0_3, Own.all LT] ∧ Frm 41 a [(0, .pointer (some ⟨bp0, 0, none⟩))]) (Rets Try.prog Try.f104 (mach_looker_holds.Post w0 bp0 lp0_0 Ap0_0 cp0_0 lp0_1 Ap0_1 cp0_1 lp0_2 Ap0_2 cp0_2 mp0_3 mbp0_3 x1 x2 LT))
theorem mach_looker_holds_r0 (K : Nat) (w0 : World) (bp0 : Nat) (lp0_0 : List SIns) (Ap0_0 : Option Addr) (cp0_0 : Nat) (lp0_1 : List Int) (Ap0_1 : Option Addr) (cp0_1 : Nat) (lp0_2 : List Int) (Ap0_2 : Option Addr) (cp0_2 : Nat) (mp0_3 : List (Int × Int)) (mbp0_3 : Nat) (x1 : Int) (x2 : Int) (LT : List Own) (hRp0_0 : RdL w0 Ap0_0 lp0_0) (hLp0_0 : lp0_0.length ≤ cp0_0) (s : Nat) (o : Nat ⊕ (Unit ⊕ Bool)) (h : mach_looker_holds.r0 lp0_0 lp0_1 x1 x2 s = some o) (a : Act) (w : World) (hA : mach_looker_holds.A0 K w0 bp0 lp0_0 Ap0_0 cp0_0 lp0_1 Ap0_1 cp0_1 lp0_2 Ap0_2 cp0_2 mp0_3 mbp0_3 x1 x2 LT hRp0_0 hLp0_0 s a w) (Q : Exit → Act → World → Prop) (hQ : ∀ x a w, Outs (mach_looker_holds.A0 K w0 bp0 lp0_0 Ap0_0 cp0_0 lp0_1 Ap0_1 cp0_1 lp0_2 Ap0_2 cp0_2 mp0_3 mbp0_3 x1 x2 LT hRp0_0 hLp0_0) (mach_looker_holds.B0 K w0 bp0 lp0_0 Ap0_0 cp0_0 lp0_1 Ap0_1 cp0_1 lp0_2 Ap0_2 cp0_2 mp0_3 mbp0_3 x1 x2 LT hRp0_0 hLp0_0) o x a w → Q x a w) : (subF Try.f104 [1, 0, 1, 0, 0]).wp Try.prog Q a w := by
  obtain ⟨i1, hs⟩ : ∃ z, z = s := ⟨s, rfl⟩
  subst hs
  obtain ⟨hS, hF⟩ := hA
  replace hS : St w0 w [Own.blk bp0 (.cells #[.slice Ap0_0 lp0_0.length cp0_0, (.slice Ap0_1 lp0_1.length cp0_1), (.slice Ap0_2 lp0_2.length cp0_2), .map (some mbp0_3)] 143 (0, 0)), Own.of (.slice Ap0_1 lp0_1.length cp0_1) 3 lp0_1, Own.of (.slice Ap0_2 lp0_2.length cp0_2) 3 lp0_2, Own.map (κ := Int) (ν := Int) mbp0_3 mp0_3, Own.all LT] := hS
  simp only [mach_looker_holds.r0] at h
  refine (?_ : WE Try.prog 41 (subF Try.f104 [1, 0, 1, 0, 0]) Q [(0, .pointer (some ⟨bp0, 0, none⟩)), (1, .int .i64 x1), (2, .int .i64 x2), (12, (.slice Ap0_1 lp0_1.length cp0_1)), (13, .int .i64 (lp0_1.length : Int)), (14, .int .i64 (i1 : Int))] w) a hF
  clear hF a
  refine we_seq fun K4 hK4 => ?_
  refine we_region [(0, 0)] rfl ?_
  refine ge_batch [0] (ans := []) (vs := [(15, .bool (decide ((i1 : Int) < (lp0_1.length : Int))))]) (l := []) (by kernel_rfl) trivial ?_
  refine ge_nil fun a hF => hK4 _ _ ?_ a hF
  refine we_seq fun K5 hK5 => ?_
  by_cases hc1 : (i1 : Int) < (lp0_1.length : Int)
  · rw [if_pos hc1] at h
    refine we_known (t := 15) (b := decide ((i1 : Int) < (lp0_1.length : Int))) (v := true) (by kernel_rfl) (decide_eq_true hc1) ?_
    refine we_true (by kernel_rfl) ?_
    refine we_skip fun a hF => hK5 _ _ ?_ a hF
    refine we_seq fun K6 hK6 => ?_
    refine we_block ?_
    refine we_seq fun K7 hK7 => ?_
    refine we_region [(0, 0), (1, 0), (2, 0)] rfl ?_
    rcases hx1 : lp0_1[i1]? with _ | e1
    · rw [hx1] at h; cases h
    rw [hx1] at h
    simp only [] at h
    refine ge_index (d := 16) (ty := 0) (t := 24) (el := 3) (sz := 1) (m := lp0_1.length) (c := cp0_1) (x := (.tmp 12)) (y := (.tmp 14)) (A := Ap0_1) (k' := .i64) (j := (i1 : Int)) (jn := i1) (b0 := blkOf Ap0_1) (o0 := offOf Ap0_1) (by kernel_rfl) (by kernel_rfl) (by kernel_rfl) (by kernel_rfl) (by kernel_rfl) ((hS.rdAt 1 rfl).eqSome (pos_of_get hx1)) rfl (lt_of_get hx1) ?_
    refine ge_batch [1, 2] (ans := [.val (.int .i64 e1)]) (vs := [(8, .int .i64 e1), (17, .int .i64 e1)]) (l := [.loaded ⟨blkOf Ap0_1, offOf Ap0_1 + i1 * 1, none⟩ (.int .i64 e1)]) (by kernel_rfl) ⟨RdL.cell (j := 0) (hS.rdAt 1 rfl) hx1 rfl, trivial⟩ ?_
    refine ge_nil fun a hF => hK7 _ _ ?_ a hF
    refine we_seq fun K8 hK8 => ?_
    refine we_region [(0, 0), (1, 0), (2, 0), (3, 0), (4, 0), (5, 0), (6, 0), (7, 0), (8, 0), (9, 0), (10, 0), (11, 0), (12, 0), (13, 0), (14, 0), (15, 0), (16, 0), (17, 0), (18, 0), (19, 0), (20, 0), (21, 0)] rfl ?_
    refine ge_batch [0, 1, 2, 3, 4] (ans := [.val (.slice Ap0_0 lp0_0.length cp0_0)]) (vs := [(22, .int .i64 e1), (21, .slice Ap0_0 lp0_0.length cp0_0), (20, .pointer (some ⟨bp0, 0, none⟩)), (19, .pointer (some ⟨bp0, 0, none⟩)), (18, .pointer (some ⟨bp0, 0, none⟩))]) (l := [.loaded ⟨bp0, 0, none⟩ (.slice Ap0_0 lp0_0.length cp0_0)]) (by kernel_rfl) ⟨hS.cell 0 rfl rfl, trivial⟩ ?_
    by_cases hc2 : 0 ≤ e1
    · rw [if_pos hc2] at h
      rcases hx2 : lp0_0[(e1).toNat]? with _ | e2
      · rw [hx2] at h; cases h
      rw [hx2] at h
      simp only [] at h
      refine ge_index (d := 23) (ty := 0) (t := 68) (el := 29) (sz := 3) (m := lp0_0.length) (c := cp0_0) (x := (.tmp 21)) (y := (.tmp 22)) (A := Ap0_0) (k' := .i64) (j := e1) (jn := ((e1).toNat)) (b0 := blkOf Ap0_0) (o0 := offOf Ap0_0) (by kernel_rfl) (by kernel_rfl) (by kernel_rfl) (by kernel_rfl) (by kernel_rfl) ((hS.rd hRp0_0).eqSome (pos_of_get hx2)) (Int.toNat_of_nonneg hc2).symm (lt_of_get hx2) ?_
      refine ge_batch [6, 7, 8, 9, 10] (ans := [.val (.int .i64 e2.Op)]) (vs := [(28, .bool (e2.Op == x1)), (27, .bool (e2.Op == x1)), (26, .int .i64 x1), (25, .int .i64 e2.Op), (24, .pointer (some ⟨blkOf Ap0_0, offOf Ap0_0 + (e1).toNat * 3, none⟩))]) (l := [.loaded ⟨blkOf Ap0_0, offOf Ap0_0 + ((e1).toNat) * 3, none⟩ (.int .i64 e2.Op)]) (by kernel_rfl) ⟨RdL.cell (j := 0) (hS.rd hRp0_0) hx2 rfl, trivial⟩ ?_
      by_cases hc3 : e2.Op = x1
      · rw [if_pos hc3] at h
        refine ge_known (t := 28) (b := (e2.Op == x1)) (c := true) (by kernel_rfl) (beq_iff_eq.2 hc3) ?_
        refine ge_batch [11, 12, 13, 14, 15] (ans := [.val (.slice Ap0_0 lp0_0.length cp0_0)]) (vs := [(33, .int .i64 e1), (32, .slice Ap0_0 lp0_0.length cp0_0), (31, .pointer (some ⟨bp0, 0, none⟩)), (30, .pointer (some ⟨bp0, 0, none⟩)), (29, .pointer (some ⟨bp0, 0, none⟩))]) (l := [.loaded ⟨bp0, 0, none⟩ (.slice Ap0_0 lp0_0.length cp0_0)]) (by kernel_rfl) ⟨hS.cell 0 rfl rfl, trivial⟩ ?_
        refine ge_index (d := 34) (ty := 0) (t := 68) (el := 29) (sz := 3) (m := lp0_0.length) (c := cp0_0) (x := (.tmp 32)) (y := (.tmp 33)) (A := Ap0_0) (k' := .i64) (j := e1) (jn := ((e1).toNat)) (b0 := blkOf Ap0_0) (o0 := offOf Ap0_0) (by kernel_rfl) (by kernel_rfl) (by kernel_rfl) (by kernel_rfl) (by kernel_rfl) ((hS.rd hRp0_0).eqSome (pos_of_get hx2)) (Int.toNat_of_nonneg hc2).symm (lt_of_get hx2) ?_
        refine ge_batch [17, 18, 19, 20, 21] (ans := [.val (.int .i64 e2.A)]) (vs := [(39, .bool (e2.A == x2)), (38, .bool (e2.A == x2)), (37, .int .i64 x2), (36, .int .i64 e2.A), (35, .pointer (some ⟨blkOf Ap0_0, offOf Ap0_0 + (e1).toNat * 3 + 1, none⟩))]) (l := [.loaded ⟨blkOf Ap0_0, offOf Ap0_0 + ((e1).toNat) * 3 + 1, none⟩ (.int .i64 e2.A)]) (by kernel_rfl) ⟨RdL.cell (j := 1) (hS.rd hRp0_0) hx2 rfl, trivial⟩ ?_
        refine ge_nil fun a hF => hK8 _ _ ?_ a hF
        by_cases hc4 : e2.A = x2
        · rw [if_pos hc4] at h
          refine we_known (t := 39) (b := (e2.A == x2)) (v := true) (by kernel_rfl) (beq_iff_eq.2 hc4) ?_
          refine we_true (by kernel_rfl) ?_
          refine we_seq fun K9 hK9 => ?_
          refine we_region [(0, 0)] rfl ?_
          refine ge_batch [0] (ans := []) (vs := [(6, .bool true)]) (l := []) (by kernel_rfl) trivial ?_
          refine ge_nil fun a hF => hK9 _ _ ?_ a hF
          have hS6 := hS.bring 4 rfl
          have hS7 := hS6.bring 4 rfl
          have hS8 := hS7.bring 4 rfl
          have hS9 := hS8.bring 4 rfl
          have hS10 := hS9.bring 4 rfl
          obtain rfl := Option.some.inj h
          exact we_ret fun a hF => hQ _ _ _ (Outs.out nofun (Exits.on ⟨rfl, (post_ret (rs := [.tmp 6]) (ans := []) (vs := [.bool true]) (l := []) rfl (by kernel_rfl) trivial ⟨rfl, hS10⟩) a hF⟩))
        · rw [if_neg hc4] at h
          refine we_known (t := 39) (b := (e2.A == x2)) (v := false) (by kernel_rfl) (beq_eq_false_iff_ne.2 hc4) ?_
          refine we_false (by kernel_rfl) ?_
          refine we_skip fun a hF => hK6 _ _ ?_ a hF
          refine we_region [(0, 0), (1, 0)] rfl ?_
          refine ge_addn (d := 40) (ty := 3) (x := (.tmp 14)) (y := (.const (.int .i64 1))) (t := 3) (t2 := 3) (k := .i64) (m := i1) (by kernel_rfl) (by kernel_rfl) (by kernel_rfl) (by have h0 := hS.ofSmall 1 rfl; omega) ?_
          refine ge_batch [1] (ans := []) (vs := [(14, .int .i64 ((i1 + 1 : Nat) : Int))]) (l := []) (by kernel_rfl) trivial ?_
          have hS11 := hS.bring 4 rfl
          have hS12 := hS11.bring 4 rfl
          have hS13 := hS12.bring 4 rfl
          have hS14 := hS13.bring 4 rfl
          have hS15 := hS14.bring 4 rfl
          obtain rfl := Option.some.inj h
          exact ge_nil fun a hF => hQ _ _ _ (Outs.again ⟨hS15, hF.weaken ⟨by kernel_rfl, by kernel_rfl, by kernel_rfl, by kernel_rfl, by kernel_rfl, by kernel_rfl, trivial⟩⟩)
      · rw [if_neg hc3] at h
        refine ge_known (t := 28) (b := (e2.Op == x1)) (c := false) (by kernel_rfl) (beq_eq_false_iff_ne.2 hc3) ?_
        refine ge_batch [11, 12, 13, 14, 15, 16, 17, 18, 19, 20, 21] (ans := []) (vs := [(39, .bool false), (38, undef), (37, undef), (36, undef), (35, undef), (34, undef), (33, undef), (32, undef), (31, undef), (30, undef), (29, undef)]) (l := []) (by kernel_rfl) trivial ?_
        refine ge_nil fun a hF => hK8 _ _ ?_ a hF
        refine we_false (by kernel_rfl) ?_
        refine we_skip fun a hF => hK6 _ _ ?_ a hF
        refine we_region [(0, 0), (1, 0)] rfl ?_
        refine ge_addn (d := 40) (ty := 3) (x := (.tmp 14)) (y := (.const (.int .i64 1))) (t := 3) (t2 := 3) (k := .i64) (m := i1) (by kernel_rfl) (by kernel_rfl) (by kernel_rfl) (by have h0 := hS.ofSmall 1 rfl; omega) ?_
        refine ge_batch [1] (ans := []) (vs := [(14, .int .i64 ((i1 + 1 : Nat) : Int))]) (l := []) (by kernel_rfl) trivial ?_
        have hS16 := hS.bring 4 rfl
        have hS17 := hS16.bring 4 rfl
        have hS18 := hS17.bring 4 rfl
        have hS19 := hS18.bring 4 rfl
        have hS20 := hS19.bring 4 rfl
        obtain rfl := Option.some.inj h
        exact ge_nil fun a hF => hQ _ _ _ (Outs.again ⟨hS20, hF.weaken ⟨by kernel_rfl, by kernel_rfl, by kernel_rfl, by kernel_rfl, by kernel_rfl, by kernel_rfl, trivial⟩⟩)
    · rw [if_neg hc2] at h
      cases h
  · rw [if_neg hc1] at h
    refine we_known (t := 15) (b := decide ((i1 : Int) < (lp0_1.length : Int))) (v := false) (by kernel_rfl) (decide_eq_false hc1) ?_
    refine we_false (by kernel_rfl) ?_
    have hS21 := hS.bring 4 rfl
    have hS22 := hS21.bring 4 rfl
    have hS23 := hS22.bring 4 rfl
    have hS24 := hS23.bring 4 rfl
    have hS25 := hS24.bring 4 rfl
    obtain rfl := Option.some.inj h
    exact we_exit fun a hF => hQ _ _ _ (Outs.out nofun (Exits.here ⟨hS25, hF.weaken ⟨by kernel_rfl, trivial⟩⟩))
theorem mach_looker_holds_ok (K : Nat) (bp0 : Nat) (lp0_0 : List SIns) (Ap0_0 : Option Addr) (cp0_0 : Nat) (lp0_1 : List Int) (Ap0_1 : Option Addr) (cp0_1 : Nat) (lp0_2 : List Int) (Ap0_2 : Option Addr) (cp0_2 : Nat) (mp0_3 : List (Int × Int)) (mbp0_3 : Nat) (x1 : Int) (x2 : Int) (w0 wE : World) (LT : List Own) (hS : St w0 wE [Own.blk bp0 (.cells #[.slice Ap0_0 lp0_0.length cp0_0, (.slice Ap0_1 lp0_1.length cp0_1), (.slice Ap0_2 lp0_2.length cp0_2), .map (some mbp0_3)] 143 (0, 0)), Own.of (.slice Ap0_1 lp0_1.length cp0_1) 3 lp0_1, Own.of (.slice Ap0_2 lp0_2.length cp0_2) 3 lp0_2, Own.map (κ := Int) (ν := Int) mbp0_3 mp0_3, Own.all LT]) (hRp0_0 : RdL w0 Ap0_0 lp0_0) (hLp0_0 : lp0_0.length ≤ cp0_0) (r : Bool) (h : mach_looker_holds.f K lp0_0 lp0_1 lp0_2 mp0_3 x1 x2 = some r) :
    Calls Try.prog 104 #[.pointer (some ⟨bp0, 0, none⟩), .int .i64 x1, .int .i64 x2] wE (mach_looker_holds.Post w0 bp0 lp0_0 Ap0_0 cp0_0 lp0_1 Ap0_1 cp0_1 lp0_2 Ap0_2 cp0_2 mp0_3 mbp0_3 x1 x2 LT r) := by
  unfold mach_looker_holds.f at h
  refine calls_enter (n := 41) (args := [.pointer (some ⟨bp0, 0, none⟩), .int .i64 x1, .int .i64 x2]) (fn := Try.f104) rfl rfl rfl rfl ?_
  show WE _ _ _ _ [(0, .pointer (some ⟨bp0, 0, none⟩)), (1, .int .i64 x1), (2, .int .i64 x2)] _
  refine we_seq fun K1 hK1 => ?_
  refine we_region [(0, 0)] rfl ?_
  refine ge_batch [0] (ans := []) (vs := [(6, .bool false)]) (l := []) (by kernel_rfl) trivial ?_
  refine ge_nil fun a hF => hK1 _ _ ?_ a hF
  refine we_seq fun K2 hK2 => ?_
  refine we_seq fun K3 hK3 => ?_
  refine we_region [(0, 0), (1, 0), (2, 0), (3, 0), (4, 0), (5, 0)] rfl ?_
  refine ge_batch [0, 1, 2, 3, 4, 5] (ans := [.val ((.slice Ap0_1 lp0_1.length cp0_1))]) (vs := [(14, .int .i64 0), (13, .int .i64 (lp0_1.length : Int)), (12, (.slice Ap0_1 lp0_1.length cp0_1)), (11, .pointer (some ⟨bp0, 1, none⟩)), (10, .pointer (some ⟨bp0, 0, none⟩)), (9, .pointer (some ⟨bp0, 0, none⟩))]) (l := [.loaded ⟨bp0, 1, none⟩ ((.slice Ap0_1 lp0_1.length cp0_1))]) (by kernel_rfl) ⟨hS.cell 0 rfl rfl, trivial⟩ ?_
  refine ge_nil fun a hF => hK3 _ _ ?_ a hF
  refine we_block ?_
  have hS1 := hS.bring 4 rfl
  have hS2 := hS1.bring 4 rfl
  have hS3 := hS2.bring 4 rfl
  have hS4 := hS3.bring 4 rfl
  have hS5 := hS4.bring 4 rfl
  rcases hq1 : iter (mach_looker_holds.r0 lp0_0 lp0_1 x1 x2) K 0 with _ | (_ | rr1)
  · rw [hq1] at h; cases h
  · rw [hq1] at h
    simp only [] at h
    refine we_iter (A := mach_looker_holds.A0 K w0 bp0 lp0_0 Ap0_0 cp0_0 lp0_1 Ap0_1 cp0_1 lp0_2 Ap0_2 cp0_2 mp0_3 mbp0_3 x1 x2 LT hRp0_0 hLp0_0) (B := mach_looker_holds.B0 K w0 bp0 lp0_0 Ap0_0 cp0_0 lp0_1 Ap0_1 cp0_1 lp0_2 Ap0_2 cp0_2 mp0_3 mbp0_3 x1 x2 LT hRp0_0 hLp0_0) hq1 (fun a hF => ⟨hS5, hF.weaken ⟨by kernel_rfl, by kernel_rfl, by kernel_rfl, by kernel_rfl, by kernel_rfl, by kernel_rfl, trivial⟩⟩) (fun s o hf a w hA Q hQ => mach_looker_holds_r0 K w0 bp0 lp0_0 Ap0_0 cp0_0 lp0_1 Ap0_1 cp0_1 lp0_2 Ap0_2 cp0_2 mp0_3 mbp0_3 x1 x2 LT hRp0_0 hLp0_0 s o hf a w hA Q hQ) ?_
    rintro _ a w1 _ ⟨rfl, hS26, hF⟩
    replace hS26 : St w0 w1 [Own.blk bp0 (.cells #[.slice Ap0_0 lp0_0.length cp0_0, (.slice Ap0_1 lp0_1.length cp0_1), (.slice Ap0_2 lp0_2.length cp0_2), .map (some mbp0_3)] 143 (0, 0)), Own.of (.slice Ap0_1 lp0_1.length cp0_1) 3 lp0_1, Own.of (.slice Ap0_2 lp0_2.length cp0_2) 3 lp0_2, Own.map (κ := Int) (ν := Int) mbp0_3 mp0_3, Own.all LT] := hS26
    refine hK2 [(0, .pointer (some ⟨bp0, 0, none⟩))] w1 ?_ a hF
    refine we_seq fun K10 hK10 => ?_
    refine we_region [(0, 0)] rfl ?_
    refine ge_batch [0] (ans := []) (vs := [(6, .bool false)]) (l := []) (by kernel_rfl) trivial ?_
    refine ge_nil fun a hF => hK10 _ _ ?_ a hF
    have hS27 := hS26.bring 4 rfl
    have hS28 := hS27.bring 4 rfl
    have hS29 := hS28.bring 4 rfl
    have hS30 := hS29.bring 4 rfl
    have hS31 := hS30.bring 4 rfl
    obtain rfl := Option.some.inj h
    exact we_ret (post_ret (rs := [.tmp 6]) (ans := []) (vs := [.bool false]) (l := []) rfl (by kernel_rfl) trivial ⟨rfl, hS31⟩)
  · rw [hq1] at h
    simp only [] at h
    refine we_iter (A := mach_looker_holds.A0 K w0 bp0 lp0_0 Ap0_0 cp0_0 lp0_1 Ap0_1 cp0_1 lp0_2 Ap0_2 cp0_2 mp0_3 mbp0_3 x1 x2 LT hRp0_0 hLp0_0) (B := mach_looker_holds.B0 K w0 bp0 lp0_0 Ap0_0 cp0_0 lp0_1 Ap0_1 cp0_1 lp0_2 Ap0_2 cp0_2 mp0_3 mbp0_3 x1 x2 LT hRp0_0 hLp0_0) hq1 (fun a hF => ⟨hS5, hF.weaken ⟨by kernel_rfl, by kernel_rfl, by kernel_rfl, by kernel_rfl, by kernel_rfl, by kernel_rfl, trivial⟩⟩) (fun s o hf a w hA Q hQ => mach_looker_holds_r0 K w0 bp0 lp0_0 Ap0_0 cp0_0 lp0_1 Ap0_1 cp0_1 lp0_2 Ap0_2 cp0_2 mp0_3 mbp0_3 x1 x2 LT hRp0_0 hLp0_0 s o hf a w hA Q hQ) ?_
    rintro _ a w1 _ ⟨rfl, hb⟩
    obtain rfl := Option.some.inj h
    exact hb

/-! (*punctual/mach.looker).close -/
abbrev mach_looker_close.Post (w0 : World) (bp0 : Nat) (lp0_0 : List SIns) (Ap0_0 : Option Addr) (cp0_0 : Nat) (lp0_1 : List Int) (Ap0_1 : Option Addr) (cp0_1 : Nat) (lp0_2 : List Int) (Ap0_2 : Option Addr) (cp0_2 : Nat) (mp0_3 : List (Int × Int)) (mbp0_3 : Nat) (x1 : Int) (LT : List Own) (r : (List Int) × (List (Int × Int))) (e : Ending) (w : World) : Prop := ∃ (nbp0_1 : Value), e = .returned (.tuple #[]) ∧ St w0 w [Own.blk bp0 (.cells #[.slice Ap0_0 lp0_0.length cp0_0, nbp0_1, (.slice Ap0_2 lp0_2.length cp0_2), .map (some mbp0_3)] 143 (0, 0)), Own.of nbp0_1 3 r.1, Own.of (.slice Ap0_2 lp0_2.length cp0_2) 3 lp0_2, Own.map (κ := Int) (ν := Int) mbp0_3 r.2, Own.all LT]
def mach_looker_close.p0 (lp0_0 : List SIns) (lp0_1 : List Int) (lp0_2 : List Int) (mp0_3 : List (Int × Int)) (x1 : Int) : Option ((List (Int × Int)) ⊕ ((List Int) × (List (Int × Int)))) :=
    match mach_looker_top.f lp0_0 lp0_1 lp0_2 mp0_3 with
    | none => none
    | some r1 =>
      some (.inl (mset mp0_3 r1 x1))
def mach_looker_close.f (lp0_0 : List SIns) (lp0_1 : List Int) (lp0_2 : List Int) (mp0_3 : List (Int × Int)) (x1 : Int) : Option ((List Int) × (List (Int × Int))) :=
  match mach_looker_close.p0 lp0_0 lp0_1 lp0_2 mp0_3 x1 with
  | none => none
  | some (.inl mp2) =>
    if 0 ≤ (IntKind.i64.wrap ((lp0_1.length : Int) - 1)) then
      if ((IntKind.i64.wrap ((lp0_1.length : Int) - 1)).toNat) ≤ lp0_1.length then
        some ((lp0_1.take ((IntKind.i64.wrap ((lp0_1.length : Int) - 1)).toNat)), mp2)
      else
        none
    else
      none
  | some (.inr rr1) =>
    some rr1
abbrev mach_looker_close.A0 (K : Nat) (w0 : World) (bp0 : Nat) (lp0_0 : List SIns) (Ap0_0 : Option Addr) (cp0_0 : Nat) (lp0_1 : List Int) (Ap0_1 : Option Addr) (cp0_1 : Nat) (lp0_2 : List Int) (Ap0_2 : Option Addr) (cp0_2 : Nat) (mp0_3 : List (Int × Int)) (mbp0_3 : Nat) (x1 : Int) (LT : List Own) (hRp0_0 : RdL w0 Ap0_0 lp0_0) (hLp0_0 : lp0_0.length ≤ cp0_0) : (List (Int × Int)) → Act → World → Prop := fun (s : (List (Int × Int))) a w => St w0 w [Own.blk bp0 (.cells #[.slice Ap0_0 lp0_0.length cp0_0, (.slice Ap0_1 lp0_1.length cp0_1), (.slice Ap0_2 lp0_2.length cp0_2), .map (some mbp0_3)] 143 (0, 0)), Own.of (.slice Ap0_1 lp0_1.length cp0_1) 3 lp0_1, Own.of (.slice Ap0_2 lp0_2.length cp0_2) 3 lp0_2, Own.map (κ := Int) (ν := Int) mbp0_3 s, Own.all LT] ∧ Frm 26 a [(0, .pointer (some ⟨bp0, 0, none⟩))]
abbrev mach_looker_close.B0 (K : Nat) (w0 : World) (bp0 : Nat) (lp0_0 : List SIns) (Ap0_0 : Option Addr) (cp0_0 : Nat) (lp0_1 : List Int) (Ap0_1 : Option Addr) (cp0_1 : Nat) (lp0_2 : List Int) (Ap0_2 : Option Addr) (cp0_2 : Nat) (mp0_3 : List (Int × Int)) (mbp0_3 : Nat) (x1 : Int) (LT : List Own) (hRp0_0 : RdL w0 Ap0_0 lp0_0) (hLp0_0 : lp0_0.length ≤ cp0_0) : ((List Int) × (List (Int × Int))) → Exit → Act → World → Prop := Rets Try.prog Try.f105 (mach_looker_close.Post w0 bp0 lp0_0 Ap0_0 cp0_0 lp0_1 Ap0_1 cp0_1 lp0_2 Ap0_2 cp0_2 mp0_3 mbp0_3 x1 LT)
theorem mach_looker_close_p0 (K : Nat) (w0 : World) (bp0 : Nat) (lp0_0 : List SIns) (Ap0_0 : Option Addr) (cp0_0 : Nat) (lp0_1 : List Int) (Ap0_1 : Option Addr) (cp0_1 : Nat) (lp0_2 : List Int) (Ap0_2 : Option Addr) (cp0_2 : Nat) (mp0_3 : List (Int × Int)) (mbp0_3 : Nat) (x1 : Int) (LT : List Own) (hRp0_0 : RdL w0 Ap0_0 lp0_0) (hLp0_0 : lp0_0.length ≤ cp0_0) (o : (List (Int × Int)) ⊕ ((List Int) × (List (Int × Int)))) (h : mach_looker_close.p0 lp0_0 lp0_1 lp0_2 mp0_3 x1 = some o) (w : World) (hS : St w0 w [Own.blk bp0 (.cells #[.slice Ap0_0 lp0_0.length cp0_0, (.slice Ap0_1 lp0_1.length cp0_1), (.slice Ap0_2 lp0_2.length cp0_2), .map (some mbp0_3)] 143 (0, 0)), Own.of (.slice Ap0_1 lp0_1.length cp0_1) 3 lp0_1, Own.of (.slice Ap0_2 lp0_2.length cp0_2) 3 lp0_2, Own.map (κ := Int) (ν := Int) mbp0_3 mp0_3, Own.all LT]) (Q : Exit → Act → World → Prop) (hQ : ∀ x a w, Outs (mach_looker_close.A0 K w0 bp0 lp0_0 Ap0_0 cp0_0 lp0_1 Ap0_1 cp0_1 lp0_2 Ap0_2 cp0_2 mp0_3 mbp0_3 x1 LT hRp0_0 hLp0_0) (mach_looker_close.B0 K w0 bp0 lp0_0 Ap0_0 cp0_0 lp0_1 Ap0_1 cp0_1 lp0_2 Ap0_2 cp0_2 mp0_3 mbp0_3 x1 LT hRp0_0 hLp0_0) o x a w → Q x a w) : WE Try.prog 26 (subF Try.f105 [0]) Q [(0, .pointer (some ⟨bp0, 0, none⟩)), (1, .int .i64 x1)] w := by
  simp only [mach_looker_close.p0] at h
  refine we_orders2 (by kernel_rfl) [(4, [⟨bp0, 3, none⟩])] (.vals [0] (.vals [1] (.vals [2] (.vals [3] (.vals [4] (.vals [5] (.vals [7] (.alt 6 2 (.alt 8 2 .fin .nomore) .nomore)))))))) (by kernel_rfl) ?_
  have hS1 := hS.drew
  refine go2_batch [0, 1, 2, 3] (ans := []) (vs := [(7, .pointer (some ⟨bp0, 3, none⟩)), (6, .pointer (some ⟨bp0, 2, none⟩)), (5, .pointer (some ⟨bp0, 0, none⟩)), (4, .pointer (some ⟨bp0, 0, none⟩))]) (l := []) (by kernel_rfl) trivial mem_nil ?_
  refine go2_batch [4] (ans := [.val (.map (some mbp0_3))]) (vs := [(8, .map (some mbp0_3))]) (l := [.loaded ⟨bp0, 3, none⟩ (.map (some mbp0_3))]) (by kernel_rfl) ⟨hS1.cell 0 rfl rfl, trivial⟩ (mem_one (by kernel_rfl)) ?_
  refine go2_batch [5, 7] (ans := []) (vs := [(11, .int .i64 x1), (9, .pointer (some ⟨bp0, 0, none⟩))]) (l := []) (by kernel_rfl) trivial mem_nil ?_
  refine go_alt2 (fun KK hKK => ?_) ?_
  · rcases hq1 : mach_looker_top.f lp0_0 lp0_1 lp0_2 mp0_3 with _ | r1
    · rw [hq1] at h; cases h
    rw [hq1] at h
    simp only [] at h
    have hS2 := hS1.bring 3 rfl
    have hS3 := hS2.bring 3 rfl
    have hS4 := hS3.bring 3 rfl
    have hS5 := hS4.bring 3 rfl
    have hS7 : St w0 w.drew [Own.blk bp0 (.cells #[.slice Ap0_0 lp0_0.length cp0_0, (.slice Ap0_1 lp0_1.length cp0_1), (.slice Ap0_2 lp0_2.length cp0_2), .map (some mbp0_3)] 143 (0, 0)), Own.of (.slice Ap0_1 lp0_1.length cp0_1) 3 lp0_1, Own.of (.slice Ap0_2 lp0_2.length cp0_2) 3 lp0_2, Own.map (κ := Int) (ν := Int) mbp0_3 mp0_3, Own.all [Own.all LT]] := hS5.packN 4
    refine ge_call2 (m := 0) (d := some 10) (f := 103) (args := #[.pointer (some ⟨bp0, 0, none⟩)]) (by kernel_rfl) (mach_looker_top_ok bp0 lp0_0 Ap0_0 cp0_0 lp0_1 Ap0_1 cp0_1 lp0_2 Ap0_2 cp0_2 mp0_3 mbp0_3 _ _ _ hS7 hRp0_0 hLp0_0 _ hq1) ?_
    rintro _ w1 ⟨rfl, hS6⟩
    refine ⟨_, rfl, ?_⟩
    have hS8 : St w0 w1 [Own.blk bp0 (.cells #[.slice Ap0_0 lp0_0.length cp0_0, (.slice Ap0_1 lp0_1.length cp0_1), (.slice Ap0_2 lp0_2.length cp0_2), .map (some mbp0_3)] 143 (0, 0)), Own.of (.slice Ap0_1 lp0_1.length cp0_1) 3 lp0_1, Own.of (.slice Ap0_2 lp0_2.length cp0_2) 3 lp0_2, Own.map (κ := Int) (ν := Int) mbp0_3 mp0_3, Own.all LT] := hS6.unpack [Own.blk bp0 (.cells #[.slice Ap0_0 lp0_0.length cp0_0, (.slice Ap0_1 lp0_1.length cp0_1), (.slice Ap0_2 lp0_2.length cp0_2), .map (some mbp0_3)] 143 (0, 0)), Own.of (.slice Ap0_1 lp0_1.length cp0_1) 3 lp0_1, Own.of (.slice Ap0_2 lp0_2.length cp0_2) 3 lp0_2, Own.map (κ := Int) (ν := Int) mbp0_3 mp0_3]
    refine ge_nil fun a hF => hKK _ _ (RS.of2 (l := [.loaded ⟨bp0, 3, none⟩ (.map (some mbp0_3))]) (by kernel_rfl) ⟨hS1.cell 0 rfl rfl, trivial⟩ ⟨hS8.cell 0 rfl rfl, trivial⟩) ?_ a hF
    refine go_alt2 (fun KK hKK => ?_) ?_
    · have hS9 := hS8.bring 3 rfl
      refine ge_mapSet (κ := Int) (ν := Int) (b := mbp0_3) (ins := false) (mm := 0) (t := 113) (kt := 3) (et := 3) (x := (.tmp 8)) (y := (.tmp 10)) (u := (.tmp 11)) (ty := 0) (m := mp0_3) (k := r1) (v := x1) (vv := .int .i64 x1) (by kernel_rfl) (by kernel_rfl) (by kernel_rfl) (by kernel_rfl) rfl (by kernel_rfl) (by kernel_rfl) hS9 fun w2 hS10 => ?_
      refine ge_nil fun a hF => hKK _ _ (RS.of2 (l := []) (by kernel_rfl) trivial trivial) ?_ a hF
      have hS11 := hS10.bring 4 rfl
      have hS12 := hS11.bring 1 rfl
      have hS13 := hS12.bring 4 rfl
      have hS14 := hS13.bring 4 rfl
      have hS15 := hS14.bring 4 rfl
      obtain rfl := Option.some.inj h
      exact go_fin2 fun a hF => hQ _ _ _ (Outs.again ⟨hS15, hF.weaken ⟨by kernel_rfl, trivial⟩⟩)
    exact go_nomore2
  exact go_nomore2
theorem mach_looker_close_ok (bp0 : Nat) (lp0_0 : List SIns) (Ap0_0 : Option Addr) (cp0_0 : Nat) (lp0_1 : List Int) (Ap0_1 : Option Addr) (cp0_1 : Nat) (lp0_2 : List Int) (Ap0_2 : Option Addr) (cp0_2 : Nat) (mp0_3 : List (Int × Int)) (mbp0_3 : Nat) (x1 : Int) (w0 wE : World) (LT : List Own) (hS : St w0 wE [Own.blk bp0 (.cells #[.slice Ap0_0 lp0_0.length cp0_0, (.slice Ap0_1 lp0_1.length cp0_1), (.slice Ap0_2 lp0_2.length cp0_2), .map (some mbp0_3)] 143 (0, 0)), Own.of (.slice Ap0_1 lp0_1.length cp0_1) 3 lp0_1, Own.of (.slice Ap0_2 lp0_2.length cp0_2) 3 lp0_2, Own.map (κ := Int) (ν := Int) mbp0_3 mp0_3, Own.all LT]) (hRp0_0 : RdL w0 Ap0_0 lp0_0) (hLp0_0 : lp0_0.length ≤ cp0_0) (r : (List Int) × (List (Int × Int))) (h : mach_looker_close.f lp0_0 lp0_1 lp0_2 mp0_3 x1 = some r) :
    Calls Try.prog 105 #[.pointer (some ⟨bp0, 0, none⟩), .int .i64 x1] wE (mach_looker_close.Post w0 bp0 lp0_0 Ap0_0 cp0_0 lp0_1 Ap0_1 cp0_1 lp0_2 Ap0_2 cp0_2 mp0_3 mbp0_3 x1 LT r) := by
  unfold mach_looker_close.f at h
  refine calls_enter (n := 26) (args := [.pointer (some ⟨bp0, 0, none⟩), .int .i64 x1]) (fn := Try.f105) rfl rfl rfl rfl ?_
  show WE _ _ _ _ [(0, .pointer (some ⟨bp0, 0, none⟩)), (1, .int .i64 x1)] _
  refine we_seq fun K1 hK1 => ?_
  rcases hq2 : mach_looker_close.p0 lp0_0 lp0_1 lp0_2 mp0_3 x1 with _ | (mp2 | rr1)
  · rw [hq2] at h; cases h
  · rw [hq2] at h
    simp only [] at h
    refine we_keep (e' := [(0, .pointer (some ⟨bp0, 0, none⟩)), (1, .int .i64 x1)]) ⟨by kernel_rfl, by kernel_rfl, trivial⟩ (mach_looker_close_p0 0 w0 bp0 lp0_0 Ap0_0 cp0_0 lp0_1 Ap0_1 cp0_1 lp0_2 Ap0_2 cp0_2 mp0_3 mbp0_3 x1 LT hRp0_0 hLp0_0 _ hq2 _ hS _ ?_)
    rintro _ a w3 ⟨rfl, hS16, hF⟩
    replace hS16 : St w0 w3 [Own.blk bp0 (.cells #[.slice Ap0_0 lp0_0.length cp0_0, (.slice Ap0_1 lp0_1.length cp0_1), (.slice Ap0_2 lp0_2.length cp0_2), .map (some mbp0_3)] 143 (0, 0)), Own.of (.slice Ap0_1 lp0_1.length cp0_1) 3 lp0_1, Own.of (.slice Ap0_2 lp0_2.length cp0_2) 3 lp0_2, Own.map (κ := Int) (ν := Int) mbp0_3 mp2, Own.all LT] := hS16
    refine hK1 [(0, .pointer (some ⟨bp0, 0, none⟩))] w3 ?_ a hF
    refine we_orders2 (by kernel_rfl) [(4, [⟨bp0, 1, none⟩]), (8, [⟨bp0, 1, none⟩])] (.vals [0] (.vals [1] (.vals [2] (.vals [3] (.vals [4] (.vals [5] (.vals [6] (.vals [7] (.vals [8] (.vals [9] (.vals [10] (.vals [11] (.vals [12] (.vals [13] (.alt 14 2 .fin .nomore))))))))))))))) (by kernel_rfl) ?_
    have hS17 := hS16.drew
    refine go2_batch [0, 1, 2, 3] (ans := []) (vs := [(15, .pointer (some ⟨bp0, 1, none⟩)), (14, .pointer (some ⟨bp0, 0, none⟩)), (13, .pointer (some ⟨bp0, 0, none⟩)), (12, .pointer (some ⟨bp0, 0, none⟩))]) (l := []) (by kernel_rfl) trivial mem_nil ?_
    refine go2_batch [4] (ans := [.val ((.slice Ap0_1 lp0_1.length cp0_1))]) (vs := [(16, (.slice Ap0_1 lp0_1.length cp0_1))]) (l := [.loaded ⟨bp0, 1, none⟩ ((.slice Ap0_1 lp0_1.length cp0_1))]) (by kernel_rfl) ⟨hS17.cell 0 rfl rfl, trivial⟩ (mem_one (by kernel_rfl)) ?_
    refine go2_batch [5, 6, 7] (ans := []) (vs := [(19, .pointer (some ⟨bp0, 1, none⟩)), (18, .pointer (some ⟨bp0, 0, none⟩)), (17, .pointer (some ⟨bp0, 0, none⟩))]) (l := []) (by kernel_rfl) trivial mem_nil ?_
    refine go2_batch [8] (ans := [.val ((.slice Ap0_1 lp0_1.length cp0_1))]) (vs := [(20, (.slice Ap0_1 lp0_1.length cp0_1))]) (l := [.loaded ⟨bp0, 1, none⟩ ((.slice Ap0_1 lp0_1.length cp0_1))]) (by kernel_rfl) ⟨hS17.cell 0 rfl rfl, trivial⟩ (mem_one (by kernel_rfl)) ?_
    refine go2_batch [9, 10] (ans := []) (vs := [(22, .int .i64 (IntKind.i64.wrap ((lp0_1.length : Int) - 1))), (21, .int .i64 (lp0_1.length : Int))]) (l := []) (by kernel_rfl) trivial mem_nil ?_
    by_cases hc1 : 0 ≤ (IntKind.i64.wrap ((lp0_1.length : Int) - 1))
    · rw [if_pos hc1] at h
      by_cases hc2 : ((IntKind.i64.wrap ((lp0_1.length : Int) - 1)).toNat) ≤ lp0_1.length
      · rw [if_pos hc2] at h
        refine go2_sliceHi (d := 23) (ty := 24) (t := 24) (el := 3) (sz := 1) (m := lp0_1.length) (c := cp0_1) (hn := ((IntKind.i64.wrap ((lp0_1.length : Int) - 1)).toNat)) (x := (.tmp 16)) (y := (.tmp 22)) (A := Ap0_1) (k' := .i64) (hi := (IntKind.i64.wrap ((lp0_1.length : Int) - 1))) (by kernel_rfl) (by kernel_rfl) (by kernel_rfl) (Int.toNat_of_nonneg hc1).symm (by kernel_rfl) (by kernel_rfl) (by have f0 := hc2; have f1 := (hS17.capAt 1 rfl); omega) ?_
        refine go2_same (t := 23) (v := .slice Ap0_1 ((IntKind.i64.wrap ((lp0_1.length : Int) - 1)).toNat) cp0_1) (v' := .slice Ap0_1 ((lp0_1.take ((IntKind.i64.wrap ((lp0_1.length : Int) - 1)).toNat)).length) cp0_1) (by kernel_rfl) (congrArg (fun z => Value.slice Ap0_1 z cp0_1) (show (IntKind.i64.wrap ((lp0_1.length : Int) - 1)).toNat = (lp0_1.take ((IntKind.i64.wrap ((lp0_1.length : Int) - 1)).toNat)).length by have f0 := hc2; have f1 := (hS17.capAt 1 rfl); simp only [List.length_take]; omega)) ?_
        refine go2_batch [12, 13] (ans := []) (vs := [(25, .pointer (some ⟨bp0, 1, none⟩)), (24, .pointer (some ⟨bp0, 0, none⟩))]) (l := []) (by kernel_rfl) trivial mem_nil ?_
        refine go_alt2 (fun KK hKK => ?_) ?_
        · refine ge_set (b := bp0) (j := 1) (cs := #[.slice Ap0_0 lp0_0.length cp0_0, (.slice Ap0_1 lp0_1.length cp0_1), (.slice Ap0_2 lp0_2.length cp0_2), .map (some mbp0_3)]) (t := 143) (vs := [.slice Ap0_1 ((lp0_1.take ((IntKind.i64.wrap ((lp0_1.length : Int) - 1)).toNat)).length) cp0_1]) hS17 (by kernel_rfl) rfl rfl fun w4 hS18 => ?_
          have hS19 : St w0 w4 [Own.blk bp0 (.cells #[.slice Ap0_0 lp0_0.length cp0_0, .slice Ap0_1 ((lp0_1.take ((IntKind.i64.wrap ((lp0_1.length : Int) - 1)).toNat)).length) cp0_1, (.slice Ap0_2 lp0_2.length cp0_2), .map (some mbp0_3)] 143 (0, 0)), Own.of (.slice Ap0_1 lp0_1.length cp0_1) 3 lp0_1, Own.of (.slice Ap0_2 lp0_2.length cp0_2) 3 lp0_2, Own.map (κ := Int) (ν := Int) mbp0_3 mp2, Own.all LT] := hS18
          refine ge_nil fun a hF => hKK _ _ (RS.of2 (l := []) (by kernel_rfl) trivial trivial) ?_ a hF
          have hS20 := hS19.bring 1 rfl
          have hS21 := hS20.shrink ((IntKind.i64.wrap ((lp0_1.length : Int) - 1)).toNat)
          have hS22 := hS21.bring 4 rfl
          have hS23 := hS22.bring 4 rfl
          have hS24 := hS23.bring 4 rfl
          have hS25 := hS24.bring 3 rfl
          have hS26 := hS25.bring 4 rfl
          obtain rfl := Option.some.inj h
          exact go_fin2 (post_end (rs := []) (ans := []) (vs := []) (l := []) rfl (by kernel_rfl) trivial ⟨(.slice Ap0_1 (lp0_1.take ((IntKind.i64.wrap ((lp0_1.length : Int) - 1)).toNat)).length cp0_1), rfl, hS26⟩)
        exact go_nomore2
      · rw [if_neg hc2] at h
        cases h
    · rw [if_neg hc1] at h
      cases h
  · rw [hq2] at h
    simp only [] at h
    refine we_keep (e' := [(0, .pointer (some ⟨bp0, 0, none⟩)), (1, .int .i64 x1)]) ⟨by kernel_rfl, by kernel_rfl, trivial⟩ (mach_looker_close_p0 0 w0 bp0 lp0_0 Ap0_0 cp0_0 lp0_1 Ap0_1 cp0_1 lp0_2 Ap0_2 cp0_2 mp0_3 mbp0_3 x1 LT hRp0_0 hLp0_0 _ hq2 _ hS _ ?_)
    rintro _ a w1 ⟨_, rfl, hb⟩
    obtain rfl := Option.some.inj h
    exact hb

/-! (*punctual/mach.looker).region -/
abbrev mach_looker_region.Post (w0 : World) (bp0 : Nat) (lp0_0 : List SIns) (Ap0_0 : Option Addr) (cp0_0 : Nat) (lp0_1 : List Int) (Ap0_1 : Option Addr) (cp0_1 : Nat) (lp0_2 : List Int) (Ap0_2 : Option Addr) (cp0_2 : Nat) (mp0_3 : List (Int × Int)) (mbp0_3 : Nat) (x1 : Int) (LT : List Own) (r : Int × (List Int) × (List Int) × (List (Int × Int))) (e : Ending) (w : World) : Prop := ∃ (nbp0_1 : Value) (nbp0_2 : Value), e = .returned (.int .i64 r.1) ∧ St w0 w [Own.blk bp0 (.cells #[.slice Ap0_0 lp0_0.length cp0_0, nbp0_1, nbp0_2, .map (some mbp0_3)] 143 (0, 0)), Own.of nbp0_1 3 r.2.1, Own.of nbp0_2 3 r.2.2.1, Own.map (κ := Int) (ν := Int) mbp0_3 r.2.2.2, Own.all LT]
def mach_looker_region.p0 (lp0_0 : List SIns) (lp0_1 : List Int) (lp0_2 : List Int) (mp0_3 : List (Int × Int)) (x1 : Int) : Option ((Int × Int × Int × Int) ⊕ (Int × (List Int) × (List Int) × (List (Int × Int)))) :=
    if 0 ≤ x1 then
      match lp0_0[(x1).toNat]? with
      | none => none
      | some e1 =>
        match mach_looker_top.f lp0_0 lp0_1 lp0_2 mp0_3 with
        | none => none
        | some r1 =>
          some (.inl (r1, e1.Op, e1.A, e1.B))
    else
      none
def mach_looker_region.p1 (z6 : Int) : Option (Bool ⊕ (Int × (List Int) × (List Int) × (List (Int × Int)))) :=
    if z6 = 13 then
      some (.inl true)
    else
      some (.inl (z6 == 16))
def mach_looker_region.f (K : Nat) (lp0_0 : List SIns) (lp0_1 : List Int) (lp0_2 : List Int) (mp0_3 : List (Int × Int)) (x1 : Int) : Option (Int × (List Int) × (List Int) × (List (Int × Int))) :=
  match mach_looker_region.p0 lp0_0 lp0_1 lp0_2 mp0_3 x1 with
  | none => none
  | some (.inl (z5, z6, z7, z8)) =>
    if 0 ≤ x1 then
      match lp0_2[(x1).toNat]? with
      | none => none
      | some e2 =>
        match mach_looker_region.p1 z6 with
        | none => none
        | some (.inl q2) =>
          if q2 = true then
            match mach_looker_holds.f K lp0_0 lp0_1 (lp0_2.set ((x1).toNat) z5) mp0_3 z6 z7 with
            | none => none
            | some r2 =>
              if r2 = true then
                if z6 = 13 then
                  some (9, lp0_1, (lp0_2.set ((x1).toNat) z5), mp0_3)
                else
                  some (10, lp0_1, (lp0_2.set ((x1).toNat) z5), mp0_3)
              else
                if lp0_1.length < 17592186044416 then
                  some (0, (lp0_1 ++ [x1]), (lp0_2.set ((x1).toNat) z5), mp0_3)
                else
                  none
          else
            if z6 = 14 then
              if z5 < 0 then
                some (9, lp0_1, (lp0_2.set ((x1).toNat) z5), mp0_3)
              else
                if 0 ≤ z5 then
                  match lp0_0[(z5).toNat]? with
                  | none => none
                  | some e3 =>
                    if e3.Op = 13 then
                      if e3.A = z7 then
                        if z8 = (IntKind.i64.wrap (z5 + 1)) then
                          match mach_looker_close.f lp0_0 lp0_1 (lp0_2.set ((x1).toNat) z5) mp0_3 x1 with
                          | none => none
                          | some r3 =>
                            some (0, r3.1, (lp0_2.set ((x1).toNat) z5), r3.2)
                        else
                          some (9, lp0_1, (lp0_2.set ((x1).toNat) z5), mp0_3)
                      else
                        some (9, lp0_1, (lp0_2.set ((x1).toNat) z5), mp0_3)
                    else
                      some (9, lp0_1, (lp0_2.set ((x1).toNat) z5), mp0_3)
                else
                  none
            else
              if z6 = 17 then
                if z5 < 0 then
                  some (10, lp0_1, (lp0_2.set ((x1).toNat) z5), mp0_3)
                else
                  if 0 ≤ z5 then
                    match lp0_0[(z5).toNat]? with
                    | none => none
                    | some e4 =>
                      if e4.Op = 16 then
                        if e4.A = z7 then
                          match mach_looker_close.f lp0_0 lp0_1 (lp0_2.set ((x1).toNat) z5) mp0_3 x1 with
                          | none => none
                          | some r4 =>
                            some (0, r4.1, (lp0_2.set ((x1).toNat) z5), r4.2)
                        else
                          some (10, lp0_1, (lp0_2.set ((x1).toNat) z5), mp0_3)
                      else
                        some (10, lp0_1, (lp0_2.set ((x1).toNat) z5), mp0_3)
                  else
                    none
              else
                if z6 = 15 then
                  match mach_looker_holds.f K lp0_0 lp0_1 (lp0_2.set ((x1).toNat) z5) mp0_3 13 z7 with
                  | none => none
                  | some r5 =>
                    if r5 = true then
                      some (0, lp0_1, (lp0_2.set ((x1).toNat) z5), mp0_3)
                    else
                      some (9, lp0_1, (lp0_2.set ((x1).toNat) z5), mp0_3)
                else
                  some (0, lp0_1, (lp0_2.set ((x1).toNat) z5), mp0_3)
        | some (.inr rr1) =>
          some rr1
    else
      none
  | some (.inr rr2) =>
    some rr2
abbrev mach_looker_region.A0 (K : Nat) (w0 : World) (bp0 : Nat) (lp0_0 : List SIns) (Ap0_0 : Option Addr) (cp0_0 : Nat) (lp0_1 : List Int) (Ap0_1 : Option Addr) (cp0_1 : Nat) (lp0_2 : List Int) (Ap0_2 : Option Addr) (cp0_2 : Nat) (mp0_3 : List (Int × Int)) (mbp0_3 : Nat) (x1 : Int) (LT : List Own) (hRp0_0 : RdL w0 Ap0_0 lp0_0) (hLp0_0 : lp0_0.length ≤ cp0_0) : (Int × Int × Int × Int) → Act → World → Prop := fun (s : Int × Int × Int × Int) a w => ∃ (b1 : Nat), St w0 w [Own.blk b1 (.cells #[.int .i64 s.2.1, .int .i64 s.2.2.1, .int .i64 s.2.2.2] 29 (0, 0)), Own.blk bp0 (.cells #[.slice Ap0_0 lp0_0.length cp0_0, (.slice Ap0_1 lp0_1.length cp0_1), (.slice Ap0_2 lp0_2.length cp0_2), .map (some mbp0_3)] 143 (0, 0)), Own.of (.slice Ap0_1 lp0_1.length cp0_1) 3 lp0_1, Own.of (.slice Ap0_2 lp0_2.length cp0_2) 3 lp0_2, Own.map (κ := Int) (ν := Int) mbp0_3 mp0_3, Own.all LT] ∧ Frm 124 a [(0, .pointer (some ⟨bp0, 0, none⟩)), (1, .int .i64 x1), (5, .pointer (some ⟨b1, 0, none⟩)), (6, .int .i64 s.1)]
abbrev mach_looker_region.B0 (K : Nat) (w0 : World) (bp0 : Nat) (lp0_0 : List SIns) (Ap0_0 : Option Addr) (cp0_0 : Nat) (lp0_1 : List Int) (Ap0_1 : Option Addr) (cp0_1 : Nat) (lp0_2 : List Int) (Ap0_2 : Option Addr) (cp0_2 : Nat) (mp0_3 : List (Int × Int)) (mbp0_3 : Nat) (x1 : Int) (LT : List Own) (hRp0_0 : RdL w0 Ap0_0 lp0_0) (hLp0_0 : lp0_0.length ≤ cp0_0) : (Int × (List Int) × (List Int) × (List (Int × Int))) → Exit → Act → World → Prop := Rets Try.prog Try.f85 (mach_looker_region.Post w0 bp0 lp0_0 Ap0_0 cp0_0 lp0_1 Ap0_1 cp0_1 lp0_2 Ap0_2 cp0_2 mp0_3 mbp0_3 x1 LT)
theorem mach_looker_region_p0 (K : Nat) (w0 : World) (bp0 : Nat) (lp0_0 : List SIns) (Ap0_0 : Option Addr) (cp0_0 : Nat) (lp0_1 : List Int) (Ap0_1 : Option Addr) (cp0_1 : Nat) (lp0_2 : List Int) (Ap0_2 : Option Addr) (cp0_2 : Nat) (mp0_3 : List (Int × Int)) (mbp0_3 : Nat) (x1 : Int) (LT : List Own) (hRp0_0 : RdL w0 Ap0_0 lp0_0) (hLp0_0 : lp0_0.length ≤ cp0_0) (o : (Int × Int × Int × Int) ⊕ (Int × (List Int) × (List Int) × (List (Int × Int)))) (h : mach_looker_region.p0 lp0_0 lp0_1 lp0_2 mp0_3 x1 = some o) (w : World) (hS : St w0 w [Own.blk bp0 (.cells #[.slice Ap0_0 lp0_0.length cp0_0, (.slice Ap0_1 lp0_1.length cp0_1), (.slice Ap0_2 lp0_2.length cp0_2), .map (some mbp0_3)] 143 (0, 0)), Own.of (.slice Ap0_1 lp0_1.length cp0_1) 3 lp0_1, Own.of (.slice Ap0_2 lp0_2.length cp0_2) 3 lp0_2, Own.map (κ := Int) (ν := Int) mbp0_3 mp0_3, Own.all LT]) (Q : Exit → Act → World → Prop) (hQ : ∀ x a w, Outs (mach_looker_region.A0 K w0 bp0 lp0_0 Ap0_0 cp0_0 lp0_1 Ap0_1 cp0_1 lp0_2 Ap0_2 cp0_2 mp0_3 mbp0_3 x1 LT hRp0_0 hLp0_0) (mach_looker_region.B0 K w0 bp0 lp0_0 Ap0_0 cp0_0 lp0_1 Ap0_1 cp0_1 lp0_2 Ap0_2 cp0_2 mp0_3 mbp0_3 x1 LT hRp0_0 hLp0_0) o x a w → Q x a w) : WE Try.prog 124 (subF Try.f85 [1, 0]) Q [(0, .pointer (some ⟨bp0, 0, none⟩)), (1, .int .i64 x1), (4, .int .i64 0)] w := by
  simp only [mach_looker_region.p0] at h
  refine we_orders2 (by kernel_rfl) [(3, [⟨bp0, 0, none⟩]), (6, [⟨blkOf Ap0_0, offOf Ap0_0 + ((x1).toNat) * 3, none⟩, ⟨blkOf Ap0_0, offOf Ap0_0 + ((x1).toNat) * 3 + 1, none⟩, ⟨blkOf Ap0_0, offOf Ap0_0 + ((x1).toNat) * 3 + 2, none⟩])] (.vals [0] (.vals [1] (.vals [2] (.vals [3] (.vals [4] (.vals [5] (.vals [6] (.vals [7] (.alt 8 2 (.alt 9 1 (.alt 10 2 (.vals [11] .fin) .nomore) .nomore) (.alt 9 1 (.alt 8 2 (.alt 10 2 (.vals [11] .fin) .nomore) .nomore) .nomore)))))))))) (by kernel_rfl) ?_
  have hS1 := hS.drew
  refine go2_batch [0, 1, 2] (ans := []) (vs := [(9, .pointer (some ⟨bp0, 0, none⟩)), (8, .pointer (some ⟨bp0, 0, none⟩)), (7, .pointer (some ⟨bp0, 0, none⟩))]) (l := []) (by kernel_rfl) trivial mem_nil ?_
  refine go2_batch [3] (ans := [.val (.slice Ap0_0 lp0_0.length cp0_0)]) (vs := [(10, .slice Ap0_0 lp0_0.length cp0_0)]) (l := [.loaded ⟨bp0, 0, none⟩ (.slice Ap0_0 lp0_0.length cp0_0)]) (by kernel_rfl) ⟨hS1.cell 0 rfl rfl, trivial⟩ (mem_one (by kernel_rfl)) ?_
  refine go2_batch [4] (ans := []) (vs := [(11, .int .i64 x1)]) (l := []) (by kernel_rfl) trivial mem_nil ?_
  by_cases hc1 : 0 ≤ x1
  · rw [if_pos hc1] at h
    rcases hx1 : lp0_0[(x1).toNat]? with _ | e1
    · rw [hx1] at h; cases h
    rw [hx1] at h
    simp only [] at h
    refine go2_index (d := 12) (ty := 0) (t := 68) (el := 29) (sz := 3) (m := lp0_0.length) (c := cp0_0) (x := (.tmp 10)) (y := (.tmp 11)) (A := Ap0_0) (k' := .i64) (j := x1) (jn := ((x1).toNat)) (b0 := blkOf Ap0_0) (o0 := offOf Ap0_0) (by kernel_rfl) (by kernel_rfl) (by kernel_rfl) (by kernel_rfl) (by kernel_rfl) ((hS1.rd hRp0_0).eqSome (pos_of_get hx1)) (Int.toNat_of_nonneg hc1).symm (lt_of_get hx1) ?_
    refine go2_batch [6] (ans := [.val (.int .i64 e1.Op), .val (.int .i64 e1.A), .val (.int .i64 e1.B)]) (vs := [(13, .agg #[.int .i64 e1.Op, .int .i64 e1.A, .int .i64 e1.B])]) (l := [.loaded ⟨blkOf Ap0_0, offOf Ap0_0 + ((x1).toNat) * 3, none⟩ (.int .i64 e1.Op), .loaded ⟨blkOf Ap0_0, offOf Ap0_0 + ((x1).toNat) * 3 + 1, none⟩ (.int .i64 e1.A), .loaded ⟨blkOf Ap0_0, offOf Ap0_0 + ((x1).toNat) * 3 + 2, none⟩ (.int .i64 e1.B)]) (by kernel_rfl) ⟨RdL.cell (j := 0) (hS1.rd hRp0_0) hx1 rfl, RdL.cell (j := 1) (hS1.rd hRp0_0) hx1 rfl, RdL.cell (j := 2) (hS1.rd hRp0_0) hx1 rfl, trivial⟩ (mem_one (by kernel_rfl)) ?_
    refine go2_batch [7] (ans := []) (vs := [(14, .pointer (some ⟨bp0, 0, none⟩))]) (l := []) (by kernel_rfl) trivial mem_nil ?_
    refine go_alt2 (fun KK hKK => ?_) ?_
    · rcases hq1 : mach_looker_top.f lp0_0 lp0_1 lp0_2 mp0_3 with _ | r1
      · rw [hq1] at h; cases h
      rw [hq1] at h
      simp only [] at h
      have hS2 := hS1.bring 3 rfl
      have hS3 := hS2.bring 3 rfl
      have hS4 := hS3.bring 3 rfl
      have hS5 := hS4.bring 3 rfl
      have hS7 : St w0 w.drew [Own.blk bp0 (.cells #[.slice Ap0_0 lp0_0.length cp0_0, (.slice Ap0_1 lp0_1.length cp0_1), (.slice Ap0_2 lp0_2.length cp0_2), .map (some mbp0_3)] 143 (0, 0)), Own.of (.slice Ap0_1 lp0_1.length cp0_1) 3 lp0_1, Own.of (.slice Ap0_2 lp0_2.length cp0_2) 3 lp0_2, Own.map (κ := Int) (ν := Int) mbp0_3 mp0_3, Own.all [Own.all LT]] := hS5.packN 4
      refine ge_call2 (m := 0) (d := some 15) (f := 103) (args := #[.pointer (some ⟨bp0, 0, none⟩)]) (by kernel_rfl) (mach_looker_top_ok bp0 lp0_0 Ap0_0 cp0_0 lp0_1 Ap0_1 cp0_1 lp0_2 Ap0_2 cp0_2 mp0_3 mbp0_3 _ _ _ hS7 hRp0_0 hLp0_0 _ hq1) ?_
      rintro _ w1 ⟨rfl, hS6⟩
      refine ⟨_, rfl, ?_⟩
      have hS8 : St w0 w1 [Own.blk bp0 (.cells #[.slice Ap0_0 lp0_0.length cp0_0, (.slice Ap0_1 lp0_1.length cp0_1), (.slice Ap0_2 lp0_2.length cp0_2), .map (some mbp0_3)] 143 (0, 0)), Own.of (.slice Ap0_1 lp0_1.length cp0_1) 3 lp0_1, Own.of (.slice Ap0_2 lp0_2.length cp0_2) 3 lp0_2, Own.map (κ := Int) (ν := Int) mbp0_3 mp0_3, Own.all LT] := hS6.unpack [Own.blk bp0 (.cells #[.slice Ap0_0 lp0_0.length cp0_0, (.slice Ap0_1 lp0_1.length cp0_1), (.slice Ap0_2 lp0_2.length cp0_2), .map (some mbp0_3)] 143 (0, 0)), Own.of (.slice Ap0_1 lp0_1.length cp0_1) 3 lp0_1, Own.of (.slice Ap0_2 lp0_2.length cp0_2) 3 lp0_2, Own.map (κ := Int) (ν := Int) mbp0_3 mp0_3]
      refine ge_nil fun a hF => hKK _ _ (RS.of2 (l := [.loaded ⟨bp0, 0, none⟩ (.slice Ap0_0 lp0_0.length cp0_0), .loaded ⟨blkOf Ap0_0, offOf Ap0_0 + ((x1).toNat) * 3, none⟩ (.int .i64 e1.Op), .loaded ⟨blkOf Ap0_0, offOf Ap0_0 + ((x1).toNat) * 3 + 1, none⟩ (.int .i64 e1.A), .loaded ⟨blkOf Ap0_0, offOf Ap0_0 + ((x1).toNat) * 3 + 2, none⟩ (.int .i64 e1.B)]) (by kernel_rfl) ⟨hS1.cell 0 rfl rfl, RdL.cell (j := 0) (hS1.rd hRp0_0) hx1 rfl, RdL.cell (j := 1) (hS1.rd hRp0_0) hx1 rfl, RdL.cell (j := 2) (hS1.rd hRp0_0) hx1 rfl, trivial⟩ ⟨hS8.cell 0 rfl rfl, RdL.cell (j := 0) (hS8.rd hRp0_0) hx1 rfl, RdL.cell (j := 1) (hS8.rd hRp0_0) hx1 rfl, RdL.cell (j := 2) (hS8.rd hRp0_0) hx1 rfl, trivial⟩) ?_ a hF
      refine go_alt2 (fun KK hKK => ?_) ?_
      · refine ge_one2 ?_
        refine ge_new (d := some 5) (o := .cells #[.int .i64 0, .int .i64 0, .int .i64 0] 29) (v := fun b => .pointer (some ⟨b, 0, none⟩)) hS8 (fun b => by kernel_rfl) fun b2 w2 hx2 hS9 => ?_
        refine ge_nil fun a hF => hKK _ _ (RS.of2 (l := [.loaded ⟨bp0, 0, none⟩ (.slice Ap0_0 lp0_0.length cp0_0), .loaded ⟨blkOf Ap0_0, offOf Ap0_0 + ((x1).toNat) * 3, none⟩ (.int .i64 e1.Op), .loaded ⟨blkOf Ap0_0, offOf Ap0_0 + ((x1).toNat) * 3 + 1, none⟩ (.int .i64 e1.A), .loaded ⟨blkOf Ap0_0, offOf Ap0_0 + ((x1).toNat) * 3 + 2, none⟩ (.int .i64 e1.B)]) (by kernel_rfl) ⟨hS8.cell 0 rfl rfl, RdL.cell (j := 0) (hS8.rd hRp0_0) hx1 rfl, RdL.cell (j := 1) (hS8.rd hRp0_0) hx1 rfl, RdL.cell (j := 2) (hS8.rd hRp0_0) hx1 rfl, trivial⟩ ⟨hS9.cell 1 rfl rfl, RdL.cell (j := 0) (hS9.rd hRp0_0) hx1 rfl, RdL.cell (j := 1) (hS9.rd hRp0_0) hx1 rfl, RdL.cell (j := 2) (hS9.rd hRp0_0) hx1 rfl, trivial⟩) ?_ a hF
        refine go_alt2 (fun KK hKK => ?_) ?_
        · refine ge_set (b := b2) (j := 0) (cs := #[.int .i64 0, .int .i64 0, .int .i64 0]) (t := 29) (vs := [.int .i64 e1.Op, .int .i64 e1.A, .int .i64 e1.B]) hS9 (by kernel_rfl) rfl rfl fun w3 hS10 => ?_
          have hS11 : St w0 w3 [Own.blk b2 (.cells #[.int .i64 e1.Op, .int .i64 e1.A, .int .i64 e1.B] 29 (0, 0)), Own.blk bp0 (.cells #[.slice Ap0_0 lp0_0.length cp0_0, (.slice Ap0_1 lp0_1.length cp0_1), (.slice Ap0_2 lp0_2.length cp0_2), .map (some mbp0_3)] 143 (0, 0)), Own.of (.slice Ap0_1 lp0_1.length cp0_1) 3 lp0_1, Own.of (.slice Ap0_2 lp0_2.length cp0_2) 3 lp0_2, Own.map (κ := Int) (ν := Int) mbp0_3 mp0_3, Own.all LT] := hS10
          refine ge_nil fun a hF => hKK _ _ (RS.of2 (l := []) (by kernel_rfl) trivial trivial) ?_ a hF
          refine go2_batch [11] (ans := []) (vs := [(6, .int .i64 r1)]) (l := []) (by kernel_rfl) trivial mem_nil ?_
          have hS12 := hS11.bring 5 rfl
          have hS13 := hS12.bring 5 rfl
          have hS14 := hS13.bring 5 rfl
          have hS15 := hS14.bring 5 rfl
          have hS16 := hS15.bring 5 rfl
          have hS17 := hS16.bring 5 rfl
          obtain rfl := Option.some.inj h
          exact go_fin2 fun a hF => hQ _ _ _ (Outs.again ⟨b2, hS17, hF.weaken ⟨by kernel_rfl, by kernel_rfl, by kernel_rfl, by kernel_rfl, trivial⟩⟩)
        exact go_nomore2
      exact go_nomore2
    refine go_alt2 (fun KK hKK => ?_) ?_
    · refine ge_one2 ?_
      refine ge_new (d := some 5) (o := .cells #[.int .i64 0, .int .i64 0, .int .i64 0] 29) (v := fun b => .pointer (some ⟨b, 0, none⟩)) hS1 (fun b => by kernel_rfl) fun b2 w1 hx2 hS2 => ?_
      refine ge_nil fun a hF => hKK _ _ (RS.of2 (l := [.loaded ⟨bp0, 0, none⟩ (.slice Ap0_0 lp0_0.length cp0_0), .loaded ⟨blkOf Ap0_0, offOf Ap0_0 + ((x1).toNat) * 3, none⟩ (.int .i64 e1.Op), .loaded ⟨blkOf Ap0_0, offOf Ap0_0 + ((x1).toNat) * 3 + 1, none⟩ (.int .i64 e1.A), .loaded ⟨blkOf Ap0_0, offOf Ap0_0 + ((x1).toNat) * 3 + 2, none⟩ (.int .i64 e1.B)]) (by kernel_rfl) ⟨hS1.cell 0 rfl rfl, RdL.cell (j := 0) (hS1.rd hRp0_0) hx1 rfl, RdL.cell (j := 1) (hS1.rd hRp0_0) hx1 rfl, RdL.cell (j := 2) (hS1.rd hRp0_0) hx1 rfl, trivial⟩ ⟨hS2.cell 1 rfl rfl, RdL.cell (j := 0) (hS2.rd hRp0_0) hx1 rfl, RdL.cell (j := 1) (hS2.rd hRp0_0) hx1 rfl, RdL.cell (j := 2) (hS2.rd hRp0_0) hx1 rfl, trivial⟩) ?_ a hF
      refine go_alt2 (fun KK hKK => ?_) ?_
      · rcases hq1 : mach_looker_top.f lp0_0 lp0_1 lp0_2 mp0_3 with _ | r1
        · rw [hq1] at h; cases h
        rw [hq1] at h
        simp only [] at h
        have hS3 := hS2.bring 4 rfl
        have hS4 := hS3.bring 4 rfl
        have hS5 := hS4.bring 4 rfl
        have hS6 := hS5.bring 4 rfl
        have hS8 : St w0 w1 [Own.blk bp0 (.cells #[.slice Ap0_0 lp0_0.length cp0_0, (.slice Ap0_1 lp0_1.length cp0_1), (.slice Ap0_2 lp0_2.length cp0_2), .map (some mbp0_3)] 143 (0, 0)), Own.of (.slice Ap0_1 lp0_1.length cp0_1) 3 lp0_1, Own.of (.slice Ap0_2 lp0_2.length cp0_2) 3 lp0_2, Own.map (κ := Int) (ν := Int) mbp0_3 mp0_3, Own.all [Own.blk b2 (.cells #[.int .i64 0, .int .i64 0, .int .i64 0] 29 (0, 0)), Own.all LT]] := hS6.packN 4
        refine ge_call2 (m := 0) (d := some 15) (f := 103) (args := #[.pointer (some ⟨bp0, 0, none⟩)]) (by kernel_rfl) (mach_looker_top_ok bp0 lp0_0 Ap0_0 cp0_0 lp0_1 Ap0_1 cp0_1 lp0_2 Ap0_2 cp0_2 mp0_3 mbp0_3 _ _ _ hS8 hRp0_0 hLp0_0 _ hq1) ?_
        rintro _ w2 ⟨rfl, hS7⟩
        refine ⟨_, rfl, ?_⟩
        have hS9 : St w0 w2 [Own.blk bp0 (.cells #[.slice Ap0_0 lp0_0.length cp0_0, (.slice Ap0_1 lp0_1.length cp0_1), (.slice Ap0_2 lp0_2.length cp0_2), .map (some mbp0_3)] 143 (0, 0)), Own.of (.slice Ap0_1 lp0_1.length cp0_1) 3 lp0_1, Own.of (.slice Ap0_2 lp0_2.length cp0_2) 3 lp0_2, Own.map (κ := Int) (ν := Int) mbp0_3 mp0_3, Own.blk b2 (.cells #[.int .i64 0, .int .i64 0, .int .i64 0] 29 (0, 0)), Own.all LT] := hS7.unpack [Own.blk bp0 (.cells #[.slice Ap0_0 lp0_0.length cp0_0, (.slice Ap0_1 lp0_1.length cp0_1), (.slice Ap0_2 lp0_2.length cp0_2), .map (some mbp0_3)] 143 (0, 0)), Own.of (.slice Ap0_1 lp0_1.length cp0_1) 3 lp0_1, Own.of (.slice Ap0_2 lp0_2.length cp0_2) 3 lp0_2, Own.map (κ := Int) (ν := Int) mbp0_3 mp0_3]
        refine ge_nil fun a hF => hKK _ _ (RS.of2 (l := [.loaded ⟨bp0, 0, none⟩ (.slice Ap0_0 lp0_0.length cp0_0), .loaded ⟨blkOf Ap0_0, offOf Ap0_0 + ((x1).toNat) * 3, none⟩ (.int .i64 e1.Op), .loaded ⟨blkOf Ap0_0, offOf Ap0_0 + ((x1).toNat) * 3 + 1, none⟩ (.int .i64 e1.A), .loaded ⟨blkOf Ap0_0, offOf Ap0_0 + ((x1).toNat) * 3 + 2, none⟩ (.int .i64 e1.B)]) (by kernel_rfl) ⟨hS2.cell 1 rfl rfl, RdL.cell (j := 0) (hS2.rd hRp0_0) hx1 rfl, RdL.cell (j := 1) (hS2.rd hRp0_0) hx1 rfl, RdL.cell (j := 2) (hS2.rd hRp0_0) hx1 rfl, trivial⟩ ⟨hS9.cell 0 rfl rfl, RdL.cell (j := 0) (hS9.rd hRp0_0) hx1 rfl, RdL.cell (j := 1) (hS9.rd hRp0_0) hx1 rfl, RdL.cell (j := 2) (hS9.rd hRp0_0) hx1 rfl, trivial⟩) ?_ a hF
        refine go_alt2 (fun KK hKK => ?_) ?_
        · have hS10 := hS9.bring 4 rfl
          refine ge_set (b := b2) (j := 0) (cs := #[.int .i64 0, .int .i64 0, .int .i64 0]) (t := 29) (vs := [.int .i64 e1.Op, .int .i64 e1.A, .int .i64 e1.B]) hS10 (by kernel_rfl) rfl rfl fun w3 hS11 => ?_
          have hS12 : St w0 w3 [Own.blk b2 (.cells #[.int .i64 e1.Op, .int .i64 e1.A, .int .i64 e1.B] 29 (0, 0)), Own.blk bp0 (.cells #[.slice Ap0_0 lp0_0.length cp0_0, (.slice Ap0_1 lp0_1.length cp0_1), (.slice Ap0_2 lp0_2.length cp0_2), .map (some mbp0_3)] 143 (0, 0)), Own.of (.slice Ap0_1 lp0_1.length cp0_1) 3 lp0_1, Own.of (.slice Ap0_2 lp0_2.length cp0_2) 3 lp0_2, Own.map (κ := Int) (ν := Int) mbp0_3 mp0_3, Own.all LT] := hS11
          refine ge_nil fun a hF => hKK _ _ (RS.of2 (l := []) (by kernel_rfl) trivial trivial) ?_ a hF
          refine go2_batch [11] (ans := []) (vs := [(6, .int .i64 r1)]) (l := []) (by kernel_rfl) trivial mem_nil ?_
          have hS13 := hS12.bring 5 rfl
          have hS14 := hS13.bring 5 rfl
          have hS15 := hS14.bring 5 rfl
          have hS16 := hS15.bring 5 rfl
          have hS17 := hS16.bring 5 rfl
          have hS18 := hS17.bring 5 rfl
          obtain rfl := Option.some.inj h
          exact go_fin2 fun a hF => hQ _ _ _ (Outs.again ⟨b2, hS18, hF.weaken ⟨by kernel_rfl, by kernel_rfl, by kernel_rfl, by kernel_rfl, trivial⟩⟩)
        exact go_nomore2
      exact go_nomore2
    exact go_nomore2
  · rw [if_neg hc1] at h
    cases h
abbrev mach_looker_region.A1 (K : Nat) (w0 : World) (bp0 : Nat) (lp0_0 : List SIns) (Ap0_0 : Option Addr) (cp0_0 : Nat) (lp0_1 : List Int) (Ap0_1 : Option Addr) (cp0_1 : Nat) (lp0_2 : List Int) (Ap0_2 : Option Addr) (cp0_2 : Nat) (mp0_3 : List (Int × Int)) (mbp0_3 : Nat) (x1 : Int) (LT : List Own) (hRp0_0 : RdL w0 Ap0_0 lp0_0) (hLp0_0 : lp0_0.length ≤ cp0_0) (b3 : Nat) (z5 : Int) (z6 : Int) (z7 : Int) (z8 : Int) (hc2 : 0 ≤ x1) (e2 : Int) (hx3 : lp0_2[(x1).toNat]? = some e2) : Bool → Act → World → Prop := fun (s : Bool) a w => St w0 w [Own.blk b3 (.cells #[.int .i64 z6, .int .i64 z7, .int .i64 z8] 29 (0, 0)), Own.blk bp0 (.cells #[.slice Ap0_0 lp0_0.length cp0_0, (.slice Ap0_1 lp0_1.length cp0_1), (.slice Ap0_2 (lp0_2.set ((x1).toNat) z5).length cp0_2), .map (some mbp0_3)] 143 (0, 0)), Own.of (.slice Ap0_1 lp0_1.length cp0_1) 3 lp0_1, Own.of (.slice Ap0_2 (lp0_2.set ((x1).toNat) z5).length cp0_2) 3 (lp0_2.set ((x1).toNat) z5), Own.map (κ := Int) (ν := Int) mbp0_3 mp0_3, Own.all LT] ∧ Frm 124 a [(0, .pointer (some ⟨bp0, 0, none⟩)), (1, .int .i64 x1), (5, .pointer (some ⟨b3, 0, none⟩)), (6, .int .i64 z5), (25, .int .i64 z6), (26, .bool s)]
abbrev mach_looker_region.B1 (K : Nat) (w0 : World) (bp0 : Nat) (lp0_0 : List SIns) (Ap0_0 : Option Addr) (cp0_0 : Nat) (lp0_1 : List Int) (Ap0_1 : Option Addr) (cp0_1 : Nat) (lp0_2 : List Int) (Ap0_2 : Option Addr) (cp0_2 : Nat) (mp0_3 : List (Int × Int)) (mbp0_3 : Nat) (x1 : Int) (LT : List Own) (hRp0_0 : RdL w0 Ap0_0 lp0_0) (hLp0_0 : lp0_0.length ≤ cp0_0) (b3 : Nat) (z5 : Int) (z6 : Int) (z7 : Int) (z8 : Int) (hc2 : 0 ≤ x1) (e2 : Int) (hx3 : lp0_2[(x1).toNat]? = some e2) : (Int × (List Int) × (List Int) × (List (Int × Int))) → Exit → Act → World → Prop := Rets Try.prog Try.f85 (mach_looker_region.Post w0 bp0 lp0_0 Ap0_0 cp0_0 lp0_1 Ap0_1 cp0_1 lp0_2 Ap0_2 cp0_2 mp0_3 mbp0_3 x1 LT)
theorem mach_looker_region_p1 (K : Nat) (w0 : World) (bp0 : Nat) (lp0_0 : List SIns) (Ap0_0 : Option Addr) (cp0_0 : Nat) (lp0_1 : List Int) (Ap0_1 : Option Addr) (cp0_1 : Nat) (lp0_2 : List Int) (Ap0_2 : Option Addr) (cp0_2 : Nat) (mp0_3 : List (Int × Int)) (mbp0_3 : Nat) (x1 : Int) (LT : List Own) (hRp0_0 : RdL w0 Ap0_0 lp0_0) (hLp0_0 : lp0_0.length ≤ cp0_0) (b3 : Nat) (z5 : Int) (z6 : Int) (z7 : Int) (z8 : Int) (hc2 : 0 ≤ x1) (e2 : Int) (hx3 : lp0_2[(x1).toNat]? = some e2) (o : Bool ⊕ (Int × (List Int) × (List Int) × (List (Int × Int)))) (h : mach_looker_region.p1 z6 = some o) (w : World) (hS : St w0 w [Own.of (.slice Ap0_2 (lp0_2.set ((x1).toNat) z5).length cp0_2) 3 (lp0_2.set ((x1).toNat) z5), Own.blk b3 (.cells #[.int .i64 z6, .int .i64 z7, .int .i64 z8] 29 (0, 0)), Own.blk bp0 (.cells #[.slice Ap0_0 lp0_0.length cp0_0, (.slice Ap0_1 lp0_1.length cp0_1), (.slice Ap0_2 (lp0_2.set ((x1).toNat) z5).length cp0_2), .map (some mbp0_3)] 143 (0, 0)), Own.of (.slice Ap0_1 lp0_1.length cp0_1) 3 lp0_1, Own.map (κ := Int) (ν := Int) mbp0_3 mp0_3, Own.all LT]) (Q : Exit → Act → World → Prop) (hQ : ∀ x a w, Outs (mach_looker_region.A1 K w0 bp0 lp0_0 Ap0_0 cp0_0 lp0_1 Ap0_1 cp0_1 lp0_2 Ap0_2 cp0_2 mp0_3 mbp0_3 x1 LT hRp0_0 hLp0_0 b3 z5 z6 z7 z8 hc2 e2 hx3) (mach_looker_region.B1 K w0 bp0 lp0_0 Ap0_0 cp0_0 lp0_1 Ap0_1 cp0_1 lp0_2 Ap0_2 cp0_2 mp0_3 mbp0_3 x1 LT hRp0_0 hLp0_0 b3 z5 z6 z7 z8 hc2 e2 hx3) o x a w → Q x a w) : WE Try.prog 124 (subF Try.f85 [1, 1, 1, 0, 1, 0, 0]) Q [(0, .pointer (some ⟨bp0, 0, none⟩)), (1, .int .i64 x1), (5, .pointer (some ⟨b3, 0, none⟩)), (6, .int .i64 z5), (16, .pointer (some ⟨bp0, 0, none⟩)), (17, .pointer (some ⟨bp0, 0, none⟩)), (18, .pointer (some ⟨bp0, 2, none⟩)), (19, .pointer (some ⟨bp0, 2, none⟩)), (20, (.slice Ap0_2 (lp0_2.set ((x1).toNat) z5).length cp0_2)), (21, .int .i64 x1), (22, .int .i64 z5), (23, .pointer (some ⟨blkOf Ap0_2, offOf Ap0_2 + (x1).toNat * 1, none⟩)), (24, .pointer (some ⟨b3, 0, none⟩)), (25, .int .i64 z6)] w := by
  simp only [mach_looker_region.p1] at h
  refine we_seq fun K7 hK7 => ?_
  refine we_region [(0, 0), (1, 0)] rfl ?_
  refine ge_batch [0, 1] (ans := []) (vs := [(26, .bool (z6 == 13)), (27, .bool (z6 == 13))]) (l := []) (by kernel_rfl) trivial ?_
  refine ge_nil fun a hF => hK7 _ _ ?_ a hF
  by_cases hc3 : z6 = 13
  · rw [if_pos hc3] at h
    refine we_known (t := 26) (b := (z6 == 13)) (v := true) (by kernel_rfl) (beq_iff_eq.2 hc3) ?_
    refine we_true (by kernel_rfl) ?_
    have hS24 := hS.bring 5 rfl
    have hS25 := hS24.bring 5 rfl
    have hS26 := hS25.bring 2 rfl
    have hS27 := hS26.bring 5 rfl
    have hS28 := hS27.bring 5 rfl
    have hS29 := hS28.bring 5 rfl
    obtain rfl := Option.some.inj h
    exact we_skip fun a hF => hQ _ _ _ (Outs.again ⟨hS29, hF.weaken ⟨by kernel_rfl, by kernel_rfl, by kernel_rfl, by kernel_rfl, by kernel_rfl, by kernel_rfl, trivial⟩⟩)
  · rw [if_neg hc3] at h
    refine we_known (t := 26) (b := (z6 == 13)) (v := false) (by kernel_rfl) (beq_eq_false_iff_ne.2 hc3) ?_
    refine we_false (by kernel_rfl) ?_
    refine we_region [(0, 0), (1, 0)] rfl ?_
    refine ge_batch [0, 1] (ans := []) (vs := [(26, .bool (z6 == 16)), (28, .bool (z6 == 16))]) (l := []) (by kernel_rfl) trivial ?_
    have hS30 := hS.bring 5 rfl
    have hS31 := hS30.bring 5 rfl
    have hS32 := hS31.bring 2 rfl
    have hS33 := hS32.bring 5 rfl
    have hS34 := hS33.bring 5 rfl
    have hS35 := hS34.bring 5 rfl
    obtain rfl := Option.some.inj h
    exact ge_nil fun a hF => hQ _ _ _ (Outs.again ⟨hS35, hF.weaken ⟨by kernel_rfl, by kernel_rfl, by kernel_rfl, by kernel_rfl, by kernel_rfl, by kernel_rfl, trivial⟩⟩)
theorem mach_looker_region_ok (K : Nat) (bp0 : Nat) (lp0_0 : List SIns) (Ap0_0 : Option Addr) (cp0_0 : Nat) (lp0_1 : List Int) (Ap0_1 : Option Addr) (cp0_1 : Nat) (lp0_2 : List Int) (Ap0_2 : Option Addr) (cp0_2 : Nat) (mp0_3 : List (Int × Int)) (mbp0_3 : Nat) (x1 : Int) (w0 wE : World) (LT : List Own) (hS : St w0 wE [Own.blk bp0 (.cells #[.slice Ap0_0 lp0_0.length cp0_0, (.slice Ap0_1 lp0_1.length cp0_1), (.slice Ap0_2 lp0_2.length cp0_2), .map (some mbp0_3)] 143 (0, 0)), Own.of (.slice Ap0_1 lp0_1.length cp0_1) 3 lp0_1, Own.of (.slice Ap0_2 lp0_2.length cp0_2) 3 lp0_2, Own.map (κ := Int) (ν := Int) mbp0_3 mp0_3, Own.all LT]) (hRp0_0 : RdL w0 Ap0_0 lp0_0) (hLp0_0 : lp0_0.length ≤ cp0_0) (r : Int × (List Int) × (List Int) × (List (Int × Int))) (h : mach_looker_region.f K lp0_0 lp0_1 lp0_2 mp0_3 x1 = some r) :
    Calls Try.prog 85 #[.pointer (some ⟨bp0, 0, none⟩), .int .i64 x1] wE (mach_looker_region.Post w0 bp0 lp0_0 Ap0_0 cp0_0 lp0_1 Ap0_1 cp0_1 lp0_2 Ap0_2 cp0_2 mp0_3 mbp0_3 x1 LT r) := by
  unfold mach_looker_region.f at h
  refine calls_enter (n := 124) (args := [.pointer (some ⟨bp0, 0, none⟩), .int .i64 x1]) (fn := Try.f85) rfl rfl rfl rfl ?_
  show WE _ _ _ _ [(0, .pointer (some ⟨bp0, 0, none⟩)), (1, .int .i64 x1)] _
  refine we_seq fun K1 hK1 => ?_
  refine we_region [(0, 0)] rfl ?_
  refine ge_batch [0] (ans := []) (vs := [(4, .int .i64 0)]) (l := []) (by kernel_rfl) trivial ?_
  refine ge_nil fun a hF => hK1 _ _ ?_ a hF
  refine we_seq fun K2 hK2 => ?_
  rcases hq2 : mach_looker_region.p0 lp0_0 lp0_1 lp0_2 mp0_3 x1 with _ | (⟨z5, z6, z7, z8⟩ | rr2)
  · rw [hq2] at h; cases h
  · rw [hq2] at h
    simp only [] at h
    refine we_keep (e' := [(0, .pointer (some ⟨bp0, 0, none⟩)), (1, .int .i64 x1), (4, .int .i64 0)]) ⟨by kernel_rfl, by kernel_rfl, by kernel_rfl, trivial⟩ (mach_looker_region_p0 K w0 bp0 lp0_0 Ap0_0 cp0_0 lp0_1 Ap0_1 cp0_1 lp0_2 Ap0_2 cp0_2 mp0_3 mbp0_3 x1 LT hRp0_0 hLp0_0 _ hq2 _ hS _ ?_)
    rintro _ a w4 ⟨rfl, b3, hS19, hF⟩
    replace hS19 : St w0 w4 [Own.blk b3 (.cells #[.int .i64 z6, .int .i64 z7, .int .i64 z8] 29 (0, 0)), Own.blk bp0 (.cells #[.slice Ap0_0 lp0_0.length cp0_0, (.slice Ap0_1 lp0_1.length cp0_1), (.slice Ap0_2 lp0_2.length cp0_2), .map (some mbp0_3)] 143 (0, 0)), Own.of (.slice Ap0_1 lp0_1.length cp0_1) 3 lp0_1, Own.of (.slice Ap0_2 lp0_2.length cp0_2) 3 lp0_2, Own.map (κ := Int) (ν := Int) mbp0_3 mp0_3, Own.all LT] := hS19
    refine hK2 [(0, .pointer (some ⟨bp0, 0, none⟩)), (1, .int .i64 x1), (5, .pointer (some ⟨b3, 0, none⟩)), (6, .int .i64 z5)] w4 ?_ a hF
    refine we_seq fun K3 hK3 => ?_
    refine we_region [(0, 0), (1, 0), (2, 0), (3, 0), (4, 0), (5, 0), (6, 0), (7, 0), (8, 2)] rfl ?_
    refine ge_batch [0, 1, 2, 3, 4, 5, 6] (ans := [.val ((.slice Ap0_2 lp0_2.length cp0_2))]) (vs := [(22, .int .i64 z5), (21, .int .i64 x1), (20, (.slice Ap0_2 lp0_2.length cp0_2)), (19, .pointer (some ⟨bp0, 2, none⟩)), (18, .pointer (some ⟨bp0, 2, none⟩)), (17, .pointer (some ⟨bp0, 0, none⟩)), (16, .pointer (some ⟨bp0, 0, none⟩))]) (l := [.loaded ⟨bp0, 2, none⟩ ((.slice Ap0_2 lp0_2.length cp0_2))]) (by kernel_rfl) ⟨hS19.cell 1 rfl rfl, trivial⟩ ?_
    by_cases hc2 : 0 ≤ x1
    · rw [if_pos hc2] at h
      rcases hx3 : lp0_2[(x1).toNat]? with _ | e2
      · rw [hx3] at h; cases h
      rw [hx3] at h
      simp only [] at h
      refine ge_index (d := 23) (ty := 0) (t := 24) (el := 3) (sz := 1) (m := lp0_2.length) (c := cp0_2) (x := (.tmp 20)) (y := (.tmp 21)) (A := Ap0_2) (k' := .i64) (j := x1) (jn := ((x1).toNat)) (b0 := blkOf Ap0_2) (o0 := offOf Ap0_2) (by kernel_rfl) (by kernel_rfl) (by kernel_rfl) (by kernel_rfl) (by kernel_rfl) ((hS19.rdAt 3 rfl).eqSome (pos_of_get hx3)) (Int.toNat_of_nonneg hc2).symm (lt_of_get hx3) ?_
      have hS20 := hS19.bring 3 rfl
      refine ge_seti (α := Int) (A := Ap0_2) (nn := lp0_2.length) (c := cp0_2) (t := 3) (l := lp0_2) (x := e2) (x' := z5) (jn := ((x1).toNat)) (j := 0) (vs := [.int .i64 z5]) (l' := [.stored ⟨blkOf Ap0_2, offOf Ap0_2 + ((x1).toNat) * 1, none⟩ (.int .i64 z5)]) hS20 (by kernel_rfl) (by kernel_rfl) hx3 rfl rfl rfl fun w5 hS21 => ?_
      have hS22 : St w0 w5 [Own.of (.slice Ap0_2 lp0_2.length cp0_2) 3 (lp0_2.set ((x1).toNat) z5), Own.blk b3 (.cells #[.int .i64 z6, .int .i64 z7, .int .i64 z8] 29 (0, 0)), Own.blk bp0 (.cells #[.slice Ap0_0 lp0_0.length cp0_0, (.slice Ap0_1 lp0_1.length cp0_1), (.slice Ap0_2 lp0_2.length cp0_2), .map (some mbp0_3)] 143 (0, 0)), Own.of (.slice Ap0_1 lp0_1.length cp0_1) 3 lp0_1, Own.map (κ := Int) (ν := Int) mbp0_3 mp0_3, Own.all LT] := hS21
      have hE1 : lp0_2.length = (lp0_2.set ((x1).toNat) z5).length := hS22.lenAt 0 rfl
      have hS23 : St w0 w5 [Own.of (.slice Ap0_2 (lp0_2.set ((x1).toNat) z5).length cp0_2) 3 (lp0_2.set ((x1).toNat) z5), Own.blk b3 (.cells #[.int .i64 z6, .int .i64 z7, .int .i64 z8] 29 (0, 0)), Own.blk bp0 (.cells #[.slice Ap0_0 lp0_0.length cp0_0, (.slice Ap0_1 lp0_1.length cp0_1), (.slice Ap0_2 (lp0_2.set ((x1).toNat) z5).length cp0_2), .map (some mbp0_3)] 143 (0, 0)), Own.of (.slice Ap0_1 lp0_1.length cp0_1) 3 lp0_1, Own.map (κ := Int) (ν := Int) mbp0_3 mp0_3, Own.all LT] := by rw [← hE1]; exact hS22
      refine ge_same (t := 20) (v := (.slice Ap0_2 lp0_2.length cp0_2)) (v' := (.slice Ap0_2 (lp0_2.set ((x1).toNat) z5).length cp0_2)) (by kernel_rfl) (by rw [hE1]) ?_
      refine ge_nil fun a hF => hK3 _ _ ?_ a hF
      refine we_seq fun K4 hK4 => ?_
      refine we_seq fun K5 hK5 => ?_
      refine we_region [(0, 0), (1, 0)] rfl ?_
      refine ge_batch [0, 1] (ans := [.val (.int .i64 z6)]) (vs := [(25, .int .i64 z6), (24, .pointer (some ⟨b3, 0, none⟩))]) (l := [.loaded ⟨b3, 0, none⟩ (.int .i64 z6)]) (by kernel_rfl) ⟨hS23.cell 1 rfl rfl, trivial⟩ ?_
      refine ge_nil fun a hF => hK5 _ _ ?_ a hF
      refine we_block ?_
      refine we_seq fun K6 hK6 => ?_
      rcases hq3 : mach_looker_region.p1 z6 with _ | (q2 | rr1)
      · rw [hq3] at h; cases h
      · rw [hq3] at h
        simp only [] at h
        refine we_keep (e' := [(0, .pointer (some ⟨bp0, 0, none⟩)), (1, .int .i64 x1), (5, .pointer (some ⟨b3, 0, none⟩)), (6, .int .i64 z5), (16, .pointer (some ⟨bp0, 0, none⟩)), (17, .pointer (some ⟨bp0, 0, none⟩)), (18, .pointer (some ⟨bp0, 2, none⟩)), (19, .pointer (some ⟨bp0, 2, none⟩)), (20, (.slice Ap0_2 (lp0_2.set ((x1).toNat) z5).length cp0_2)), (21, .int .i64 x1), (22, .int .i64 z5), (23, .pointer (some ⟨blkOf Ap0_2, offOf Ap0_2 + (x1).toNat * 1, none⟩)), (24, .pointer (some ⟨b3, 0, none⟩)), (25, .int .i64 z6)]) ⟨by kernel_rfl, by kernel_rfl, by kernel_rfl, by kernel_rfl, by kernel_rfl, by kernel_rfl, by kernel_rfl, by kernel_rfl, by kernel_rfl, by kernel_rfl, by kernel_rfl, by kernel_rfl, by kernel_rfl, by kernel_rfl, trivial⟩ (mach_looker_region_p1 K w0 bp0 lp0_0 Ap0_0 cp0_0 lp0_1 Ap0_1 cp0_1 lp0_2 Ap0_2 cp0_2 mp0_3 mbp0_3 x1 LT hRp0_0 hLp0_0 b3 z5 z6 z7 z8 hc2 e2 hx3 _ hq3 _ hS23 _ ?_)
        rintro _ a w6 ⟨rfl, hS36, hF⟩
        replace hS36 : St w0 w6 [Own.blk b3 (.cells #[.int .i64 z6, .int .i64 z7, .int .i64 z8] 29 (0, 0)), Own.blk bp0 (.cells #[.slice Ap0_0 lp0_0.length cp0_0, (.slice Ap0_1 lp0_1.length cp0_1), (.slice Ap0_2 (lp0_2.set ((x1).toNat) z5).length cp0_2), .map (some mbp0_3)] 143 (0, 0)), Own.of (.slice Ap0_1 lp0_1.length cp0_1) 3 lp0_1, Own.of (.slice Ap0_2 (lp0_2.set ((x1).toNat) z5).length cp0_2) 3 (lp0_2.set ((x1).toNat) z5), Own.map (κ := Int) (ν := Int) mbp0_3 mp0_3, Own.all LT] := hS36
        refine hK6 [(0, .pointer (some ⟨bp0, 0, none⟩)), (1, .int .i64 x1), (5, .pointer (some ⟨b3, 0, none⟩)), (6, .int .i64 z5), (25, .int .i64 z6), (26, .bool q2)] w6 ?_ a hF
        by_cases hc4 : q2 = true
        · rw [if_pos hc4] at h
          refine we_known (t := 26) (b := q2) (v := true) (by kernel_rfl) hc4 ?_
          refine we_true (by kernel_rfl) ?_
          refine we_seq fun K8 hK8 => ?_
          refine we_seq fun K9 hK9 => ?_
          refine we_region [(0, 0), (1, 0), (2, 0), (3, 0), (4, 0), (5, 2)] rfl ?_
          refine ge_batch [0, 1, 2, 3, 4] (ans := [.val (.int .i64 z6), .val (.int .i64 z7)]) (vs := [(33, .int .i64 z7), (32, .pointer (some ⟨b3, 1, none⟩)), (31, .int .i64 z6), (30, .pointer (some ⟨b3, 0, none⟩)), (29, .pointer (some ⟨bp0, 0, none⟩))]) (l := [.loaded ⟨b3, 0, none⟩ (.int .i64 z6), .loaded ⟨b3, 1, none⟩ (.int .i64 z7)]) (by kernel_rfl) ⟨hS36.cell 0 rfl rfl, hS36.cell 0 rfl rfl, trivial⟩ ?_
          rcases hq4 : mach_looker_holds.f K lp0_0 lp0_1 (lp0_2.set ((x1).toNat) z5) mp0_3 z6 z7 with _ | r2
          · rw [hq4] at h; cases h
          rw [hq4] at h
          simp only [] at h
          have hS37 := hS36.bring 4 rfl
          have hS38 := hS37.bring 4 rfl
          have hS39 := hS38.bring 4 rfl
          have hS40 := hS39.bring 4 rfl
          have hS42 : St w0 w6 [Own.blk bp0 (.cells #[.slice Ap0_0 lp0_0.length cp0_0, (.slice Ap0_1 lp0_1.length cp0_1), (.slice Ap0_2 (lp0_2.set ((x1).toNat) z5).length cp0_2), .map (some mbp0_3)] 143 (0, 0)), Own.of (.slice Ap0_1 lp0_1.length cp0_1) 3 lp0_1, Own.of (.slice Ap0_2 (lp0_2.set ((x1).toNat) z5).length cp0_2) 3 (lp0_2.set ((x1).toNat) z5), Own.map (κ := Int) (ν := Int) mbp0_3 mp0_3, Own.all [Own.blk b3 (.cells #[.int .i64 z6, .int .i64 z7, .int .i64 z8] 29 (0, 0)), Own.all LT]] := hS40.packN 4
          refine ge_call2 (m := 0) (d := some 34) (f := 104) (args := #[.pointer (some ⟨bp0, 0, none⟩), .int .i64 z6, .int .i64 z7]) (by kernel_rfl) (mach_looker_holds_ok K bp0 lp0_0 Ap0_0 cp0_0 lp0_1 Ap0_1 cp0_1 (lp0_2.set ((x1).toNat) z5) Ap0_2 cp0_2 mp0_3 mbp0_3 z6 z7 _ _ _ hS42 hRp0_0 hLp0_0 _ hq4) ?_
          rintro _ w7 ⟨rfl, hS41⟩
          refine ⟨_, rfl, ?_⟩
          have hS43 : St w0 w7 [Own.blk bp0 (.cells #[.slice Ap0_0 lp0_0.length cp0_0, (.slice Ap0_1 lp0_1.length cp0_1), (.slice Ap0_2 (lp0_2.set ((x1).toNat) z5).length cp0_2), .map (some mbp0_3)] 143 (0, 0)), Own.of (.slice Ap0_1 lp0_1.length cp0_1) 3 lp0_1, Own.of (.slice Ap0_2 (lp0_2.set ((x1).toNat) z5).length cp0_2) 3 (lp0_2.set ((x1).toNat) z5), Own.map (κ := Int) (ν := Int) mbp0_3 mp0_3, Own.blk b3 (.cells #[.int .i64 z6, .int .i64 z7, .int .i64 z8] 29 (0, 0)), Own.all LT] := hS41.unpack [Own.blk bp0 (.cells #[.slice Ap0_0 lp0_0.length cp0_0, (.slice Ap0_1 lp0_1.length cp0_1), (.slice Ap0_2 (lp0_2.set ((x1).toNat) z5).length cp0_2), .map (some mbp0_3)] 143 (0, 0)), Own.of (.slice Ap0_1 lp0_1.length cp0_1) 3 lp0_1, Own.of (.slice Ap0_2 (lp0_2.set ((x1).toNat) z5).length cp0_2) 3 (lp0_2.set ((x1).toNat) z5), Own.map (κ := Int) (ν := Int) mbp0_3 mp0_3]
          refine ge_nil fun a hF => hK9 _ _ ?_ a hF
          by_cases hc5 : r2 = true
          · rw [if_pos hc5] at h
            refine we_known (t := 34) (b := r2) (v := true) (by kernel_rfl) hc5 ?_
            refine we_true (by kernel_rfl) ?_
            refine we_seq fun K10 hK10 => ?_
            refine we_seq fun K11 hK11 => ?_
            refine we_region [(0, 0), (1, 0), (2, 0)] rfl ?_
            refine ge_batch [0, 1, 2] (ans := [.val (.int .i64 z6)]) (vs := [(37, .bool (z6 == 13)), (36, .int .i64 z6), (35, .pointer (some ⟨b3, 0, none⟩))]) (l := [.loaded ⟨b3, 0, none⟩ (.int .i64 z6)]) (by kernel_rfl) ⟨hS43.cell 4 rfl rfl, trivial⟩ ?_
            refine ge_nil fun a hF => hK11 _ _ ?_ a hF
            by_cases hc6 : z6 = 13
            · rw [if_pos hc6] at h
              refine we_known (t := 37) (b := (z6 == 13)) (v := true) (by kernel_rfl) (beq_iff_eq.2 hc6) ?_
              refine we_true (by kernel_rfl) ?_
              refine we_seq fun K12 hK12 => ?_
              refine we_region [(0, 0)] rfl ?_
              refine ge_batch [0] (ans := []) (vs := [(4, .int .i64 9)]) (l := []) (by kernel_rfl) trivial ?_
              refine ge_nil fun a hF => hK12 _ _ ?_ a hF
              have hS44 := hS43.bring 5 rfl
              have hS45 := hS44.bring 4 rfl
              have hS46 := hS45.bring 4 rfl
              have hS47 := hS46.bring 4 rfl
              have hS48 := hS47.bring 4 rfl
              have hS49 := hS48.takeN 5
              obtain rfl := Option.some.inj h
              exact we_ret (post_ret (rs := [.tmp 4]) (ans := []) (vs := [.int .i64 9]) (l := []) rfl (by kernel_rfl) trivial ⟨(.slice Ap0_1 lp0_1.length cp0_1), (.slice Ap0_2 (lp0_2.set ((x1).toNat) z5).length cp0_2), rfl, hS49⟩)
            · rw [if_neg hc6] at h
              refine we_known (t := 37) (b := (z6 == 13)) (v := false) (by kernel_rfl) (beq_eq_false_iff_ne.2 hc6) ?_
              refine we_false (by kernel_rfl) ?_
              refine we_skip fun a hF => hK10 _ _ ?_ a hF
              refine we_seq fun K13 hK13 => ?_
              refine we_region [(0, 0)] rfl ?_
              refine ge_batch [0] (ans := []) (vs := [(4, .int .i64 10)]) (l := []) (by kernel_rfl) trivial ?_
              refine ge_nil fun a hF => hK13 _ _ ?_ a hF
              have hS50 := hS43.bring 5 rfl
              have hS51 := hS50.bring 4 rfl
              have hS52 := hS51.bring 4 rfl
              have hS53 := hS52.bring 4 rfl
              have hS54 := hS53.bring 4 rfl
              have hS55 := hS54.takeN 5
              obtain rfl := Option.some.inj h
              exact we_ret (post_ret (rs := [.tmp 4]) (ans := []) (vs := [.int .i64 10]) (l := []) rfl (by kernel_rfl) trivial ⟨(.slice Ap0_1 lp0_1.length cp0_1), (.slice Ap0_2 (lp0_2.set ((x1).toNat) z5).length cp0_2), rfl, hS55⟩)
          · rw [if_neg hc5] at h
            refine we_known (t := 34) (b := r2) (v := false) (by kernel_rfl) (Bool.eq_false_iff.2 hc5) ?_
            refine we_false (by kernel_rfl) ?_
            refine we_skip fun a hF => hK8 _ _ ?_ a hF
            refine we_region [(0, 0), (1, 0), (2, 0), (3, 0), (4, 0), (5, 0), (6, 1), (7, 2), (8, 0), (9, 0), (10, 2)] rfl ?_
            refine ge_batch [0, 1, 2, 3, 4, 5] (ans := [.val ((.slice Ap0_1 lp0_1.length cp0_1))]) (vs := [(43, .int .i64 x1), (42, (.slice Ap0_1 lp0_1.length cp0_1)), (41, .pointer (some ⟨bp0, 1, none⟩)), (40, .pointer (some ⟨bp0, 0, none⟩)), (39, .pointer (some ⟨bp0, 0, none⟩)), (38, .pointer (some ⟨bp0, 0, none⟩))]) (l := [.loaded ⟨bp0, 1, none⟩ ((.slice Ap0_1 lp0_1.length cp0_1))]) (by kernel_rfl) ⟨hS43.cell 0 rfl rfl, trivial⟩ ?_
            refine ge_new (d := some 44) (o := .cells #[.int .i64 x1] 3) (v := fun b => .slice (some ⟨b, 0, none⟩) 1 1) hS43 (fun b => by kernel_rfl) fun b4 w8 hx4 hS56 => ?_
            have hS57 := hS56.bring 2 rfl
            by_cases hc7 : lp0_1.length < 17592186044416
            · rw [if_pos hc7] at h
              refine ge_append (α := Int) (m := 0) (d := 45) (t := 24) (el := 3) (bytes := 8) (c1 := 1) (b1 := b4) (x := (.tmp 42)) (y := (.tmp 44)) (ty := 24) (v := (.slice Ap0_1 lp0_1.length cp0_1)) (z := .int .i64 0) (l := lp0_1) (u := x1) (by kernel_rfl) (by kernel_rfl) (by kernel_rfl) (by kernel_rfl) (by kernel_rfl) rfl hS57 rfl (by omega) fun v1 w9 hS58 => ?_
              refine ge_batch [8, 9] (ans := []) (vs := [(47, .pointer (some ⟨bp0, 1, none⟩)), (46, .pointer (some ⟨bp0, 0, none⟩))]) (l := []) (by kernel_rfl) trivial ?_
              obtain ⟨Z1, cz1, rfl⟩ := hS58.open 0 rfl
              have hS59 := hS58.bring 1 rfl
              refine ge_set (b := bp0) (j := 1) (cs := #[.slice Ap0_0 lp0_0.length cp0_0, (.slice Ap0_1 lp0_1.length cp0_1), (.slice Ap0_2 (lp0_2.set ((x1).toNat) z5).length cp0_2), .map (some mbp0_3)]) (t := 143) (vs := [(.slice Z1 (lp0_1 ++ [x1]).length cz1)]) hS59 (by kernel_rfl) rfl rfl fun w10 hS60 => ?_
              have hS61 : St w0 w10 [Own.blk bp0 (.cells #[.slice Ap0_0 lp0_0.length cp0_0, (.slice Z1 (lp0_1 ++ [x1]).length cz1), (.slice Ap0_2 (lp0_2.set ((x1).toNat) z5).length cp0_2), .map (some mbp0_3)] 143 (0, 0)), Own.of (.slice Z1 (lp0_1 ++ [x1]).length cz1) 3 (lp0_1 ++ [x1]), Own.of (.slice Ap0_2 (lp0_2.set ((x1).toNat) z5).length cp0_2) 3 (lp0_2.set ((x1).toNat) z5), Own.map (κ := Int) (ν := Int) mbp0_3 mp0_3, Own.blk b3 (.cells #[.int .i64 z6, .int .i64 z7, .int .i64 z8] 29 (0, 0)), Own.all LT] := hS60
              refine ge_nil fun a hF => hK4 _ _ ?_ a hF
              refine we_seq fun K14 hK14 => ?_
              refine we_region [(0, 0)] rfl ?_
              refine ge_batch [0] (ans := []) (vs := [(4, .int .i64 0)]) (l := []) (by kernel_rfl) trivial ?_
              refine ge_nil fun a hF => hK14 _ _ ?_ a hF
              have hS62 := hS61.bring 5 rfl
              have hS63 := hS62.bring 4 rfl
              have hS64 := hS63.bring 4 rfl
              have hS65 := hS64.bring 4 rfl
              have hS66 := hS65.bring 4 rfl
              have hS67 := hS66.takeN 5
              obtain rfl := Option.some.inj h
              exact we_ret (post_ret (rs := [.tmp 4]) (ans := []) (vs := [.int .i64 0]) (l := []) rfl (by kernel_rfl) trivial ⟨(.slice Z1 (lp0_1 ++ [x1]).length cz1), (.slice Ap0_2 (lp0_2.set ((x1).toNat) z5).length cp0_2), rfl, hS67⟩)
            · rw [if_neg hc7] at h
              cases h
        · rw [if_neg hc4] at h
          refine we_known (t := 26) (b := q2) (v := false) (by kernel_rfl) (Bool.eq_false_iff.2 hc4) ?_
          refine we_false (by kernel_rfl) ?_
          refine we_seq fun K15 hK15 => ?_
          refine we_region [(0, 0), (1, 0)] rfl ?_
          refine ge_batch [0, 1] (ans := []) (vs := [(48, .bool (z6 == 14)), (49, .bool (z6 == 14))]) (l := []) (by kernel_rfl) trivial ?_
          refine ge_nil fun a hF => hK15 _ _ ?_ a hF
          by_cases hc8 : z6 = 14
          · rw [if_pos hc8] at h
            refine we_known (t := 48) (b := (z6 == 14)) (v := true) (by kernel_rfl) (beq_iff_eq.2 hc8) ?_
            refine we_true (by kernel_rfl) ?_
            refine we_seq fun K16 hK16 => ?_
            refine we_seq fun K17 hK17 => ?_
            refine we_draws (by kernel_rfl) [(0, 0), (1, 0), (2, 0), (3, 0), (4, 0), (5, 0), (6, 0), (7, 0), (8, 0), (9, 0), (10, 0), (11, 0), (12, 0), (13, 0), (14, 0), (15, 0), (16, 0), (17, 0), (18, 0), (19, 0), (20, 0), (21, 0), (22, 0), (23, 0), (24, 0), (25, 0), (26, 0), (27, 0), (28, 0), (29, 0), (30, 0), (31, 0), (32, 0)] (by kernel_rfl) ?_
            have hS68 := hS36.drew
            refine ge_batch [0, 1, 2] (ans := []) (vs := [(52, .bool (decide (z5 < 0))), (51, .bool (decide (z5 < 0))), (50, .int .i64 z5)]) (l := []) (by kernel_rfl) trivial ?_
            by_cases hc9 : z5 < 0
            · rw [if_pos hc9] at h
              refine ge_known (t := 52) (b := decide (z5 < 0)) (c := true) (by kernel_rfl) (decide_eq_true hc9) ?_
              refine ge_batch [3, 4, 5, 6, 7, 8, 9, 10, 11, 12, 13, 14, 15, 16, 17, 18, 19, 20, 21, 22, 23, 24, 25, 26, 27, 28, 29, 30, 31, 32] (ans := []) (vs := [(82, .bool true), (81, undef), (80, undef), (79, undef), (78, undef), (77, undef), (76, .bool true), (75, .bool true), (74, undef), (73, undef), (72, undef), (71, undef), (70, undef), (69, undef), (68, undef), (67, undef), (66, undef), (65, undef), (64, undef), (63, .bool true), (62, .bool true), (61, undef), (60, undef), (59, undef), (58, undef), (57, undef), (56, undef), (55, undef), (54, undef), (53, undef)]) (l := []) (by kernel_rfl) trivial ?_
              refine ge_nil fun a hF => hK17 _ _ ?_ a hF
              refine we_true (by kernel_rfl) ?_
              refine we_seq fun K18 hK18 => ?_
              refine we_region [(0, 0)] rfl ?_
              refine ge_batch [0] (ans := []) (vs := [(4, .int .i64 9)]) (l := []) (by kernel_rfl) trivial ?_
              refine ge_nil fun a hF => hK18 _ _ ?_ a hF
              have hS69 := hS68.bring 5 rfl
              have hS70 := hS69.bring 5 rfl
              have hS71 := hS70.bring 5 rfl
              have hS72 := hS71.bring 5 rfl
              have hS73 := hS72.bring 5 rfl
              have hS74 := hS73.takeN 5
              obtain rfl := Option.some.inj h
              exact we_ret (post_ret (rs := [.tmp 4]) (ans := []) (vs := [.int .i64 9]) (l := []) rfl (by kernel_rfl) trivial ⟨(.slice Ap0_1 lp0_1.length cp0_1), (.slice Ap0_2 (lp0_2.set ((x1).toNat) z5).length cp0_2), rfl, hS74⟩)
            · rw [if_neg hc9] at h
              refine ge_known (t := 52) (b := decide (z5 < 0)) (c := false) (by kernel_rfl) (decide_eq_false hc9) ?_
              refine ge_batch [3, 4, 5, 6, 7] (ans := [.val (.slice Ap0_0 lp0_0.length cp0_0)]) (vs := [(57, .int .i64 z5), (56, .slice Ap0_0 lp0_0.length cp0_0), (55, .pointer (some ⟨bp0, 0, none⟩)), (54, .pointer (some ⟨bp0, 0, none⟩)), (53, .pointer (some ⟨bp0, 0, none⟩))]) (l := [.loaded ⟨bp0, 0, none⟩ (.slice Ap0_0 lp0_0.length cp0_0)]) (by kernel_rfl) ⟨hS68.cell 1 rfl rfl, trivial⟩ ?_
              by_cases hc10 : 0 ≤ z5
              · rw [if_pos hc10] at h
                rcases hx5 : lp0_0[(z5).toNat]? with _ | e3
                · rw [hx5] at h; cases h
                rw [hx5] at h
                simp only [] at h
                refine ge_index (d := 58) (ty := 0) (t := 68) (el := 29) (sz := 3) (m := lp0_0.length) (c := cp0_0) (x := (.tmp 56)) (y := (.tmp 57)) (A := Ap0_0) (k' := .i64) (j := z5) (jn := ((z5).toNat)) (b0 := blkOf Ap0_0) (o0 := offOf Ap0_0) (by kernel_rfl) (by kernel_rfl) (by kernel_rfl) (by kernel_rfl) (by kernel_rfl) ((hS68.rd hRp0_0).eqSome (pos_of_get hx5)) (Int.toNat_of_nonneg hc10).symm (lt_of_get hx5) ?_
                refine ge_batch [9, 10, 11, 12, 13] (ans := [.val (.int .i64 e3.Op)]) (vs := [(63, .bool (e3.Op != 13)), (62, .bool (e3.Op != 13)), (61, .bool (e3.Op != 13)), (60, .int .i64 e3.Op), (59, .pointer (some ⟨blkOf Ap0_0, offOf Ap0_0 + (z5).toNat * 3, none⟩))]) (l := [.loaded ⟨blkOf Ap0_0, offOf Ap0_0 + ((z5).toNat) * 3, none⟩ (.int .i64 e3.Op)]) (by kernel_rfl) ⟨RdL.cell (j := 0) (hS68.rd hRp0_0) hx5 rfl, trivial⟩ ?_
                by_cases hc11 : e3.Op = 13
                · rw [if_pos hc11] at h
                  refine ge_known (t := 63) (b := (e3.Op != 13)) (c := false) (by kernel_rfl) (bne_eq_false_iff_eq.2 hc11) ?_
                  refine ge_batch [14, 15, 16, 17, 18] (ans := [.val (.slice Ap0_0 lp0_0.length cp0_0)]) (vs := [(68, .int .i64 z5), (67, .slice Ap0_0 lp0_0.length cp0_0), (66, .pointer (some ⟨bp0, 0, none⟩)), (65, .pointer (some ⟨bp0, 0, none⟩)), (64, .pointer (some ⟨bp0, 0, none⟩))]) (l := [.loaded ⟨bp0, 0, none⟩ (.slice Ap0_0 lp0_0.length cp0_0)]) (by kernel_rfl) ⟨hS68.cell 1 rfl rfl, trivial⟩ ?_
                  refine ge_index (d := 69) (ty := 0) (t := 68) (el := 29) (sz := 3) (m := lp0_0.length) (c := cp0_0) (x := (.tmp 67)) (y := (.tmp 68)) (A := Ap0_0) (k' := .i64) (j := z5) (jn := ((z5).toNat)) (b0 := blkOf Ap0_0) (o0 := offOf Ap0_0) (by kernel_rfl) (by kernel_rfl) (by kernel_rfl) (by kernel_rfl) (by kernel_rfl) ((hS68.rd hRp0_0).eqSome (pos_of_get hx5)) (Int.toNat_of_nonneg hc10).symm (lt_of_get hx5) ?_
                  refine ge_batch [20, 21, 22, 23, 24, 25, 26] (ans := [.val (.int .i64 e3.A), .val (.int .i64 z7)]) (vs := [(76, .bool (e3.A != z7)), (75, .bool (e3.A != z7)), (74, .bool (e3.A != z7)), (73, .int .i64 z7), (72, .pointer (some ⟨b3, 1, none⟩)), (71, .int .i64 e3.A), (70, .pointer (some ⟨blkOf Ap0_0, offOf Ap0_0 + (z5).toNat * 3 + 1, none⟩))]) (l := [.loaded ⟨blkOf Ap0_0, offOf Ap0_0 + ((z5).toNat) * 3 + 1, none⟩ (.int .i64 e3.A), .loaded ⟨b3, 1, none⟩ (.int .i64 z7)]) (by kernel_rfl) ⟨RdL.cell (j := 1) (hS68.rd hRp0_0) hx5 rfl, hS68.cell 0 rfl rfl, trivial⟩ ?_
                  by_cases hc12 : e3.A = z7
                  · rw [if_pos hc12] at h
                    refine ge_known (t := 76) (b := (e3.A != z7)) (c := false) (by kernel_rfl) (bne_eq_false_iff_eq.2 hc12) ?_
                    refine ge_batch [27, 28, 29, 30, 31, 32] (ans := [.val (.int .i64 z8)]) (vs := [(82, .bool (z8 != (IntKind.i64.wrap (z5 + 1)))), (81, .bool (z8 != (IntKind.i64.wrap (z5 + 1)))), (80, .int .i64 (IntKind.i64.wrap (z5 + 1))), (79, .int .i64 z5), (78, .int .i64 z8), (77, .pointer (some ⟨b3, 2, none⟩))]) (l := [.loaded ⟨b3, 2, none⟩ (.int .i64 z8)]) (by kernel_rfl) ⟨hS68.cell 0 rfl rfl, trivial⟩ ?_
                    refine ge_nil fun a hF => hK17 _ _ ?_ a hF
                    by_cases hc13 : z8 = (IntKind.i64.wrap (z5 + 1))
                    · rw [if_pos hc13] at h
                      refine we_known (t := 82) (b := (z8 != (IntKind.i64.wrap (z5 + 1)))) (v := false) (by kernel_rfl) (bne_eq_false_iff_eq.2 hc13) ?_
                      refine we_false (by kernel_rfl) ?_
                      refine we_skip fun a hF => hK16 _ _ ?_ a hF
                      refine we_region [(0, 0), (1, 0), (2, 2)] rfl ?_
                      refine ge_batch [0, 1] (ans := []) (vs := [(84, .int .i64 x1), (83, .pointer (some ⟨bp0, 0, none⟩))]) (l := []) (by kernel_rfl) trivial ?_
                      rcases hq5 : mach_looker_close.f lp0_0 lp0_1 (lp0_2.set ((x1).toNat) z5) mp0_3 x1 with _ | r3
                      · rw [hq5] at h; cases h
                      rw [hq5] at h
                      simp only [] at h
                      have hS75 := hS68.bring 4 rfl
                      have hS76 := hS75.bring 4 rfl
                      have hS77 := hS76.bring 4 rfl
                      have hS78 := hS77.bring 4 rfl
                      have hS80 : St w0 w6.drew [Own.blk bp0 (.cells #[.slice Ap0_0 lp0_0.length cp0_0, (.slice Ap0_1 lp0_1.length cp0_1), (.slice Ap0_2 (lp0_2.set ((x1).toNat) z5).length cp0_2), .map (some mbp0_3)] 143 (0, 0)), Own.of (.slice Ap0_1 lp0_1.length cp0_1) 3 lp0_1, Own.of (.slice Ap0_2 (lp0_2.set ((x1).toNat) z5).length cp0_2) 3 (lp0_2.set ((x1).toNat) z5), Own.map (κ := Int) (ν := Int) mbp0_3 mp0_3, Own.all [Own.blk b3 (.cells #[.int .i64 z6, .int .i64 z7, .int .i64 z8] 29 (0, 0)), Own.all LT]] := hS78.packN 4
                      refine ge_call2 (m := 0) (d := some 85) (f := 105) (args := #[.pointer (some ⟨bp0, 0, none⟩), .int .i64 x1]) (by kernel_rfl) (mach_looker_close_ok bp0 lp0_0 Ap0_0 cp0_0 lp0_1 Ap0_1 cp0_1 (lp0_2.set ((x1).toNat) z5) Ap0_2 cp0_2 mp0_3 mbp0_3 x1 _ _ _ hS80 hRp0_0 hLp0_0 _ hq5) ?_
                      rintro _ w11 ⟨v2, rfl, hS79⟩
                      refine ⟨_, rfl, ?_⟩
                      have hS81 : St w0 w11 [Own.blk bp0 (.cells #[.slice Ap0_0 lp0_0.length cp0_0, v2, (.slice Ap0_2 (lp0_2.set ((x1).toNat) z5).length cp0_2), .map (some mbp0_3)] 143 (0, 0)), Own.of v2 3 r3.1, Own.of (.slice Ap0_2 (lp0_2.set ((x1).toNat) z5).length cp0_2) 3 (lp0_2.set ((x1).toNat) z5), Own.map (κ := Int) (ν := Int) mbp0_3 r3.2, Own.blk b3 (.cells #[.int .i64 z6, .int .i64 z7, .int .i64 z8] 29 (0, 0)), Own.all LT] := hS79.unpack [Own.blk bp0 (.cells #[.slice Ap0_0 lp0_0.length cp0_0, v2, (.slice Ap0_2 (lp0_2.set ((x1).toNat) z5).length cp0_2), .map (some mbp0_3)] 143 (0, 0)), Own.of v2 3 r3.1, Own.of (.slice Ap0_2 (lp0_2.set ((x1).toNat) z5).length cp0_2) 3 (lp0_2.set ((x1).toNat) z5), Own.map (κ := Int) (ν := Int) mbp0_3 r3.2]
                      refine ge_nil fun a hF => hK4 _ _ ?_ a hF
                      refine we_seq fun K19 hK19 => ?_
                      refine we_region [(0, 0)] rfl ?_
                      refine ge_batch [0] (ans := []) (vs := [(4, .int .i64 0)]) (l := []) (by kernel_rfl) trivial ?_
                      refine ge_nil fun a hF => hK19 _ _ ?_ a hF
                      have hS82 := hS81.bring 5 rfl
                      have hS83 := hS82.bring 4 rfl
                      have hS84 := hS83.bring 4 rfl
                      have hS85 := hS84.bring 4 rfl
                      have hS86 := hS85.bring 4 rfl
                      have hS87 := hS86.takeN 5
                      obtain rfl := Option.some.inj h
                      exact we_ret (post_ret (rs := [.tmp 4]) (ans := []) (vs := [.int .i64 0]) (l := []) rfl (by kernel_rfl) trivial ⟨v2, (.slice Ap0_2 (lp0_2.set ((x1).toNat) z5).length cp0_2), rfl, hS87⟩)
                    · rw [if_neg hc13] at h
                      refine we_known (t := 82) (b := (z8 != (IntKind.i64.wrap (z5 + 1)))) (v := true) (by kernel_rfl) (bne_iff_ne.2 hc13) ?_
                      refine we_true (by kernel_rfl) ?_
                      refine we_seq fun K20 hK20 => ?_
                      refine we_region [(0, 0)] rfl ?_
                      refine ge_batch [0] (ans := []) (vs := [(4, .int .i64 9)]) (l := []) (by kernel_rfl) trivial ?_
                      refine ge_nil fun a hF => hK20 _ _ ?_ a hF
                      have hS88 := hS68.bring 5 rfl
                      have hS89 := hS88.bring 5 rfl
                      have hS90 := hS89.bring 5 rfl
                      have hS91 := hS90.bring 5 rfl
                      have hS92 := hS91.bring 5 rfl
                      have hS93 := hS92.takeN 5
                      obtain rfl := Option.some.inj h
                      exact we_ret (post_ret (rs := [.tmp 4]) (ans := []) (vs := [.int .i64 9]) (l := []) rfl (by kernel_rfl) trivial ⟨(.slice Ap0_1 lp0_1.length cp0_1), (.slice Ap0_2 (lp0_2.set ((x1).toNat) z5).length cp0_2), rfl, hS93⟩)
                  · rw [if_neg hc12] at h
                    refine ge_known (t := 76) (b := (e3.A != z7)) (c := true) (by kernel_rfl) (bne_iff_ne.2 hc12) ?_
                    refine ge_batch [27, 28, 29, 30, 31, 32] (ans := []) (vs := [(82, .bool true), (81, undef), (80, undef), (79, undef), (78, undef), (77, undef)]) (l := []) (by kernel_rfl) trivial ?_
                    refine ge_nil fun a hF => hK17 _ _ ?_ a hF
                    refine we_true (by kernel_rfl) ?_
                    refine we_seq fun K21 hK21 => ?_
                    refine we_region [(0, 0)] rfl ?_
                    refine ge_batch [0] (ans := []) (vs := [(4, .int .i64 9)]) (l := []) (by kernel_rfl) trivial ?_
                    refine ge_nil fun a hF => hK21 _ _ ?_ a hF
                    have hS94 := hS68.bring 5 rfl
                    have hS95 := hS94.bring 5 rfl
                    have hS96 := hS95.bring 5 rfl
                    have hS97 := hS96.bring 5 rfl
                    have hS98 := hS97.bring 5 rfl
                    have hS99 := hS98.takeN 5
                    obtain rfl := Option.some.inj h
                    exact we_ret (post_ret (rs := [.tmp 4]) (ans := []) (vs := [.int .i64 9]) (l := []) rfl (by kernel_rfl) trivial ⟨(.slice Ap0_1 lp0_1.length cp0_1), (.slice Ap0_2 (lp0_2.set ((x1).toNat) z5).length cp0_2), rfl, hS99⟩)
                · rw [if_neg hc11] at h
                  refine ge_known (t := 63) (b := (e3.Op != 13)) (c := true) (by kernel_rfl) (bne_iff_ne.2 hc11) ?_
                  refine ge_batch [14, 15, 16, 17, 18, 19, 20, 21, 22, 23, 24, 25, 26, 27, 28, 29, 30, 31, 32] (ans := []) (vs := [(82, .bool true), (81, undef), (80, undef), (79, undef), (78, undef), (77, undef), (76, .bool true), (75, .bool true), (74, undef), (73, undef), (72, undef), (71, undef), (70, undef), (69, undef), (68, undef), (67, undef), (66, undef), (65, undef), (64, undef)]) (l := []) (by kernel_rfl) trivial ?_
                  refine ge_nil fun a hF => hK17 _ _ ?_ a hF
                  refine we_true (by kernel_rfl) ?_
                  refine we_seq fun K22 hK22 => ?_
                  refine we_region [(0, 0)] rfl ?_
                  refine ge_batch [0] (ans := []) (vs := [(4, .int .i64 9)]) (l := []) (by kernel_rfl) trivial ?_
                  refine ge_nil fun a hF => hK22 _ _ ?_ a hF
                  have hS100 := hS68.bring 5 rfl
                  have hS101 := hS100.bring 5 rfl
                  have hS102 := hS101.bring 5 rfl
                  have hS103 := hS102.bring 5 rfl
                  have hS104 := hS103.bring 5 rfl
                  have hS105 := hS104.takeN 5
                  obtain rfl := Option.some.inj h
                  exact we_ret (post_ret (rs := [.tmp 4]) (ans := []) (vs := [.int .i64 9]) (l := []) rfl (by kernel_rfl) trivial ⟨(.slice Ap0_1 lp0_1.length cp0_1), (.slice Ap0_2 (lp0_2.set ((x1).toNat) z5).length cp0_2), rfl, hS105⟩)
              · rw [if_neg hc10] at h
                cases h
          · rw [if_neg hc8] at h
            refine we_known (t := 48) (b := (z6 == 14)) (v := false) (by kernel_rfl) (beq_eq_false_iff_ne.2 hc8) ?_
            refine we_false (by kernel_rfl) ?_
            refine we_seq fun K23 hK23 => ?_
            refine we_region [(0, 0), (1, 0)] rfl ?_
            refine ge_batch [0, 1] (ans := []) (vs := [(86, .bool (z6 == 17)), (87, .bool (z6 == 17))]) (l := []) (by kernel_rfl) trivial ?_
            refine ge_nil fun a hF => hK23 _ _ ?_ a hF
            by_cases hc14 : z6 = 17
            · rw [if_pos hc14] at h
              refine we_known (t := 86) (b := (z6 == 17)) (v := true) (by kernel_rfl) (beq_iff_eq.2 hc14) ?_
              refine we_true (by kernel_rfl) ?_
              refine we_seq fun K24 hK24 => ?_
              refine we_seq fun K25 hK25 => ?_
              refine we_draws (by kernel_rfl) [(0, 0), (1, 0), (2, 0), (3, 0), (4, 0), (5, 0), (6, 0), (7, 0), (8, 0), (9, 0), (10, 0), (11, 0), (12, 0), (13, 0), (14, 0), (15, 0), (16, 0), (17, 0), (18, 0), (19, 0), (20, 0), (21, 0), (22, 0), (23, 0), (24, 0), (25, 0)] (by kernel_rfl) ?_
              have hS106 := hS36.drew
              refine ge_batch [0, 1, 2] (ans := []) (vs := [(90, .bool (decide (z5 < 0))), (89, .bool (decide (z5 < 0))), (88, .int .i64 z5)]) (l := []) (by kernel_rfl) trivial ?_
              by_cases hc15 : z5 < 0
              · rw [if_pos hc15] at h
                refine ge_known (t := 90) (b := decide (z5 < 0)) (c := true) (by kernel_rfl) (decide_eq_true hc15) ?_
                refine ge_batch [3, 4, 5, 6, 7, 8, 9, 10, 11, 12, 13, 14, 15, 16, 17, 18, 19, 20, 21, 22, 23, 24, 25] (ans := []) (vs := [(113, .bool true), (112, undef), (111, undef), (110, undef), (109, undef), (108, undef), (107, undef), (106, undef), (105, undef), (104, undef), (103, undef), (102, undef), (101, .bool true), (100, .bool true), (99, undef), (98, undef), (97, undef), (96, undef), (95, undef), (94, undef), (93, undef), (92, undef), (91, undef)]) (l := []) (by kernel_rfl) trivial ?_
                refine ge_nil fun a hF => hK25 _ _ ?_ a hF
                refine we_true (by kernel_rfl) ?_
                refine we_seq fun K26 hK26 => ?_
                refine we_region [(0, 0)] rfl ?_
                refine ge_batch [0] (ans := []) (vs := [(4, .int .i64 10)]) (l := []) (by kernel_rfl) trivial ?_
                refine ge_nil fun a hF => hK26 _ _ ?_ a hF
                have hS107 := hS106.bring 5 rfl
                have hS108 := hS107.bring 5 rfl
                have hS109 := hS108.bring 5 rfl
                have hS110 := hS109.bring 5 rfl
                have hS111 := hS110.bring 5 rfl
                have hS112 := hS111.takeN 5
                obtain rfl := Option.some.inj h
                exact we_ret (post_ret (rs := [.tmp 4]) (ans := []) (vs := [.int .i64 10]) (l := []) rfl (by kernel_rfl) trivial ⟨(.slice Ap0_1 lp0_1.length cp0_1), (.slice Ap0_2 (lp0_2.set ((x1).toNat) z5).length cp0_2), rfl, hS112⟩)
              · rw [if_neg hc15] at h
                refine ge_known (t := 90) (b := decide (z5 < 0)) (c := false) (by kernel_rfl) (decide_eq_false hc15) ?_
                refine ge_batch [3, 4, 5, 6, 7] (ans := [.val (.slice Ap0_0 lp0_0.length cp0_0)]) (vs := [(95, .int .i64 z5), (94, .slice Ap0_0 lp0_0.length cp0_0), (93, .pointer (some ⟨bp0, 0, none⟩)), (92, .pointer (some ⟨bp0, 0, none⟩)), (91, .pointer (some ⟨bp0, 0, none⟩))]) (l := [.loaded ⟨bp0, 0, none⟩ (.slice Ap0_0 lp0_0.length cp0_0)]) (by kernel_rfl) ⟨hS106.cell 1 rfl rfl, trivial⟩ ?_
                by_cases hc16 : 0 ≤ z5
                · rw [if_pos hc16] at h
                  rcases hx6 : lp0_0[(z5).toNat]? with _ | e4
                  · rw [hx6] at h; cases h
                  rw [hx6] at h
                  simp only [] at h
                  refine ge_index (d := 96) (ty := 0) (t := 68) (el := 29) (sz := 3) (m := lp0_0.length) (c := cp0_0) (x := (.tmp 94)) (y := (.tmp 95)) (A := Ap0_0) (k' := .i64) (j := z5) (jn := ((z5).toNat)) (b0 := blkOf Ap0_0) (o0 := offOf Ap0_0) (by kernel_rfl) (by kernel_rfl) (by kernel_rfl) (by kernel_rfl) (by kernel_rfl) ((hS106.rd hRp0_0).eqSome (pos_of_get hx6)) (Int.toNat_of_nonneg hc16).symm (lt_of_get hx6) ?_
                  refine ge_batch [9, 10, 11, 12, 13] (ans := [.val (.int .i64 e4.Op)]) (vs := [(101, .bool (e4.Op != 16)), (100, .bool (e4.Op != 16)), (99, .bool (e4.Op != 16)), (98, .int .i64 e4.Op), (97, .pointer (some ⟨blkOf Ap0_0, offOf Ap0_0 + (z5).toNat * 3, none⟩))]) (l := [.loaded ⟨blkOf Ap0_0, offOf Ap0_0 + ((z5).toNat) * 3, none⟩ (.int .i64 e4.Op)]) (by kernel_rfl) ⟨RdL.cell (j := 0) (hS106.rd hRp0_0) hx6 rfl, trivial⟩ ?_
                  by_cases hc17 : e4.Op = 16
                  · rw [if_pos hc17] at h
                    refine ge_known (t := 101) (b := (e4.Op != 16)) (c := false) (by kernel_rfl) (bne_eq_false_iff_eq.2 hc17) ?_
                    refine ge_batch [14, 15, 16, 17, 18] (ans := [.val (.slice Ap0_0 lp0_0.length cp0_0)]) (vs := [(106, .int .i64 z5), (105, .slice Ap0_0 lp0_0.length cp0_0), (104, .pointer (some ⟨bp0, 0, none⟩)), (103, .pointer (some ⟨bp0, 0, none⟩)), (102, .pointer (some ⟨bp0, 0, none⟩))]) (l := [.loaded ⟨bp0, 0, none⟩ (.slice Ap0_0 lp0_0.length cp0_0)]) (by kernel_rfl) ⟨hS106.cell 1 rfl rfl, trivial⟩ ?_
                    refine ge_index (d := 107) (ty := 0) (t := 68) (el := 29) (sz := 3) (m := lp0_0.length) (c := cp0_0) (x := (.tmp 105)) (y := (.tmp 106)) (A := Ap0_0) (k' := .i64) (j := z5) (jn := ((z5).toNat)) (b0 := blkOf Ap0_0) (o0 := offOf Ap0_0) (by kernel_rfl) (by kernel_rfl) (by kernel_rfl) (by kernel_rfl) (by kernel_rfl) ((hS106.rd hRp0_0).eqSome (pos_of_get hx6)) (Int.toNat_of_nonneg hc16).symm (lt_of_get hx6) ?_
                    refine ge_batch [20, 21, 22, 23, 24, 25] (ans := [.val (.int .i64 e4.A), .val (.int .i64 z7)]) (vs := [(113, .bool (e4.A != z7)), (112, .bool (e4.A != z7)), (111, .int .i64 z7), (110, .pointer (some ⟨b3, 1, none⟩)), (109, .int .i64 e4.A), (108, .pointer (some ⟨blkOf Ap0_0, offOf Ap0_0 + (z5).toNat * 3 + 1, none⟩))]) (l := [.loaded ⟨blkOf Ap0_0, offOf Ap0_0 + ((z5).toNat) * 3 + 1, none⟩ (.int .i64 e4.A), .loaded ⟨b3, 1, none⟩ (.int .i64 z7)]) (by kernel_rfl) ⟨RdL.cell (j := 1) (hS106.rd hRp0_0) hx6 rfl, hS106.cell 0 rfl rfl, trivial⟩ ?_
                    refine ge_nil fun a hF => hK25 _ _ ?_ a hF
                    by_cases hc18 : e4.A = z7
                    · rw [if_pos hc18] at h
                      refine we_known (t := 113) (b := (e4.A != z7)) (v := false) (by kernel_rfl) (bne_eq_false_iff_eq.2 hc18) ?_
                      refine we_false (by kernel_rfl) ?_
                      refine we_skip fun a hF => hK24 _ _ ?_ a hF
                      refine we_region [(0, 0), (1, 0), (2, 2)] rfl ?_
                      refine ge_batch [0, 1] (ans := []) (vs := [(115, .int .i64 x1), (114, .pointer (some ⟨bp0, 0, none⟩))]) (l := []) (by kernel_rfl) trivial ?_
                      rcases hq6 : mach_looker_close.f lp0_0 lp0_1 (lp0_2.set ((x1).toNat) z5) mp0_3 x1 with _ | r4
                      · rw [hq6] at h; cases h
                      rw [hq6] at h
                      simp only [] at h
                      have hS113 := hS106.bring 4 rfl
                      have hS114 := hS113.bring 4 rfl
                      have hS115 := hS114.bring 4 rfl
                      have hS116 := hS115.bring 4 rfl
                      have hS118 : St w0 w6.drew [Own.blk bp0 (.cells #[.slice Ap0_0 lp0_0.length cp0_0, (.slice Ap0_1 lp0_1.length cp0_1), (.slice Ap0_2 (lp0_2.set ((x1).toNat) z5).length cp0_2), .map (some mbp0_3)] 143 (0, 0)), Own.of (.slice Ap0_1 lp0_1.length cp0_1) 3 lp0_1, Own.of (.slice Ap0_2 (lp0_2.set ((x1).toNat) z5).length cp0_2) 3 (lp0_2.set ((x1).toNat) z5), Own.map (κ := Int) (ν := Int) mbp0_3 mp0_3, Own.all [Own.blk b3 (.cells #[.int .i64 z6, .int .i64 z7, .int .i64 z8] 29 (0, 0)), Own.all LT]] := hS116.packN 4
                      refine ge_call2 (m := 0) (d := some 116) (f := 105) (args := #[.pointer (some ⟨bp0, 0, none⟩), .int .i64 x1]) (by kernel_rfl) (mach_looker_close_ok bp0 lp0_0 Ap0_0 cp0_0 lp0_1 Ap0_1 cp0_1 (lp0_2.set ((x1).toNat) z5) Ap0_2 cp0_2 mp0_3 mbp0_3 x1 _ _ _ hS118 hRp0_0 hLp0_0 _ hq6) ?_
                      rintro _ w12 ⟨v3, rfl, hS117⟩
                      refine ⟨_, rfl, ?_⟩
                      have hS119 : St w0 w12 [Own.blk bp0 (.cells #[.slice Ap0_0 lp0_0.length cp0_0, v3, (.slice Ap0_2 (lp0_2.set ((x1).toNat) z5).length cp0_2), .map (some mbp0_3)] 143 (0, 0)), Own.of v3 3 r4.1, Own.of (.slice Ap0_2 (lp0_2.set ((x1).toNat) z5).length cp0_2) 3 (lp0_2.set ((x1).toNat) z5), Own.map (κ := Int) (ν := Int) mbp0_3 r4.2, Own.blk b3 (.cells #[.int .i64 z6, .int .i64 z7, .int .i64 z8] 29 (0, 0)), Own.all LT] := hS117.unpack [Own.blk bp0 (.cells #[.slice Ap0_0 lp0_0.length cp0_0, v3, (.slice Ap0_2 (lp0_2.set ((x1).toNat) z5).length cp0_2), .map (some mbp0_3)] 143 (0, 0)), Own.of v3 3 r4.1, Own.of (.slice Ap0_2 (lp0_2.set ((x1).toNat) z5).length cp0_2) 3 (lp0_2.set ((x1).toNat) z5), Own.map (κ := Int) (ν := Int) mbp0_3 r4.2]
                      refine ge_nil fun a hF => hK4 _ _ ?_ a hF
                      refine we_seq fun K27 hK27 => ?_
                      refine we_region [(0, 0)] rfl ?_
                      refine ge_batch [0] (ans := []) (vs := [(4, .int .i64 0)]) (l := []) (by kernel_rfl) trivial ?_
                      refine ge_nil fun a hF => hK27 _ _ ?_ a hF
                      have hS120 := hS119.bring 5 rfl
                      have hS121 := hS120.bring 4 rfl
                      have hS122 := hS121.bring 4 rfl
                      have hS123 := hS122.bring 4 rfl
                      have hS124 := hS123.bring 4 rfl
                      have hS125 := hS124.takeN 5
                      obtain rfl := Option.some.inj h
                      exact we_ret (post_ret (rs := [.tmp 4]) (ans := []) (vs := [.int .i64 0]) (l := []) rfl (by kernel_rfl) trivial ⟨v3, (.slice Ap0_2 (lp0_2.set ((x1).toNat) z5).length cp0_2), rfl, hS125⟩)
                    · rw [if_neg hc18] at h
                      refine we_known (t := 113) (b := (e4.A != z7)) (v := true) (by kernel_rfl) (bne_iff_ne.2 hc18) ?_
                      refine we_true (by kernel_rfl) ?_
                      refine we_seq fun K28 hK28 => ?_
                      refine we_region [(0, 0)] rfl ?_
                      refine ge_batch [0] (ans := []) (vs := [(4, .int .i64 10)]) (l := []) (by kernel_rfl) trivial ?_
                      refine ge_nil fun a hF => hK28 _ _ ?_ a hF
                      have hS126 := hS106.bring 5 rfl
                      have hS127 := hS126.bring 5 rfl
                      have hS128 := hS127.bring 5 rfl
                      have hS129 := hS128.bring 5 rfl
                      have hS130 := hS129.bring 5 rfl
                      have hS131 := hS130.takeN 5
                      obtain rfl := Option.some.inj h
                      exact we_ret (post_ret (rs := [.tmp 4]) (ans := []) (vs := [.int .i64 10]) (l := []) rfl (by kernel_rfl) trivial ⟨(.slice Ap0_1 lp0_1.length cp0_1), (.slice Ap0_2 (lp0_2.set ((x1).toNat) z5).length cp0_2), rfl, hS131⟩)
                  · rw [if_neg hc17] at h
                    refine ge_known (t := 101) (b := (e4.Op != 16)) (c := true) (by kernel_rfl) (bne_iff_ne.2 hc17) ?_
                    refine ge_batch [14, 15, 16, 17, 18, 19, 20, 21, 22, 23, 24, 25] (ans := []) (vs := [(113, .bool true), (112, undef), (111, undef), (110, undef), (109, undef), (108, undef), (107, undef), (106, undef), (105, undef), (104, undef), (103, undef), (102, undef)]) (l := []) (by kernel_rfl) trivial ?_
                    refine ge_nil fun a hF => hK25 _ _ ?_ a hF
                    refine we_true (by kernel_rfl) ?_
                    refine we_seq fun K29 hK29 => ?_
                    refine we_region [(0, 0)] rfl ?_
                    refine ge_batch [0] (ans := []) (vs := [(4, .int .i64 10)]) (l := []) (by kernel_rfl) trivial ?_
                    refine ge_nil fun a hF => hK29 _ _ ?_ a hF
                    have hS132 := hS106.bring 5 rfl
                    have hS133 := hS132.bring 5 rfl
                    have hS134 := hS133.bring 5 rfl
                    have hS135 := hS134.bring 5 rfl
                    have hS136 := hS135.bring 5 rfl
                    have hS137 := hS136.takeN 5
                    obtain rfl := Option.some.inj h
                    exact we_ret (post_ret (rs := [.tmp 4]) (ans := []) (vs := [.int .i64 10]) (l := []) rfl (by kernel_rfl) trivial ⟨(.slice Ap0_1 lp0_1.length cp0_1), (.slice Ap0_2 (lp0_2.set ((x1).toNat) z5).length cp0_2), rfl, hS137⟩)
                · rw [if_neg hc16] at h
                  cases h
            · rw [if_neg hc14] at h
              refine we_known (t := 86) (b := (z6 == 17)) (v := false) (by kernel_rfl) (beq_eq_false_iff_ne.2 hc14) ?_
              refine we_false (by kernel_rfl) ?_
              refine we_seq fun K30 hK30 => ?_
              refine we_region [(0, 0), (1, 0)] rfl ?_
              refine ge_batch [0, 1] (ans := []) (vs := [(117, .bool (z6 == 15)), (118, .bool (z6 == 15))]) (l := []) (by kernel_rfl) trivial ?_
              refine ge_nil fun a hF => hK30 _ _ ?_ a hF
              by_cases hc19 : z6 = 15
              · rw [if_pos hc19] at h
                refine we_known (t := 117) (b := (z6 == 15)) (v := true) (by kernel_rfl) (beq_iff_eq.2 hc19) ?_
                refine we_true (by kernel_rfl) ?_
                refine we_seq fun K31 hK31 => ?_
                refine we_region [(0, 0), (1, 0), (2, 0), (3, 2), (4, 0)] rfl ?_
                refine ge_batch [0, 1, 2] (ans := [.val (.int .i64 z7)]) (vs := [(121, .int .i64 z7), (120, .pointer (some ⟨b3, 1, none⟩)), (119, .pointer (some ⟨bp0, 0, none⟩))]) (l := [.loaded ⟨b3, 1, none⟩ (.int .i64 z7)]) (by kernel_rfl) ⟨hS36.cell 0 rfl rfl, trivial⟩ ?_
                rcases hq7 : mach_looker_holds.f K lp0_0 lp0_1 (lp0_2.set ((x1).toNat) z5) mp0_3 13 z7 with _ | r5
                · rw [hq7] at h; cases h
                rw [hq7] at h
                simp only [] at h
                have hS138 := hS36.bring 4 rfl
                have hS139 := hS138.bring 4 rfl
                have hS140 := hS139.bring 4 rfl
                have hS141 := hS140.bring 4 rfl
                have hS143 : St w0 w6 [Own.blk bp0 (.cells #[.slice Ap0_0 lp0_0.length cp0_0, (.slice Ap0_1 lp0_1.length cp0_1), (.slice Ap0_2 (lp0_2.set ((x1).toNat) z5).length cp0_2), .map (some mbp0_3)] 143 (0, 0)), Own.of (.slice Ap0_1 lp0_1.length cp0_1) 3 lp0_1, Own.of (.slice Ap0_2 (lp0_2.set ((x1).toNat) z5).length cp0_2) 3 (lp0_2.set ((x1).toNat) z5), Own.map (κ := Int) (ν := Int) mbp0_3 mp0_3, Own.all [Own.blk b3 (.cells #[.int .i64 z6, .int .i64 z7, .int .i64 z8] 29 (0, 0)), Own.all LT]] := hS141.packN 4
                refine ge_call2 (m := 0) (d := some 122) (f := 104) (args := #[.pointer (some ⟨bp0, 0, none⟩), .int .i64 13, .int .i64 z7]) (by kernel_rfl) (mach_looker_holds_ok K bp0 lp0_0 Ap0_0 cp0_0 lp0_1 Ap0_1 cp0_1 (lp0_2.set ((x1).toNat) z5) Ap0_2 cp0_2 mp0_3 mbp0_3 13 z7 _ _ _ hS143 hRp0_0 hLp0_0 _ hq7) ?_
                rintro _ w13 ⟨rfl, hS142⟩
                refine ⟨_, rfl, ?_⟩
                have hS144 : St w0 w13 [Own.blk bp0 (.cells #[.slice Ap0_0 lp0_0.length cp0_0, (.slice Ap0_1 lp0_1.length cp0_1), (.slice Ap0_2 (lp0_2.set ((x1).toNat) z5).length cp0_2), .map (some mbp0_3)] 143 (0, 0)), Own.of (.slice Ap0_1 lp0_1.length cp0_1) 3 lp0_1, Own.of (.slice Ap0_2 (lp0_2.set ((x1).toNat) z5).length cp0_2) 3 (lp0_2.set ((x1).toNat) z5), Own.map (κ := Int) (ν := Int) mbp0_3 mp0_3, Own.blk b3 (.cells #[.int .i64 z6, .int .i64 z7, .int .i64 z8] 29 (0, 0)), Own.all LT] := hS142.unpack [Own.blk bp0 (.cells #[.slice Ap0_0 lp0_0.length cp0_0, (.slice Ap0_1 lp0_1.length cp0_1), (.slice Ap0_2 (lp0_2.set ((x1).toNat) z5).length cp0_2), .map (some mbp0_3)] 143 (0, 0)), Own.of (.slice Ap0_1 lp0_1.length cp0_1) 3 lp0_1, Own.of (.slice Ap0_2 (lp0_2.set ((x1).toNat) z5).length cp0_2) 3 (lp0_2.set ((x1).toNat) z5), Own.map (κ := Int) (ν := Int) mbp0_3 mp0_3]
                refine ge_batch [4] (ans := []) (vs := [(123, .bool (!r5))]) (l := []) (by kernel_rfl) trivial ?_
                refine ge_nil fun a hF => hK31 _ _ ?_ a hF
                by_cases hc20 : r5 = true
                · rw [if_pos hc20] at h
                  refine we_known (t := 123) (b := !r5) (v := false) (by kernel_rfl) (congrArg (fun z => !z) hc20) ?_
                  refine we_false (by kernel_rfl) ?_
                  refine we_skip fun a hF => hK4 _ _ ?_ a hF
                  refine we_seq fun K32 hK32 => ?_
                  refine we_region [(0, 0)] rfl ?_
                  refine ge_batch [0] (ans := []) (vs := [(4, .int .i64 0)]) (l := []) (by kernel_rfl) trivial ?_
                  refine ge_nil fun a hF => hK32 _ _ ?_ a hF
                  have hS145 := hS144.bring 5 rfl
                  have hS146 := hS145.bring 4 rfl
                  have hS147 := hS146.bring 4 rfl
                  have hS148 := hS147.bring 4 rfl
                  have hS149 := hS148.bring 4 rfl
                  have hS150 := hS149.takeN 5
                  obtain rfl := Option.some.inj h
                  exact we_ret (post_ret (rs := [.tmp 4]) (ans := []) (vs := [.int .i64 0]) (l := []) rfl (by kernel_rfl) trivial ⟨(.slice Ap0_1 lp0_1.length cp0_1), (.slice Ap0_2 (lp0_2.set ((x1).toNat) z5).length cp0_2), rfl, hS150⟩)
                · rw [if_neg hc20] at h
                  refine we_known (t := 123) (b := !r5) (v := true) (by kernel_rfl) (congrArg (fun z => !z) (Bool.eq_false_iff.2 hc20)) ?_
                  refine we_true (by kernel_rfl) ?_
                  refine we_seq fun K33 hK33 => ?_
                  refine we_region [(0, 0)] rfl ?_
                  refine ge_batch [0] (ans := []) (vs := [(4, .int .i64 9)]) (l := []) (by kernel_rfl) trivial ?_
                  refine ge_nil fun a hF => hK33 _ _ ?_ a hF
                  have hS151 := hS144.bring 5 rfl
                  have hS152 := hS151.bring 4 rfl
                  have hS153 := hS152.bring 4 rfl
                  have hS154 := hS153.bring 4 rfl
                  have hS155 := hS154.bring 4 rfl
                  have hS156 := hS155.takeN 5
                  obtain rfl := Option.some.inj h
                  exact we_ret (post_ret (rs := [.tmp 4]) (ans := []) (vs := [.int .i64 9]) (l := []) rfl (by kernel_rfl) trivial ⟨(.slice Ap0_1 lp0_1.length cp0_1), (.slice Ap0_2 (lp0_2.set ((x1).toNat) z5).length cp0_2), rfl, hS156⟩)
              · rw [if_neg hc19] at h
                refine we_known (t := 117) (b := (z6 == 15)) (v := false) (by kernel_rfl) (beq_eq_false_iff_ne.2 hc19) ?_
                refine we_false (by kernel_rfl) ?_
                refine we_skip fun a hF => hK4 _ _ ?_ a hF
                refine we_seq fun K34 hK34 => ?_
                refine we_region [(0, 0)] rfl ?_
                refine ge_batch [0] (ans := []) (vs := [(4, .int .i64 0)]) (l := []) (by kernel_rfl) trivial ?_
                refine ge_nil fun a hF => hK34 _ _ ?_ a hF
                have hS157 := hS36.bring 5 rfl
                have hS158 := hS157.bring 5 rfl
                have hS159 := hS158.bring 5 rfl
                have hS160 := hS159.bring 5 rfl
                have hS161 := hS160.bring 5 rfl
                have hS162 := hS161.takeN 5
                obtain rfl := Option.some.inj h
                exact we_ret (post_ret (rs := [.tmp 4]) (ans := []) (vs := [.int .i64 0]) (l := []) rfl (by kernel_rfl) trivial ⟨(.slice Ap0_1 lp0_1.length cp0_1), (.slice Ap0_2 (lp0_2.set ((x1).toNat) z5).length cp0_2), rfl, hS162⟩)
      · rw [hq3] at h
        simp only [] at h
        refine we_keep (e' := [(0, .pointer (some ⟨bp0, 0, none⟩)), (1, .int .i64 x1), (5, .pointer (some ⟨b3, 0, none⟩)), (6, .int .i64 z5), (16, .pointer (some ⟨bp0, 0, none⟩)), (17, .pointer (some ⟨bp0, 0, none⟩)), (18, .pointer (some ⟨bp0, 2, none⟩)), (19, .pointer (some ⟨bp0, 2, none⟩)), (20, (.slice Ap0_2 (lp0_2.set ((x1).toNat) z5).length cp0_2)), (21, .int .i64 x1), (22, .int .i64 z5), (23, .pointer (some ⟨blkOf Ap0_2, offOf Ap0_2 + (x1).toNat * 1, none⟩)), (24, .pointer (some ⟨b3, 0, none⟩)), (25, .int .i64 z6)]) ⟨by kernel_rfl, by kernel_rfl, by kernel_rfl, by kernel_rfl, by kernel_rfl, by kernel_rfl, by kernel_rfl, by kernel_rfl, by kernel_rfl, by kernel_rfl, by kernel_rfl, by kernel_rfl, by kernel_rfl, by kernel_rfl, trivial⟩ (mach_looker_region_p1 K w0 bp0 lp0_0 Ap0_0 cp0_0 lp0_1 Ap0_1 cp0_1 lp0_2 Ap0_2 cp0_2 mp0_3 mbp0_3 x1 LT hRp0_0 hLp0_0 b3 z5 z6 z7 z8 hc2 e2 hx3 _ hq3 _ hS23 _ ?_)
        rintro _ a w1 ⟨_, rfl, hb⟩
        obtain rfl := Option.some.inj h
        exact hb
    · rw [if_neg hc2] at h
      cases h
  · rw [hq2] at h
    simp only [] at h
    refine we_keep (e' := [(0, .pointer (some ⟨bp0, 0, none⟩)), (1, .int .i64 x1), (4, .int .i64 0)]) ⟨by kernel_rfl, by kernel_rfl, by kernel_rfl, trivial⟩ (mach_looker_region_p0 K w0 bp0 lp0_0 Ap0_0 cp0_0 lp0_1 Ap0_1 cp0_1 lp0_2 Ap0_2 cp0_2 mp0_3 mbp0_3 x1 LT hRp0_0 hLp0_0 _ hq2 _ hS _ ?_)
    rintro _ a w1 ⟨_, rfl, hb⟩
    obtain rfl := Option.some.inj h
    exact hb

/-! punctual/mach.pops -/
abbrev mach_pops.Post (w0 : World) (r : Int × Int) (e : Ending) (w : World) : Prop := e = .returned (.tuple #[.int .i64 r.1, .int .i64 r.2]) ∧ St w0 w []
def mach_pops.f (x0 : Int) : Int × Int :=
  if x0 = 1 then
    (0, 1)
  else
    if x0 = 2 then
      (0, 1)
    else
      if x0 = 9 then
        (0, 1)
      else
        if x0 = 3 then
          (1, 0)
        else
          if x0 = 10 then
            (1, 0)
          else
            if x0 = 12 then
              (1, 0)
            else
              if x0 = 4 then
                (2, 1)
              else
                if x0 = 5 then
                  (2, 1)
                else
                  if x0 = 6 then
                    (2, 1)
                  else
                    if x0 = 7 then
                      (2, 1)
                    else
                      if x0 = 8 then
                        (2, 1)
                      else
                        (0, 0)
theorem mach_pops_ok (x0 : Int) (w0 : World) (r : Int × Int) (h : mach_pops.f x0 = r) :
    Calls Try.prog 107 #[.int .i64 x0] w0 (mach_pops.Post w0 r) := by
  have hS := St.start w0
  unfold mach_pops.f at h
  refine calls_enter (n := 19) (args := [.int .i64 x0]) (fn := Try.f107) rfl rfl rfl rfl ?_
  show WE _ _ _ _ [(0, .int .i64 x0)] _
  refine we_seq fun K1 hK1 => ?_
  refine we_region [(0, 0), (1, 0)] rfl ?_
  refine ge_batch [0, 1] (ans := []) (vs := [(3, .int .i64 0), (2, .int .i64 0)]) (l := []) (by kernel_rfl) trivial ?_
  refine ge_nil fun a hF => hK1 _ _ ?_ a hF
  refine we_seq fun K2 hK2 => ?_
  refine we_seq fun K3 hK3 => ?_
  refine we_region [(0, 0)] rfl ?_
  refine ge_batch [0] (ans := []) (vs := [(4, .int .i64 x0)]) (l := []) (by kernel_rfl) trivial ?_
  refine ge_nil fun a hF => hK3 _ _ ?_ a hF
  refine we_block ?_
  refine we_seq fun K4 hK4 => ?_
  refine we_seq fun K5 hK5 => ?_
  refine we_region [(0, 0), (1, 0)] rfl ?_
  refine ge_batch [0, 1] (ans := []) (vs := [(5, .bool (x0 == 1)), (6, .bool (x0 == 1))]) (l := []) (by kernel_rfl) trivial ?_
  refine ge_nil fun a hF => hK5 _ _ ?_ a hF
  by_cases hc1 : x0 = 1
  · rw [if_pos hc1] at h
    refine we_known (t := 5) (b := (x0 == 1)) (v := true) (by kernel_rfl) (beq_iff_eq.2 hc1) ?_
    refine we_true (by kernel_rfl) ?_
    refine we_skip fun a hF => hK4 _ _ ?_ a hF
    refine we_true (by kernel_rfl) ?_
    refine we_seq fun K6 hK6 => ?_
    refine we_region [(0, 0), (1, 0)] rfl ?_
    refine ge_batch [0, 1] (ans := []) (vs := [(3, .int .i64 1), (2, .int .i64 0)]) (l := []) (by kernel_rfl) trivial ?_
    refine ge_nil fun a hF => hK6 _ _ ?_ a hF
    subst h
    exact we_ret (post_ret (rs := [.tmp 2, .tmp 3]) (ans := []) (vs := [.int .i64 0, .int .i64 1]) (l := []) rfl (by kernel_rfl) trivial ⟨rfl, hS⟩)
  · rw [if_neg hc1] at h
    refine we_known (t := 5) (b := (x0 == 1)) (v := false) (by kernel_rfl) (beq_eq_false_iff_ne.2 hc1) ?_
    refine we_false (by kernel_rfl) ?_
    refine we_seq fun K7 hK7 => ?_
    refine we_region [(0, 0), (1, 0)] rfl ?_
    refine ge_batch [0, 1] (ans := []) (vs := [(5, .bool (x0 == 2)), (7, .bool (x0 == 2))]) (l := []) (by kernel_rfl) trivial ?_
    refine ge_nil fun a hF => hK7 _ _ ?_ a hF
    by_cases hc2 : x0 = 2
    · rw [if_pos hc2] at h
      refine we_known (t := 5) (b := (x0 == 2)) (v := true) (by kernel_rfl) (beq_iff_eq.2 hc2) ?_
      refine we_true (by kernel_rfl) ?_
      refine we_skip fun a hF => hK4 _ _ ?_ a hF
      refine we_true (by kernel_rfl) ?_
      refine we_seq fun K8 hK8 => ?_
      refine we_region [(0, 0), (1, 0)] rfl ?_
      refine ge_batch [0, 1] (ans := []) (vs := [(3, .int .i64 1), (2, .int .i64 0)]) (l := []) (by kernel_rfl) trivial ?_
      refine ge_nil fun a hF => hK8 _ _ ?_ a hF
      subst h
      exact we_ret (post_ret (rs := [.tmp 2, .tmp 3]) (ans := []) (vs := [.int .i64 0, .int .i64 1]) (l := []) rfl (by kernel_rfl) trivial ⟨rfl, hS⟩)
    · rw [if_neg hc2] at h
      refine we_known (t := 5) (b := (x0 == 2)) (v := false) (by kernel_rfl) (beq_eq_false_iff_ne.2 hc2) ?_
      refine we_false (by kernel_rfl) ?_
      refine we_region [(0, 0), (1, 0)] rfl ?_
      refine ge_batch [0, 1] (ans := []) (vs := [(5, .bool (x0 == 9)), (8, .bool (x0 == 9))]) (l := []) (by kernel_rfl) trivial ?_
      refine ge_nil fun a hF => hK4 _ _ ?_ a hF
      by_cases hc3 : x0 = 9
      · rw [if_pos hc3] at h
        refine we_known (t := 5) (b := (x0 == 9)) (v := true) (by kernel_rfl) (beq_iff_eq.2 hc3) ?_
        refine we_true (by kernel_rfl) ?_
        refine we_seq fun K9 hK9 => ?_
        refine we_region [(0, 0), (1, 0)] rfl ?_
        refine ge_batch [0, 1] (ans := []) (vs := [(3, .int .i64 1), (2, .int .i64 0)]) (l := []) (by kernel_rfl) trivial ?_
        refine ge_nil fun a hF => hK9 _ _ ?_ a hF
        subst h
        exact we_ret (post_ret (rs := [.tmp 2, .tmp 3]) (ans := []) (vs := [.int .i64 0, .int .i64 1]) (l := []) rfl (by kernel_rfl) trivial ⟨rfl, hS⟩)
      · rw [if_neg hc3] at h
        refine we_known (t := 5) (b := (x0 == 9)) (v := false) (by kernel_rfl) (beq_eq_false_iff_ne.2 hc3) ?_
        refine we_false (by kernel_rfl) ?_
        refine we_seq fun K10 hK10 => ?_
        refine we_seq fun K11 hK11 => ?_
        refine we_region [(0, 0), (1, 0)] rfl ?_
        refine ge_batch [0, 1] (ans := []) (vs := [(9, .bool (x0 == 3)), (10, .bool (x0 == 3))]) (l := []) (by kernel_rfl) trivial ?_
        refine ge_nil fun a hF => hK11 _ _ ?_ a hF
        by_cases hc4 : x0 = 3
        · rw [if_pos hc4] at h
          refine we_known (t := 9) (b := (x0 == 3)) (v := true) (by kernel_rfl) (beq_iff_eq.2 hc4) ?_
          refine we_true (by kernel_rfl) ?_
          refine we_skip fun a hF => hK10 _ _ ?_ a hF
          refine we_true (by kernel_rfl) ?_
          refine we_seq fun K12 hK12 => ?_
          refine we_region [(0, 0), (1, 0)] rfl ?_
          refine ge_batch [0, 1] (ans := []) (vs := [(3, .int .i64 0), (2, .int .i64 1)]) (l := []) (by kernel_rfl) trivial ?_
          refine ge_nil fun a hF => hK12 _ _ ?_ a hF
          subst h
          exact we_ret (post_ret (rs := [.tmp 2, .tmp 3]) (ans := []) (vs := [.int .i64 1, .int .i64 0]) (l := []) rfl (by kernel_rfl) trivial ⟨rfl, hS⟩)
        · rw [if_neg hc4] at h
          refine we_known (t := 9) (b := (x0 == 3)) (v := false) (by kernel_rfl) (beq_eq_false_iff_ne.2 hc4) ?_
          refine we_false (by kernel_rfl) ?_
          refine we_seq fun K13 hK13 => ?_
          refine we_region [(0, 0), (1, 0)] rfl ?_
          refine ge_batch [0, 1] (ans := []) (vs := [(9, .bool (x0 == 10)), (11, .bool (x0 == 10))]) (l := []) (by kernel_rfl) trivial ?_
          refine ge_nil fun a hF => hK13 _ _ ?_ a hF
          by_cases hc5 : x0 = 10
          · rw [if_pos hc5] at h
            refine we_known (t := 9) (b := (x0 == 10)) (v := true) (by kernel_rfl) (beq_iff_eq.2 hc5) ?_
            refine we_true (by kernel_rfl) ?_
            refine we_skip fun a hF => hK10 _ _ ?_ a hF
            refine we_true (by kernel_rfl) ?_
            refine we_seq fun K14 hK14 => ?_
            refine we_region [(0, 0), (1, 0)] rfl ?_
            refine ge_batch [0, 1] (ans := []) (vs := [(3, .int .i64 0), (2, .int .i64 1)]) (l := []) (by kernel_rfl) trivial ?_
            refine ge_nil fun a hF => hK14 _ _ ?_ a hF
            subst h
            exact we_ret (post_ret (rs := [.tmp 2, .tmp 3]) (ans := []) (vs := [.int .i64 1, .int .i64 0]) (l := []) rfl (by kernel_rfl) trivial ⟨rfl, hS⟩)
          · rw [if_neg hc5] at h
            refine we_known (t := 9) (b := (x0 == 10)) (v := false) (by kernel_rfl) (beq_eq_false_iff_ne.2 hc5) ?_
            refine we_false (by kernel_rfl) ?_
            refine we_region [(0, 0), (1, 0)] rfl ?_
            refine ge_batch [0, 1] (ans := []) (vs := [(9, .bool (x0 == 12)), (12, .bool (x0 == 12))]) (l := []) (by kernel_rfl) trivial ?_
            refine ge_nil fun a hF => hK10 _ _ ?_ a hF
            by_cases hc6 : x0 = 12
            · rw [if_pos hc6] at h
              refine we_known (t := 9) (b := (x0 == 12)) (v := true) (by kernel_rfl) (beq_iff_eq.2 hc6) ?_
              refine we_true (by kernel_rfl) ?_
              refine we_seq fun K15 hK15 => ?_
              refine we_region [(0, 0), (1, 0)] rfl ?_
              refine ge_batch [0, 1] (ans := []) (vs := [(3, .int .i64 0), (2, .int .i64 1)]) (l := []) (by kernel_rfl) trivial ?_
              refine ge_nil fun a hF => hK15 _ _ ?_ a hF
              subst h
              exact we_ret (post_ret (rs := [.tmp 2, .tmp 3]) (ans := []) (vs := [.int .i64 1, .int .i64 0]) (l := []) rfl (by kernel_rfl) trivial ⟨rfl, hS⟩)
            · rw [if_neg hc6] at h
              refine we_known (t := 9) (b := (x0 == 12)) (v := false) (by kernel_rfl) (beq_eq_false_iff_ne.2 hc6) ?_
              refine we_false (by kernel_rfl) ?_
              refine we_seq fun K16 hK16 => ?_
              refine we_seq fun K17 hK17 => ?_
              refine we_region [(0, 0), (1, 0)] rfl ?_
              refine ge_batch [0, 1] (ans := []) (vs := [(13, .bool (x0 == 4)), (14, .bool (x0 == 4))]) (l := []) (by kernel_rfl) trivial ?_
              refine ge_nil fun a hF => hK17 _ _ ?_ a hF
              by_cases hc7 : x0 = 4
              · rw [if_pos hc7] at h
                refine we_known (t := 13) (b := (x0 == 4)) (v := true) (by kernel_rfl) (beq_iff_eq.2 hc7) ?_
                refine we_true (by kernel_rfl) ?_
                refine we_skip fun a hF => hK16 _ _ ?_ a hF
                refine we_true (by kernel_rfl) ?_
                refine we_seq fun K18 hK18 => ?_
                refine we_region [(0, 0), (1, 0)] rfl ?_
                refine ge_batch [0, 1] (ans := []) (vs := [(3, .int .i64 1), (2, .int .i64 2)]) (l := []) (by kernel_rfl) trivial ?_
                refine ge_nil fun a hF => hK18 _ _ ?_ a hF
                subst h
                exact we_ret (post_ret (rs := [.tmp 2, .tmp 3]) (ans := []) (vs := [.int .i64 2, .int .i64 1]) (l := []) rfl (by kernel_rfl) trivial ⟨rfl, hS⟩)
              · rw [if_neg hc7] at h
                refine we_known (t := 13) (b := (x0 == 4)) (v := false) (by kernel_rfl) (beq_eq_false_iff_ne.2 hc7) ?_
                refine we_false (by kernel_rfl) ?_
                refine we_seq fun K19 hK19 => ?_
                refine we_region [(0, 0), (1, 0)] rfl ?_
                refine ge_batch [0, 1] (ans := []) (vs := [(13, .bool (x0 == 5)), (15, .bool (x0 == 5))]) (l := []) (by kernel_rfl) trivial ?_
                refine ge_nil fun a hF => hK19 _ _ ?_ a hF
                by_cases hc8 : x0 = 5
                · rw [if_pos hc8] at h
                  refine we_known (t := 13) (b := (x0 == 5)) (v := true) (by kernel_rfl) (beq_iff_eq.2 hc8) ?_
                  refine we_true (by kernel_rfl) ?_
                  refine we_skip fun a hF => hK16 _ _ ?_ a hF
                  refine we_true (by kernel_rfl) ?_
                  refine we_seq fun K20 hK20 => ?_
                  refine we_region [(0, 0), (1, 0)] rfl ?_
                  refine ge_batch [0, 1] (ans := []) (vs := [(3, .int .i64 1), (2, .int .i64 2)]) (l := []) (by kernel_rfl) trivial ?_
                  refine ge_nil fun a hF => hK20 _ _ ?_ a hF
                  subst h
                  exact we_ret (post_ret (rs := [.tmp 2, .tmp 3]) (ans := []) (vs := [.int .i64 2, .int .i64 1]) (l := []) rfl (by kernel_rfl) trivial ⟨rfl, hS⟩)
                · rw [if_neg hc8] at h
                  refine we_known (t := 13) (b := (x0 == 5)) (v := false) (by kernel_rfl) (beq_eq_false_iff_ne.2 hc8) ?_
                  refine we_false (by kernel_rfl) ?_
                  refine we_seq fun K21 hK21 => ?_
                  refine we_region [(0, 0), (1, 0)] rfl ?_
                  refine ge_batch [0, 1] (ans := []) (vs := [(13, .bool (x0 == 6)), (16, .bool (x0 == 6))]) (l := []) (by kernel_rfl) trivial ?_
                  refine ge_nil fun a hF => hK21 _ _ ?_ a hF
                  by_cases hc9 : x0 = 6
                  · rw [if_pos hc9] at h
                    refine we_known (t := 13) (b := (x0 == 6)) (v := true) (by kernel_rfl) (beq_iff_eq.2 hc9) ?_
                    refine we_true (by kernel_rfl) ?_
                    refine we_skip fun a hF => hK16 _ _ ?_ a hF
                    refine we_true (by kernel_rfl) ?_
                    refine we_seq fun K22 hK22 => ?_
                    refine we_region [(0, 0), (1, 0)] rfl ?_
                    refine ge_batch [0, 1] (ans := []) (vs := [(3, .int .i64 1), (2, .int .i64 2)]) (l := []) (by kernel_rfl) trivial ?_
                    refine ge_nil fun a hF => hK22 _ _ ?_ a hF
                    subst h
                    exact we_ret (post_ret (rs := [.tmp 2, .tmp 3]) (ans := []) (vs := [.int .i64 2, .int .i64 1]) (l := []) rfl (by kernel_rfl) trivial ⟨rfl, hS⟩)
                  · rw [if_neg hc9] at h
                    refine we_known (t := 13) (b := (x0 == 6)) (v := false) (by kernel_rfl) (beq_eq_false_iff_ne.2 hc9) ?_
                    refine we_false (by kernel_rfl) ?_
                    refine we_seq fun K23 hK23 => ?_
                    refine we_region [(0, 0), (1, 0)] rfl ?_
                    refine ge_batch [0, 1] (ans := []) (vs := [(13, .bool (x0 == 7)), (17, .bool (x0 == 7))]) (l := []) (by kernel_rfl) trivial ?_
                    refine ge_nil fun a hF => hK23 _ _ ?_ a hF
                    by_cases hc10 : x0 = 7
                    · rw [if_pos hc10] at h
                      refine we_known (t := 13) (b := (x0 == 7)) (v := true) (by kernel_rfl) (beq_iff_eq.2 hc10) ?_
                      refine we_true (by kernel_rfl) ?_
                      refine we_skip fun a hF => hK16 _ _ ?_ a hF
                      refine we_true (by kernel_rfl) ?_
                      refine we_seq fun K24 hK24 => ?_
                      refine we_region [(0, 0), (1, 0)] rfl ?_
                      refine ge_batch [0, 1] (ans := []) (vs := [(3, .int .i64 1), (2, .int .i64 2)]) (l := []) (by kernel_rfl) trivial ?_
                      refine ge_nil fun a hF => hK24 _ _ ?_ a hF
                      subst h
                      exact we_ret (post_ret (rs := [.tmp 2, .tmp 3]) (ans := []) (vs := [.int .i64 2, .int .i64 1]) (l := []) rfl (by kernel_rfl) trivial ⟨rfl, hS⟩)
                    · rw [if_neg hc10] at h
                      refine we_known (t := 13) (b := (x0 == 7)) (v := false) (by kernel_rfl) (beq_eq_false_iff_ne.2 hc10) ?_
                      refine we_false (by kernel_rfl) ?_
                      refine we_region [(0, 0), (1, 0)] rfl ?_
                      refine ge_batch [0, 1] (ans := []) (vs := [(13, .bool (x0 == 8)), (18, .bool (x0 == 8))]) (l := []) (by kernel_rfl) trivial ?_
                      refine ge_nil fun a hF => hK16 _ _ ?_ a hF
                      by_cases hc11 : x0 = 8
                      · rw [if_pos hc11] at h
                        refine we_known (t := 13) (b := (x0 == 8)) (v := true) (by kernel_rfl) (beq_iff_eq.2 hc11) ?_
                        refine we_true (by kernel_rfl) ?_
                        refine we_seq fun K25 hK25 => ?_
                        refine we_region [(0, 0), (1, 0)] rfl ?_
                        refine ge_batch [0, 1] (ans := []) (vs := [(3, .int .i64 1), (2, .int .i64 2)]) (l := []) (by kernel_rfl) trivial ?_
                        refine ge_nil fun a hF => hK25 _ _ ?_ a hF
                        subst h
                        exact we_ret (post_ret (rs := [.tmp 2, .tmp 3]) (ans := []) (vs := [.int .i64 2, .int .i64 1]) (l := []) rfl (by kernel_rfl) trivial ⟨rfl, hS⟩)
                      · rw [if_neg hc11] at h
                        refine we_known (t := 13) (b := (x0 == 8)) (v := false) (by kernel_rfl) (beq_eq_false_iff_ne.2 hc11) ?_
                        refine we_false (by kernel_rfl) ?_
                        refine we_skip fun a hF => hK2 _ _ ?_ a hF
                        refine we_seq fun K26 hK26 => ?_
                        refine we_region [(0, 0), (1, 0)] rfl ?_
                        refine ge_batch [0, 1] (ans := []) (vs := [(3, .int .i64 0), (2, .int .i64 0)]) (l := []) (by kernel_rfl) trivial ?_
                        refine ge_nil fun a hF => hK26 _ _ ?_ a hF
                        subst h
                        exact we_ret (post_ret (rs := [.tmp 2, .tmp 3]) (ans := []) (vs := [.int .i64 0, .int .i64 0]) (l := []) rfl (by kernel_rfl) trivial ⟨rfl, hS⟩)

/-! punctual/mach.heights$1 -/
abbrev mach_heights_1.Post (w0 : World) (x0 : Int) (x1 : Int) (bf0 : Nat) (lf0_0 : List Int) (Af0_0 : Option Addr) (cf0_0 : Nat) (LT : List Own) (r : Bool × (List Int)) (e : Ending) (w : World) : Prop := ∃ (nbf0_0 : Value), e = .returned (.bool r.1) ∧ St w0 w [Own.blk bf0 (.cells #[nbf0_0] 24 (0, 0)), Own.of nbf0_0 3 r.2, Own.all LT]
def mach_heights_1.f (x0 : Int) (x1 : Int) (lf0_0 : List Int) : Option (Bool × (List Int)) :=
  if 0 ≤ x0 then
    match lf0_0[(x0).toNat]? with
    | none => none
    | some e1 =>
      if e1 < 0 then
        match (lf0_0.set ((x0).toNat) x1)[(x0).toNat]? with
        | none => none
        | some e2 =>
          some ((e2 == x1), (lf0_0.set ((x0).toNat) x1))
      else
        some ((e1 == x1), lf0_0)
  else
    none
theorem mach_heights_1_ok (x0 : Int) (x1 : Int) (bf0 : Nat) (lf0_0 : List Int) (Af0_0 : Option Addr) (cf0_0 : Nat) (w0 wE : World) (LT : List Own) (hS : St w0 wE [Own.blk bf0 (.cells #[(.slice Af0_0 lf0_0.length cf0_0)] 24 (0, 0)), Own.of (.slice Af0_0 lf0_0.length cf0_0) 3 lf0_0, Own.all LT]) (r : Bool × (List Int)) (h : mach_heights_1.f x0 x1 lf0_0 = some r) :
    Calls Try.prog 106 #[.int .i64 x0, .int .i64 x1, .pointer (some ⟨bf0, 0, none⟩)] wE (mach_heights_1.Post w0 x0 x1 bf0 lf0_0 Af0_0 cf0_0 LT r) := by
  unfold mach_heights_1.f at h
  refine calls_enter (n := 21) (args := [.int .i64 x0, .int .i64 x1, .pointer (some ⟨bf0, 0, none⟩)]) (fn := Try.f106) rfl rfl rfl rfl ?_
  show WE _ _ _ _ [(0, .int .i64 x0), (1, .int .i64 x1), (2, .pointer (some ⟨bf0, 0, none⟩))] _
  refine we_seq fun K1 hK1 => ?_
  refine we_region [(0, 0)] rfl ?_
  refine ge_batch [0] (ans := []) (vs := [(5, .bool false)]) (l := []) (by kernel_rfl) trivial ?_
  refine ge_nil fun a hF => hK1 _ _ ?_ a hF
  refine we_seq fun K2 hK2 => ?_
  refine we_seq fun K3 hK3 => ?_
  refine we_region [(0, 0), (1, 0), (2, 0), (3, 0), (4, 0)] rfl ?_
  refine ge_batch [0, 1] (ans := [.val ((.slice Af0_0 lf0_0.length cf0_0))]) (vs := [(7, .int .i64 x0), (6, (.slice Af0_0 lf0_0.length cf0_0))]) (l := [.loaded ⟨bf0, 0, none⟩ ((.slice Af0_0 lf0_0.length cf0_0))]) (by kernel_rfl) ⟨hS.cell 0 rfl rfl, trivial⟩ ?_
  by_cases hc1 : 0 ≤ x0
  · rw [if_pos hc1] at h
    rcases hx1 : lf0_0[(x0).toNat]? with _ | e1
    · rw [hx1] at h; cases h
    rw [hx1] at h
    simp only [] at h
    refine ge_index (d := 8) (ty := 0) (t := 24) (el := 3) (sz := 1) (m := lf0_0.length) (c := cf0_0) (x := (.tmp 6)) (y := (.tmp 7)) (A := Af0_0) (k' := .i64) (j := x0) (jn := ((x0).toNat)) (b0 := blkOf Af0_0) (o0 := offOf Af0_0) (by kernel_rfl) (by kernel_rfl) (by kernel_rfl) (by kernel_rfl) (by kernel_rfl) ((hS.rdAt 1 rfl).eqSome (pos_of_get hx1)) (Int.toNat_of_nonneg hc1).symm (lt_of_get hx1) ?_
    refine ge_batch [3, 4] (ans := [.val (.int .i64 e1)]) (vs := [(10, .bool (decide (e1 < 0))), (9, .int .i64 e1)]) (l := [.loaded ⟨blkOf Af0_0, offOf Af0_0 + ((x0).toNat) * 1, none⟩ (.int .i64 e1)]) (by kernel_rfl) ⟨RdL.cell (j := 0) (hS.rdAt 1 rfl) hx1 rfl, trivial⟩ ?_
    refine ge_nil fun a hF => hK3 _ _ ?_ a hF
    by_cases hc2 : e1 < 0
    · rw [if_pos hc2] at h
      refine we_known (t := 10) (b := decide (e1 < 0)) (v := true) (by kernel_rfl) (decide_eq_true hc2) ?_
      refine we_true (by kernel_rfl) ?_
      refine we_region [(0, 0), (1, 0), (2, 0), (3, 0), (4, 2)] rfl ?_
      refine ge_batch [0, 1, 2] (ans := [.val ((.slice Af0_0 lf0_0.length cf0_0))]) (vs := [(13, .int .i64 x1), (12, .int .i64 x0), (11, (.slice Af0_0 lf0_0.length cf0_0))]) (l := [.loaded ⟨bf0, 0, none⟩ ((.slice Af0_0 lf0_0.length cf0_0))]) (by kernel_rfl) ⟨hS.cell 0 rfl rfl, trivial⟩ ?_
      refine ge_index (d := 14) (ty := 0) (t := 24) (el := 3) (sz := 1) (m := lf0_0.length) (c := cf0_0) (x := (.tmp 11)) (y := (.tmp 12)) (A := Af0_0) (k' := .i64) (j := x0) (jn := ((x0).toNat)) (b0 := blkOf Af0_0) (o0 := offOf Af0_0) (by kernel_rfl) (by kernel_rfl) (by kernel_rfl) (by kernel_rfl) (by kernel_rfl) ((hS.rdAt 1 rfl).eqSome (pos_of_get hx1)) (Int.toNat_of_nonneg hc1).symm (lt_of_get hx1) ?_
      have hS1 := hS.bring 1 rfl
      refine ge_seti (α := Int) (A := Af0_0) (nn := lf0_0.length) (c := cf0_0) (t := 3) (l := lf0_0) (x := e1) (x' := x1) (jn := ((x0).toNat)) (j := 0) (vs := [.int .i64 x1]) (l' := [.stored ⟨blkOf Af0_0, offOf Af0_0 + ((x0).toNat) * 1, none⟩ (.int .i64 x1)]) hS1 (by kernel_rfl) (by kernel_rfl) hx1 rfl rfl rfl fun w1 hS2 => ?_
      have hS3 : St w0 w1 [Own.of (.slice Af0_0 lf0_0.length cf0_0) 3 (lf0_0.set ((x0).toNat) x1), Own.blk bf0 (.cells #[(.slice Af0_0 lf0_0.length cf0_0)] 24 (0, 0)), Own.all LT] := hS2
      have hE1 : lf0_0.length = (lf0_0.set ((x0).toNat) x1).length := hS3.lenAt 0 rfl
      have hS4 : St w0 w1 [Own.of (.slice Af0_0 (lf0_0.set ((x0).toNat) x1).length cf0_0) 3 (lf0_0.set ((x0).toNat) x1), Own.blk bf0 (.cells #[(.slice Af0_0 (lf0_0.set ((x0).toNat) x1).length cf0_0)] 24 (0, 0)), Own.all LT] := by rw [← hE1]; exact hS3
      refine ge_same (t := 6) (v := (.slice Af0_0 lf0_0.length cf0_0)) (v' := (.slice Af0_0 (lf0_0.set ((x0).toNat) x1).length cf0_0)) (by kernel_rfl) (by rw [hE1]) ?_
      refine ge_same (t := 11) (v := (.slice Af0_0 lf0_0.length cf0_0)) (v' := (.slice Af0_0 (lf0_0.set ((x0).toNat) x1).length cf0_0)) (by kernel_rfl) (by rw [hE1]) ?_
      refine ge_nil fun a hF => hK2 _ _ ?_ a hF
      refine we_seq fun K4 hK4 => ?_
      refine we_region [(0, 0), (1, 0), (2, 0), (3, 0), (4, 0), (5, 0), (6, 0)] rfl ?_
      refine ge_batch [0, 1] (ans := [.val ((.slice Af0_0 (lf0_0.set ((x0).toNat) x1).length cf0_0))]) (vs := [(16, .int .i64 x0), (15, (.slice Af0_0 (lf0_0.set ((x0).toNat) x1).length cf0_0))]) (l := [.loaded ⟨bf0, 0, none⟩ ((.slice Af0_0 (lf0_0.set ((x0).toNat) x1).length cf0_0))]) (by kernel_rfl) ⟨hS4.cell 1 rfl rfl, trivial⟩ ?_
      rcases hx2 : (lf0_0.set ((x0).toNat) x1)[(x0).toNat]? with _ | e2
      · rw [hx2] at h; cases h
      rw [hx2] at h
      simp only [] at h
      refine ge_index (d := 17) (ty := 0) (t := 24) (el := 3) (sz := 1) (m := (lf0_0.set ((x0).toNat) x1).length) (c := cf0_0) (x := (.tmp 15)) (y := (.tmp 16)) (A := Af0_0) (k' := .i64) (j := x0) (jn := ((x0).toNat)) (b0 := blkOf Af0_0) (o0 := offOf Af0_0) (by kernel_rfl) (by kernel_rfl) (by kernel_rfl) (by kernel_rfl) (by kernel_rfl) ((hS4.rdAt 0 rfl).eqSome (pos_of_get hx2)) (Int.toNat_of_nonneg hc1).symm (lt_of_get hx2) ?_
      refine ge_batch [3, 4, 5, 6] (ans := [.val (.int .i64 e2)]) (vs := [(5, .bool (e2 == x1)), (20, .bool (e2 == x1)), (19, .int .i64 x1), (18, .int .i64 e2)]) (l := [.loaded ⟨blkOf Af0_0, offOf Af0_0 + ((x0).toNat) * 1, none⟩ (.int .i64 e2)]) (by kernel_rfl) ⟨RdL.cell (j := 0) (hS4.rdAt 0 rfl) hx2 rfl, trivial⟩ ?_
      refine ge_nil fun a hF => hK4 _ _ ?_ a hF
      have hS5 := hS4.bring 2 rfl
      have hS6 := hS5.bring 1 rfl
      have hS7 := hS6.bring 2 rfl
      obtain rfl := Option.some.inj h
      exact we_ret (post_ret (rs := [.tmp 5]) (ans := []) (vs := [.bool (e2 == x1)]) (l := []) rfl (by kernel_rfl) trivial ⟨(.slice Af0_0 (lf0_0.set ((x0).toNat) x1).length cf0_0), rfl, hS7⟩)
    · rw [if_neg hc2] at h
      refine we_known (t := 10) (b := decide (e1 < 0)) (v := false) (by kernel_rfl) (decide_eq_false hc2) ?_
      refine we_false (by kernel_rfl) ?_
      refine we_skip fun a hF => hK2 _ _ ?_ a hF
      refine we_seq fun K5 hK5 => ?_
      refine we_region [(0, 0), (1, 0), (2, 0), (3, 0), (4, 0), (5, 0), (6, 0)] rfl ?_
      refine ge_batch [0, 1] (ans := [.val ((.slice Af0_0 lf0_0.length cf0_0))]) (vs := [(16, .int .i64 x0), (15, (.slice Af0_0 lf0_0.length cf0_0))]) (l := [.loaded ⟨bf0, 0, none⟩ ((.slice Af0_0 lf0_0.length cf0_0))]) (by kernel_rfl) ⟨hS.cell 0 rfl rfl, trivial⟩ ?_
      refine ge_index (d := 17) (ty := 0) (t := 24) (el := 3) (sz := 1) (m := lf0_0.length) (c := cf0_0) (x := (.tmp 15)) (y := (.tmp 16)) (A := Af0_0) (k' := .i64) (j := x0) (jn := ((x0).toNat)) (b0 := blkOf Af0_0) (o0 := offOf Af0_0) (by kernel_rfl) (by kernel_rfl) (by kernel_rfl) (by kernel_rfl) (by kernel_rfl) ((hS.rdAt 1 rfl).eqSome (pos_of_get hx1)) (Int.toNat_of_nonneg hc1).symm (lt_of_get hx1) ?_
      refine ge_batch [3, 4, 5, 6] (ans := [.val (.int .i64 e1)]) (vs := [(5, .bool (e1 == x1)), (20, .bool (e1 == x1)), (19, .int .i64 x1), (18, .int .i64 e1)]) (l := [.loaded ⟨blkOf Af0_0, offOf Af0_0 + ((x0).toNat) * 1, none⟩ (.int .i64 e1)]) (by kernel_rfl) ⟨RdL.cell (j := 0) (hS.rdAt 1 rfl) hx1 rfl, trivial⟩ ?_
      refine ge_nil fun a hF => hK5 _ _ ?_ a hF
      have hS8 := hS.bring 2 rfl
      have hS9 := hS8.bring 2 rfl
      have hS10 := hS9.bring 2 rfl
      obtain rfl := Option.some.inj h
      exact we_ret (post_ret (rs := [.tmp 5]) (ans := []) (vs := [.bool (e1 == x1)]) (l := []) rfl (by kernel_rfl) trivial ⟨(.slice Af0_0 lf0_0.length cf0_0), rfl, hS10⟩)
  · rw [if_neg hc1] at h
    cases h
end Go.Proofs.Ytnckikjcjgmdlaa.GV
