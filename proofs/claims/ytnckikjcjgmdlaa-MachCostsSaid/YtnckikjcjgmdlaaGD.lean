/- Walks of single functions, written by a program of this work. -/
import Derived.Test.YtnckikjcjgmdlaaGv7
import Derived.Test.YtnckikjcjgmdlaaProg
namespace Go.Proofs.Ytnckikjcjgmdlaa.GV
open Go Go.RowKit
set_option linter.unusedVariables false
set_option linter.unusedSimpArgs false
set_option maxRecDepth 100000

structure SIns where
  Op : Int
  A : Int
  B : Int
def SIns.eqb (x y : SIns) : Bool := ((x.Op == y.Op) && ((x.A == y.A) && ((x.B == y.B) && true)))
instance : Flat SIns := ⟨3, fun x => [.int .i64 x.Op, .int .i64 x.A, .int .i64 x.B], fun _ => rfl, fun _ => rfl, by decide⟩

/-! punctual/mach.Cost -/
abbrev Cost.Post (w0 : World) (r : Int) (e : Ending) (w : World) : Prop := e = .returned (.int .i64 r) ∧ St w0 w []
def Cost.f (x0_0 : Int) (x0_1 : Int) (x0_2 : Int) (x1 : Bool) : Int :=
  if x0_0 = 6 then
    3
  else
    if x0_0 = 9 then
      2
    else
      if x0_0 = 10 then
        2
      else
        if x0_0 = 11 then
          2
        else
          if x0_0 = 12 then
            if x1 = true then
              2
            else
              1
          else
            if x0_0 = 14 then
              if x1 = true then
                2
              else
                1
            else
              if x0_0 = 18 then
                x0_1
              else
                1
theorem Cost_ok (x0_0 : Int) (x0_1 : Int) (x0_2 : Int) (x1 : Bool) (w0 : World) (r : Int) (h : Cost.f x0_0 x0_1 x0_2 x1 = r) :
    Calls Try.prog 12 #[.agg #[.int .i64 x0_0, .int .i64 x0_1, .int .i64 x0_2], .bool x1] w0 (Cost.Post w0 r) := by
  have hS := St.start w0
  unfold Cost.f at h
  refine calls_enter (n := 21) (args := [.agg #[.int .i64 x0_0, .int .i64 x0_1, .int .i64 x0_2], .bool x1]) (fn := Try.f12) rfl rfl rfl rfl ?_
  show WE _ _ _ _ [(0, .agg #[.int .i64 x0_0, .int .i64 x0_1, .int .i64 x0_2]), (1, .bool x1)] _
  refine we_seq fun K1 hK1 => ?_
  refine we_region [(0, 1), (1, 0)] rfl ?_
  refine ge_new (d := some 2) (o := .cells #[.int .i64 x0_0, .int .i64 x0_1, .int .i64 x0_2] 29) (v := fun b => .pointer (some ⟨b, 0, none⟩)) hS (fun b => by kernel_rfl) fun b1 w1 hx1 hS1 => ?_
  refine ge_batch [1] (ans := []) (vs := [(4, .int .i64 0)]) (l := []) (by kernel_rfl) trivial ?_
  refine ge_nil fun a hF => hK1 _ _ ?_ a hF
  refine we_seq fun K2 hK2 => ?_
  refine we_seq fun K3 hK3 => ?_
  refine we_region [(0, 0), (1, 0)] rfl ?_
  refine ge_batch [0, 1] (ans := [.val (.int .i64 x0_0)]) (vs := [(6, .int .i64 x0_0), (5, .pointer (some ⟨b1, 0, none⟩))]) (l := [.loaded ⟨b1, 0, none⟩ (.int .i64 x0_0)]) (by kernel_rfl) ⟨hS1.cell 0 rfl rfl, trivial⟩ ?_
  refine ge_nil fun a hF => hK3 _ _ ?_ a hF
  refine we_block ?_
  refine we_seq fun K4 hK4 => ?_
  refine we_region [(0, 0), (1, 0)] rfl ?_
  refine ge_batch [0, 1] (ans := []) (vs := [(7, .bool (x0_0 == 6)), (8, .bool (x0_0 == 6))]) (l := []) (by kernel_rfl) trivial ?_
  refine ge_nil fun a hF => hK4 _ _ ?_ a hF
  by_cases hc1 : x0_0 = 6
  · rw [if_pos hc1] at h
    refine we_known (t := 7) (b := (x0_0 == 6)) (v := true) (by kernel_rfl) (beq_iff_eq.2 hc1) ?_
    refine we_true (by kernel_rfl) ?_
    refine we_seq fun K5 hK5 => ?_
    refine we_region [(0, 0)] rfl ?_
    refine ge_batch [0] (ans := []) (vs := [(4, .int .i64 3)]) (l := []) (by kernel_rfl) trivial ?_
    refine ge_nil fun a hF => hK5 _ _ ?_ a hF
    have hS2 : St w0 w1 [] := hS1.takeN 0
    subst h
    exact we_ret (post_ret (rs := [.tmp 4]) (ans := []) (vs := [.int .i64 3]) (l := []) rfl (by kernel_rfl) trivial ⟨rfl, hS2⟩)
  · rw [if_neg hc1] at h
    refine we_known (t := 7) (b := (x0_0 == 6)) (v := false) (by kernel_rfl) (beq_eq_false_iff_ne.2 hc1) ?_
    refine we_false (by kernel_rfl) ?_
    refine we_seq fun K6 hK6 => ?_
    refine we_seq fun K7 hK7 => ?_
    refine we_region [(0, 0), (1, 0)] rfl ?_
    refine ge_batch [0, 1] (ans := []) (vs := [(9, .bool (x0_0 == 9)), (10, .bool (x0_0 == 9))]) (l := []) (by kernel_rfl) trivial ?_
    refine ge_nil fun a hF => hK7 _ _ ?_ a hF
    by_cases hc2 : x0_0 = 9
    · rw [if_pos hc2] at h
      refine we_known (t := 9) (b := (x0_0 == 9)) (v := true) (by kernel_rfl) (beq_iff_eq.2 hc2) ?_
      refine we_true (by kernel_rfl) ?_
      refine we_skip fun a hF => hK6 _ _ ?_ a hF
      refine we_true (by kernel_rfl) ?_
      refine we_seq fun K8 hK8 => ?_
      refine we_region [(0, 0)] rfl ?_
      refine ge_batch [0] (ans := []) (vs := [(4, .int .i64 2)]) (l := []) (by kernel_rfl) trivial ?_
      refine ge_nil fun a hF => hK8 _ _ ?_ a hF
      have hS3 : St w0 w1 [] := hS1.takeN 0
      subst h
      exact we_ret (post_ret (rs := [.tmp 4]) (ans := []) (vs := [.int .i64 2]) (l := []) rfl (by kernel_rfl) trivial ⟨rfl, hS3⟩)
    · rw [if_neg hc2] at h
      refine we_known (t := 9) (b := (x0_0 == 9)) (v := false) (by kernel_rfl) (beq_eq_false_iff_ne.2 hc2) ?_
      refine we_false (by kernel_rfl) ?_
      refine we_seq fun K9 hK9 => ?_
      refine we_region [(0, 0), (1, 0)] rfl ?_
      refine ge_batch [0, 1] (ans := []) (vs := [(9, .bool (x0_0 == 10)), (11, .bool (x0_0 == 10))]) (l := []) (by kernel_rfl) trivial ?_
      refine ge_nil fun a hF => hK9 _ _ ?_ a hF
      by_cases hc3 : x0_0 = 10
      · rw [if_pos hc3] at h
        refine we_known (t := 9) (b := (x0_0 == 10)) (v := true) (by kernel_rfl) (beq_iff_eq.2 hc3) ?_
        refine we_true (by kernel_rfl) ?_
        refine we_skip fun a hF => hK6 _ _ ?_ a hF
        refine we_true (by kernel_rfl) ?_
        refine we_seq fun K10 hK10 => ?_
        refine we_region [(0, 0)] rfl ?_
        refine ge_batch [0] (ans := []) (vs := [(4, .int .i64 2)]) (l := []) (by kernel_rfl) trivial ?_
        refine ge_nil fun a hF => hK10 _ _ ?_ a hF
        have hS4 : St w0 w1 [] := hS1.takeN 0
        subst h
        exact we_ret (post_ret (rs := [.tmp 4]) (ans := []) (vs := [.int .i64 2]) (l := []) rfl (by kernel_rfl) trivial ⟨rfl, hS4⟩)
      · rw [if_neg hc3] at h
        refine we_known (t := 9) (b := (x0_0 == 10)) (v := false) (by kernel_rfl) (beq_eq_false_iff_ne.2 hc3) ?_
        refine we_false (by kernel_rfl) ?_
        refine we_region [(0, 0), (1, 0)] rfl ?_
        refine ge_batch [0, 1] (ans := []) (vs := [(9, .bool (x0_0 == 11)), (12, .bool (x0_0 == 11))]) (l := []) (by kernel_rfl) trivial ?_
        refine ge_nil fun a hF => hK6 _ _ ?_ a hF
        by_cases hc4 : x0_0 = 11
        · rw [if_pos hc4] at h
          refine we_known (t := 9) (b := (x0_0 == 11)) (v := true) (by kernel_rfl) (beq_iff_eq.2 hc4) ?_
          refine we_true (by kernel_rfl) ?_
          refine we_seq fun K11 hK11 => ?_
          refine we_region [(0, 0)] rfl ?_
          refine ge_batch [0] (ans := []) (vs := [(4, .int .i64 2)]) (l := []) (by kernel_rfl) trivial ?_
          refine ge_nil fun a hF => hK11 _ _ ?_ a hF
          have hS5 : St w0 w1 [] := hS1.takeN 0
          subst h
          exact we_ret (post_ret (rs := [.tmp 4]) (ans := []) (vs := [.int .i64 2]) (l := []) rfl (by kernel_rfl) trivial ⟨rfl, hS5⟩)
        · rw [if_neg hc4] at h
          refine we_known (t := 9) (b := (x0_0 == 11)) (v := false) (by kernel_rfl) (beq_eq_false_iff_ne.2 hc4) ?_
          refine we_false (by kernel_rfl) ?_
          refine we_seq fun K12 hK12 => ?_
          refine we_seq fun K13 hK13 => ?_
          refine we_region [(0, 0), (1, 0)] rfl ?_
          refine ge_batch [0, 1] (ans := []) (vs := [(13, .bool (x0_0 == 12)), (14, .bool (x0_0 == 12))]) (l := []) (by kernel_rfl) trivial ?_
          refine ge_nil fun a hF => hK13 _ _ ?_ a hF
          by_cases hc5 : x0_0 = 12
          · rw [if_pos hc5] at h
            refine we_known (t := 13) (b := (x0_0 == 12)) (v := true) (by kernel_rfl) (beq_iff_eq.2 hc5) ?_
            refine we_true (by kernel_rfl) ?_
            refine we_skip fun a hF => hK12 _ _ ?_ a hF
            refine we_true (by kernel_rfl) ?_
            refine we_seq fun K14 hK14 => ?_
            refine we_region [(0, 0)] rfl ?_
            refine ge_batch [0] (ans := []) (vs := [(16, .bool x1)]) (l := []) (by kernel_rfl) trivial ?_
            refine ge_nil fun a hF => hK14 _ _ ?_ a hF
            by_cases hc6 : x1 = true
            · rw [if_pos hc6] at h
              refine we_known (t := 16) (b := x1) (v := true) (by kernel_rfl) hc6 ?_
              refine we_true (by kernel_rfl) ?_
              refine we_seq fun K15 hK15 => ?_
              refine we_region [(0, 0)] rfl ?_
              refine ge_batch [0] (ans := []) (vs := [(4, .int .i64 2)]) (l := []) (by kernel_rfl) trivial ?_
              refine ge_nil fun a hF => hK15 _ _ ?_ a hF
              have hS6 : St w0 w1 [] := hS1.takeN 0
              subst h
              exact we_ret (post_ret (rs := [.tmp 4]) (ans := []) (vs := [.int .i64 2]) (l := []) rfl (by kernel_rfl) trivial ⟨rfl, hS6⟩)
            · rw [if_neg hc6] at h
              refine we_known (t := 16) (b := x1) (v := false) (by kernel_rfl) (Bool.eq_false_iff.2 hc6) ?_
              refine we_false (by kernel_rfl) ?_
              refine we_skip fun a hF => hK2 _ _ ?_ a hF
              refine we_seq fun K16 hK16 => ?_
              refine we_region [(0, 0)] rfl ?_
              refine ge_batch [0] (ans := []) (vs := [(4, .int .i64 1)]) (l := []) (by kernel_rfl) trivial ?_
              refine ge_nil fun a hF => hK16 _ _ ?_ a hF
              have hS7 : St w0 w1 [] := hS1.takeN 0
              subst h
              exact we_ret (post_ret (rs := [.tmp 4]) (ans := []) (vs := [.int .i64 1]) (l := []) rfl (by kernel_rfl) trivial ⟨rfl, hS7⟩)
          · rw [if_neg hc5] at h
            refine we_known (t := 13) (b := (x0_0 == 12)) (v := false) (by kernel_rfl) (beq_eq_false_iff_ne.2 hc5) ?_
            refine we_false (by kernel_rfl) ?_
            refine we_region [(0, 0), (1, 0)] rfl ?_
            refine ge_batch [0, 1] (ans := []) (vs := [(13, .bool (x0_0 == 14)), (15, .bool (x0_0 == 14))]) (l := []) (by kernel_rfl) trivial ?_
            refine ge_nil fun a hF => hK12 _ _ ?_ a hF
            by_cases hc7 : x0_0 = 14
            · rw [if_pos hc7] at h
              refine we_known (t := 13) (b := (x0_0 == 14)) (v := true) (by kernel_rfl) (beq_iff_eq.2 hc7) ?_
              refine we_true (by kernel_rfl) ?_
              refine we_seq fun K17 hK17 => ?_
              refine we_region [(0, 0)] rfl ?_
              refine ge_batch [0] (ans := []) (vs := [(16, .bool x1)]) (l := []) (by kernel_rfl) trivial ?_
              refine ge_nil fun a hF => hK17 _ _ ?_ a hF
              by_cases hc8 : x1 = true
              · rw [if_pos hc8] at h
                refine we_known (t := 16) (b := x1) (v := true) (by kernel_rfl) hc8 ?_
                refine we_true (by kernel_rfl) ?_
                refine we_seq fun K18 hK18 => ?_
                refine we_region [(0, 0)] rfl ?_
                refine ge_batch [0] (ans := []) (vs := [(4, .int .i64 2)]) (l := []) (by kernel_rfl) trivial ?_
                refine ge_nil fun a hF => hK18 _ _ ?_ a hF
                have hS8 : St w0 w1 [] := hS1.takeN 0
                subst h
                exact we_ret (post_ret (rs := [.tmp 4]) (ans := []) (vs := [.int .i64 2]) (l := []) rfl (by kernel_rfl) trivial ⟨rfl, hS8⟩)
              · rw [if_neg hc8] at h
                refine we_known (t := 16) (b := x1) (v := false) (by kernel_rfl) (Bool.eq_false_iff.2 hc8) ?_
                refine we_false (by kernel_rfl) ?_
                refine we_skip fun a hF => hK2 _ _ ?_ a hF
                refine we_seq fun K19 hK19 => ?_
                refine we_region [(0, 0)] rfl ?_
                refine ge_batch [0] (ans := []) (vs := [(4, .int .i64 1)]) (l := []) (by kernel_rfl) trivial ?_
                refine ge_nil fun a hF => hK19 _ _ ?_ a hF
                have hS9 : St w0 w1 [] := hS1.takeN 0
                subst h
                exact we_ret (post_ret (rs := [.tmp 4]) (ans := []) (vs := [.int .i64 1]) (l := []) rfl (by kernel_rfl) trivial ⟨rfl, hS9⟩)
            · rw [if_neg hc7] at h
              refine we_known (t := 13) (b := (x0_0 == 14)) (v := false) (by kernel_rfl) (beq_eq_false_iff_ne.2 hc7) ?_
              refine we_false (by kernel_rfl) ?_
              refine we_seq fun K20 hK20 => ?_
              refine we_region [(0, 0), (1, 0)] rfl ?_
              refine ge_batch [0, 1] (ans := []) (vs := [(17, .bool (x0_0 == 18)), (18, .bool (x0_0 == 18))]) (l := []) (by kernel_rfl) trivial ?_
              refine ge_nil fun a hF => hK20 _ _ ?_ a hF
              by_cases hc9 : x0_0 = 18
              · rw [if_pos hc9] at h
                refine we_known (t := 17) (b := (x0_0 == 18)) (v := true) (by kernel_rfl) (beq_iff_eq.2 hc9) ?_
                refine we_true (by kernel_rfl) ?_
                refine we_seq fun K21 hK21 => ?_
                refine we_region [(0, 0), (1, 0), (2, 0)] rfl ?_
                refine ge_batch [0, 1, 2] (ans := [.val (.int .i64 x0_1)]) (vs := [(4, .int .i64 x0_1), (20, .int .i64 x0_1), (19, .pointer (some ⟨b1, 1, none⟩))]) (l := [.loaded ⟨b1, 1, none⟩ (.int .i64 x0_1)]) (by kernel_rfl) ⟨hS1.cell 0 rfl rfl, trivial⟩ ?_
                refine ge_nil fun a hF => hK21 _ _ ?_ a hF
                have hS10 : St w0 w1 [] := hS1.takeN 0
                subst h
                exact we_ret (post_ret (rs := [.tmp 4]) (ans := []) (vs := [.int .i64 x0_1]) (l := []) rfl (by kernel_rfl) trivial ⟨rfl, hS10⟩)
              · rw [if_neg hc9] at h
                refine we_known (t := 17) (b := (x0_0 == 18)) (v := false) (by kernel_rfl) (beq_eq_false_iff_ne.2 hc9) ?_
                refine we_false (by kernel_rfl) ?_
                refine we_skip fun a hF => hK2 _ _ ?_ a hF
                refine we_seq fun K22 hK22 => ?_
                refine we_region [(0, 0)] rfl ?_
                refine ge_batch [0] (ans := []) (vs := [(4, .int .i64 1)]) (l := []) (by kernel_rfl) trivial ?_
                refine ge_nil fun a hF => hK22 _ _ ?_ a hF
                have hS11 : St w0 w1 [] := hS1.takeN 0
                subst h
                exact we_ret (post_ret (rs := [.tmp 4]) (ans := []) (vs := [.int .i64 1]) (l := []) rfl (by kernel_rfl) trivial ⟨rfl, hS11⟩)

/-! punctual/punctualref.Ticks -/
abbrev Ticks.Post (w0 : World) (r : Int) (e : Ending) (w : World) : Prop := e = .returned (.int .i64 r) ∧ St w0 w []
def Ticks.f (x0_0 : Int) (x0_1 : Int) (x0_2 : Int) (x1 : Bool) : Int :=
  if x0_0 = 6 then
    3
  else
    if x0_0 = 9 then
      2
    else
      if x0_0 = 10 then
        2
      else
        if x0_0 = 11 then
          2
        else
          if x1 = true then
            if x0_0 = 12 then
              2
            else
              if x0_0 = 14 then
                2
              else
                if x0_0 = 18 then
                  x0_1
                else
                  1
          else
            if x0_0 = 18 then
              x0_1
            else
              1
theorem Ticks_ok (x0_0 : Int) (x0_1 : Int) (x0_2 : Int) (x1 : Bool) (w0 : World) (r : Int) (h : Ticks.f x0_0 x0_1 x0_2 x1 = r) :
    Calls Try.prog 13 #[.agg #[.int .i64 x0_0, .int .i64 x0_1, .int .i64 x0_2], .bool x1] w0 (Ticks.Post w0 r) := by
  have hS := St.start w0
  unfold Ticks.f at h
  refine calls_enter (n := 42) (args := [.agg #[.int .i64 x0_0, .int .i64 x0_1, .int .i64 x0_2], .bool x1]) (fn := Try.f13) rfl rfl rfl rfl ?_
  show WE _ _ _ _ [(0, .agg #[.int .i64 x0_0, .int .i64 x0_1, .int .i64 x0_2]), (1, .bool x1)] _
  refine we_seq fun K1 hK1 => ?_
  refine we_region [(0, 1), (1, 0)] rfl ?_
  refine ge_new (d := some 2) (o := .cells #[.int .i64 x0_0, .int .i64 x0_1, .int .i64 x0_2] 29) (v := fun b => .pointer (some ⟨b, 0, none⟩)) hS (fun b => by kernel_rfl) fun b1 w1 hx1 hS1 => ?_
  refine ge_batch [1] (ans := []) (vs := [(4, .int .i64 0)]) (l := []) (by kernel_rfl) trivial ?_
  refine ge_nil fun a hF => hK1 _ _ ?_ a hF
  refine we_seq fun K2 hK2 => ?_
  refine we_block ?_
  refine we_seq fun K3 hK3 => ?_
  refine we_region [(0, 0), (1, 0), (2, 0), (3, 0)] rfl ?_
  refine ge_batch [0, 1, 2, 3] (ans := [.val (.int .i64 x0_0)]) (vs := [(5, .bool (x0_0 == 6)), (8, .bool (x0_0 == 6)), (7, .int .i64 x0_0), (6, .pointer (some ⟨b1, 0, none⟩))]) (l := [.loaded ⟨b1, 0, none⟩ (.int .i64 x0_0)]) (by kernel_rfl) ⟨hS1.cell 0 rfl rfl, trivial⟩ ?_
  refine ge_nil fun a hF => hK3 _ _ ?_ a hF
  by_cases hc1 : x0_0 = 6
  · rw [if_pos hc1] at h
    refine we_known (t := 5) (b := (x0_0 == 6)) (v := true) (by kernel_rfl) (beq_iff_eq.2 hc1) ?_
    refine we_true (by kernel_rfl) ?_
    refine we_seq fun K4 hK4 => ?_
    refine we_region [(0, 0)] rfl ?_
    refine ge_batch [0] (ans := []) (vs := [(4, .int .i64 3)]) (l := []) (by kernel_rfl) trivial ?_
    refine ge_nil fun a hF => hK4 _ _ ?_ a hF
    have hS2 : St w0 w1 [] := hS1.takeN 0
    subst h
    exact we_ret (post_ret (rs := [.tmp 4]) (ans := []) (vs := [.int .i64 3]) (l := []) rfl (by kernel_rfl) trivial ⟨rfl, hS2⟩)
  · rw [if_neg hc1] at h
    refine we_known (t := 5) (b := (x0_0 == 6)) (v := false) (by kernel_rfl) (beq_eq_false_iff_ne.2 hc1) ?_
    refine we_false (by kernel_rfl) ?_
    refine we_seq fun K5 hK5 => ?_
    refine we_region [(0, 0), (1, 0), (2, 0), (3, 0), (4, 0), (5, 0), (6, 0), (7, 0), (8, 0), (9, 0), (10, 0), (11, 0), (12, 0), (13, 0), (14, 0), (15, 0), (16, 0), (17, 0), (18, 0), (19, 0), (20, 0), (21, 0), (22, 0), (23, 0), (24, 0), (25, 0), (26, 0)] rfl ?_
    refine ge_batch [0, 1, 2, 3] (ans := [.val (.int .i64 x0_0)]) (vs := [(13, .bool (x0_0 == 9)), (12, .bool (x0_0 == 9)), (11, .int .i64 x0_0), (10, .pointer (some ⟨b1, 0, none⟩))]) (l := [.loaded ⟨b1, 0, none⟩ (.int .i64 x0_0)]) (by kernel_rfl) ⟨hS1.cell 0 rfl rfl, trivial⟩ ?_
    by_cases hc2 : x0_0 = 9
    · rw [if_pos hc2] at h
      refine ge_known (t := 13) (b := (x0_0 == 9)) (c := true) (by kernel_rfl) (beq_iff_eq.2 hc2) ?_
      refine ge_batch [4, 5, 6, 7, 8, 9, 10, 11, 12, 13, 14, 15, 16, 17, 18, 19, 20, 21, 22, 23, 24, 25, 26] (ans := []) (vs := [(9, .bool true), (35, .bool true), (34, undef), (33, undef), (32, undef), (31, undef), (30, undef), (29, undef), (28, undef), (27, undef), (26, undef), (25, undef), (24, undef), (23, .bool true), (22, .bool true), (21, undef), (20, undef), (19, undef), (18, .bool true), (17, .bool true), (16, undef), (15, undef), (14, undef)]) (l := []) (by kernel_rfl) trivial ?_
      refine ge_nil fun a hF => hK5 _ _ ?_ a hF
      refine we_true (by kernel_rfl) ?_
      refine we_seq fun K6 hK6 => ?_
      refine we_region [(0, 0)] rfl ?_
      refine ge_batch [0] (ans := []) (vs := [(4, .int .i64 2)]) (l := []) (by kernel_rfl) trivial ?_
      refine ge_nil fun a hF => hK6 _ _ ?_ a hF
      have hS3 : St w0 w1 [] := hS1.takeN 0
      subst h
      exact we_ret (post_ret (rs := [.tmp 4]) (ans := []) (vs := [.int .i64 2]) (l := []) rfl (by kernel_rfl) trivial ⟨rfl, hS3⟩)
    · rw [if_neg hc2] at h
      refine ge_known (t := 13) (b := (x0_0 == 9)) (c := false) (by kernel_rfl) (beq_eq_false_iff_ne.2 hc2) ?_
      refine ge_batch [4, 5, 6, 7, 8] (ans := [.val (.int .i64 x0_0)]) (vs := [(18, .bool (x0_0 == 10)), (17, .bool (x0_0 == 10)), (16, .bool (x0_0 == 10)), (15, .int .i64 x0_0), (14, .pointer (some ⟨b1, 0, none⟩))]) (l := [.loaded ⟨b1, 0, none⟩ (.int .i64 x0_0)]) (by kernel_rfl) ⟨hS1.cell 0 rfl rfl, trivial⟩ ?_
      by_cases hc3 : x0_0 = 10
      · rw [if_pos hc3] at h
        refine ge_known (t := 18) (b := (x0_0 == 10)) (c := true) (by kernel_rfl) (beq_iff_eq.2 hc3) ?_
        refine ge_batch [9, 10, 11, 12, 13, 14, 15, 16, 17, 18, 19, 20, 21, 22, 23, 24, 25, 26] (ans := []) (vs := [(9, .bool true), (35, .bool true), (34, undef), (33, undef), (32, undef), (31, undef), (30, undef), (29, undef), (28, undef), (27, undef), (26, undef), (25, undef), (24, undef), (23, .bool true), (22, .bool true), (21, undef), (20, undef), (19, undef)]) (l := []) (by kernel_rfl) trivial ?_
        refine ge_nil fun a hF => hK5 _ _ ?_ a hF
        refine we_true (by kernel_rfl) ?_
        refine we_seq fun K7 hK7 => ?_
        refine we_region [(0, 0)] rfl ?_
        refine ge_batch [0] (ans := []) (vs := [(4, .int .i64 2)]) (l := []) (by kernel_rfl) trivial ?_
        refine ge_nil fun a hF => hK7 _ _ ?_ a hF
        have hS4 : St w0 w1 [] := hS1.takeN 0
        subst h
        exact we_ret (post_ret (rs := [.tmp 4]) (ans := []) (vs := [.int .i64 2]) (l := []) rfl (by kernel_rfl) trivial ⟨rfl, hS4⟩)
      · rw [if_neg hc3] at h
        refine ge_known (t := 18) (b := (x0_0 == 10)) (c := false) (by kernel_rfl) (beq_eq_false_iff_ne.2 hc3) ?_
        refine ge_batch [9, 10, 11, 12, 13] (ans := [.val (.int .i64 x0_0)]) (vs := [(23, .bool (x0_0 == 11)), (22, .bool (x0_0 == 11)), (21, .bool (x0_0 == 11)), (20, .int .i64 x0_0), (19, .pointer (some ⟨b1, 0, none⟩))]) (l := [.loaded ⟨b1, 0, none⟩ (.int .i64 x0_0)]) (by kernel_rfl) ⟨hS1.cell 0 rfl rfl, trivial⟩ ?_
        by_cases hc4 : x0_0 = 11
        · rw [if_pos hc4] at h
          refine ge_known (t := 23) (b := (x0_0 == 11)) (c := true) (by kernel_rfl) (beq_iff_eq.2 hc4) ?_
          refine ge_batch [14, 15, 16, 17, 18, 19, 20, 21, 22, 23, 24, 25, 26] (ans := []) (vs := [(9, .bool true), (35, .bool true), (34, undef), (33, undef), (32, undef), (31, undef), (30, undef), (29, undef), (28, undef), (27, undef), (26, undef), (25, undef), (24, undef)]) (l := []) (by kernel_rfl) trivial ?_
          refine ge_nil fun a hF => hK5 _ _ ?_ a hF
          refine we_true (by kernel_rfl) ?_
          refine we_seq fun K8 hK8 => ?_
          refine we_region [(0, 0)] rfl ?_
          refine ge_batch [0] (ans := []) (vs := [(4, .int .i64 2)]) (l := []) (by kernel_rfl) trivial ?_
          refine ge_nil fun a hF => hK8 _ _ ?_ a hF
          have hS5 : St w0 w1 [] := hS1.takeN 0
          subst h
          exact we_ret (post_ret (rs := [.tmp 4]) (ans := []) (vs := [.int .i64 2]) (l := []) rfl (by kernel_rfl) trivial ⟨rfl, hS5⟩)
        · rw [if_neg hc4] at h
          refine ge_known (t := 23) (b := (x0_0 == 11)) (c := false) (by kernel_rfl) (beq_eq_false_iff_ne.2 hc4) ?_
          refine ge_batch [14, 15] (ans := []) (vs := [(25, .bool x1), (24, .bool x1)]) (l := []) (by kernel_rfl) trivial ?_
          by_cases hc5 : x1 = true
          · rw [if_pos hc5] at h
            refine ge_known (t := 25) (b := x1) (c := true) (by kernel_rfl) hc5 ?_
            refine ge_batch [16, 17, 18, 19] (ans := [.val (.int .i64 x0_0)]) (vs := [(29, .bool (x0_0 == 12)), (28, .bool (x0_0 == 12)), (27, .int .i64 x0_0), (26, .pointer (some ⟨b1, 0, none⟩))]) (l := [.loaded ⟨b1, 0, none⟩ (.int .i64 x0_0)]) (by kernel_rfl) ⟨hS1.cell 0 rfl rfl, trivial⟩ ?_
            by_cases hc6 : x0_0 = 12
            · rw [if_pos hc6] at h
              refine ge_known (t := 29) (b := (x0_0 == 12)) (c := true) (by kernel_rfl) (beq_iff_eq.2 hc6) ?_
              refine ge_batch [20, 21, 22, 23, 24, 25, 26] (ans := []) (vs := [(9, .bool true), (35, .bool true), (34, .bool true), (33, .bool true), (32, undef), (31, undef), (30, undef)]) (l := []) (by kernel_rfl) trivial ?_
              refine ge_nil fun a hF => hK5 _ _ ?_ a hF
              refine we_true (by kernel_rfl) ?_
              refine we_seq fun K9 hK9 => ?_
              refine we_region [(0, 0)] rfl ?_
              refine ge_batch [0] (ans := []) (vs := [(4, .int .i64 2)]) (l := []) (by kernel_rfl) trivial ?_
              refine ge_nil fun a hF => hK9 _ _ ?_ a hF
              have hS6 : St w0 w1 [] := hS1.takeN 0
              subst h
              exact we_ret (post_ret (rs := [.tmp 4]) (ans := []) (vs := [.int .i64 2]) (l := []) rfl (by kernel_rfl) trivial ⟨rfl, hS6⟩)
            · rw [if_neg hc6] at h
              refine ge_known (t := 29) (b := (x0_0 == 12)) (c := false) (by kernel_rfl) (beq_eq_false_iff_ne.2 hc6) ?_
              refine ge_batch [20, 21, 22, 23, 24, 25, 26] (ans := [.val (.int .i64 x0_0)]) (vs := [(9, .bool (x0_0 == 14)), (35, .bool (x0_0 == 14)), (34, .bool (x0_0 == 14)), (33, .bool (x0_0 == 14)), (32, .bool (x0_0 == 14)), (31, .int .i64 x0_0), (30, .pointer (some ⟨b1, 0, none⟩))]) (l := [.loaded ⟨b1, 0, none⟩ (.int .i64 x0_0)]) (by kernel_rfl) ⟨hS1.cell 0 rfl rfl, trivial⟩ ?_
              refine ge_nil fun a hF => hK5 _ _ ?_ a hF
              by_cases hc7 : x0_0 = 14
              · rw [if_pos hc7] at h
                refine we_known (t := 9) (b := (x0_0 == 14)) (v := true) (by kernel_rfl) (beq_iff_eq.2 hc7) ?_
                refine we_true (by kernel_rfl) ?_
                refine we_seq fun K10 hK10 => ?_
                refine we_region [(0, 0)] rfl ?_
                refine ge_batch [0] (ans := []) (vs := [(4, .int .i64 2)]) (l := []) (by kernel_rfl) trivial ?_
                refine ge_nil fun a hF => hK10 _ _ ?_ a hF
                have hS7 : St w0 w1 [] := hS1.takeN 0
                subst h
                exact we_ret (post_ret (rs := [.tmp 4]) (ans := []) (vs := [.int .i64 2]) (l := []) rfl (by kernel_rfl) trivial ⟨rfl, hS7⟩)
              · rw [if_neg hc7] at h
                refine we_known (t := 9) (b := (x0_0 == 14)) (v := false) (by kernel_rfl) (beq_eq_false_iff_ne.2 hc7) ?_
                refine we_false (by kernel_rfl) ?_
                refine we_seq fun K11 hK11 => ?_
                refine we_region [(0, 0), (1, 0), (2, 0), (3, 0)] rfl ?_
                refine ge_batch [0, 1, 2, 3] (ans := [.val (.int .i64 x0_0)]) (vs := [(36, .bool (x0_0 == 18)), (39, .bool (x0_0 == 18)), (38, .int .i64 x0_0), (37, .pointer (some ⟨b1, 0, none⟩))]) (l := [.loaded ⟨b1, 0, none⟩ (.int .i64 x0_0)]) (by kernel_rfl) ⟨hS1.cell 0 rfl rfl, trivial⟩ ?_
                refine ge_nil fun a hF => hK11 _ _ ?_ a hF
                by_cases hc8 : x0_0 = 18
                · rw [if_pos hc8] at h
                  refine we_known (t := 36) (b := (x0_0 == 18)) (v := true) (by kernel_rfl) (beq_iff_eq.2 hc8) ?_
                  refine we_true (by kernel_rfl) ?_
                  refine we_seq fun K12 hK12 => ?_
                  refine we_region [(0, 0), (1, 0), (2, 0)] rfl ?_
                  refine ge_batch [0, 1, 2] (ans := [.val (.int .i64 x0_1)]) (vs := [(4, .int .i64 x0_1), (41, .int .i64 x0_1), (40, .pointer (some ⟨b1, 1, none⟩))]) (l := [.loaded ⟨b1, 1, none⟩ (.int .i64 x0_1)]) (by kernel_rfl) ⟨hS1.cell 0 rfl rfl, trivial⟩ ?_
                  refine ge_nil fun a hF => hK12 _ _ ?_ a hF
                  have hS8 : St w0 w1 [] := hS1.takeN 0
                  subst h
                  exact we_ret (post_ret (rs := [.tmp 4]) (ans := []) (vs := [.int .i64 x0_1]) (l := []) rfl (by kernel_rfl) trivial ⟨rfl, hS8⟩)
                · rw [if_neg hc8] at h
                  refine we_known (t := 36) (b := (x0_0 == 18)) (v := false) (by kernel_rfl) (beq_eq_false_iff_ne.2 hc8) ?_
                  refine we_false (by kernel_rfl) ?_
                  refine we_skip fun a hF => hK2 _ _ ?_ a hF
                  refine we_seq fun K13 hK13 => ?_
                  refine we_region [(0, 0)] rfl ?_
                  refine ge_batch [0] (ans := []) (vs := [(4, .int .i64 1)]) (l := []) (by kernel_rfl) trivial ?_
                  refine ge_nil fun a hF => hK13 _ _ ?_ a hF
                  have hS9 : St w0 w1 [] := hS1.takeN 0
                  subst h
                  exact we_ret (post_ret (rs := [.tmp 4]) (ans := []) (vs := [.int .i64 1]) (l := []) rfl (by kernel_rfl) trivial ⟨rfl, hS9⟩)
          · rw [if_neg hc5] at h
            refine ge_known (t := 25) (b := x1) (c := false) (by kernel_rfl) (Bool.eq_false_iff.2 hc5) ?_
            refine ge_batch [16, 17, 18, 19, 20, 21, 22, 23, 24, 25, 26] (ans := []) (vs := [(9, .bool false), (35, .bool false), (34, .bool false), (33, undef), (32, undef), (31, undef), (30, undef), (29, undef), (28, undef), (27, undef), (26, undef)]) (l := []) (by kernel_rfl) trivial ?_
            refine ge_nil fun a hF => hK5 _ _ ?_ a hF
            refine we_false (by kernel_rfl) ?_
            refine we_seq fun K14 hK14 => ?_
            refine we_region [(0, 0), (1, 0), (2, 0), (3, 0)] rfl ?_
            refine ge_batch [0, 1, 2, 3] (ans := [.val (.int .i64 x0_0)]) (vs := [(36, .bool (x0_0 == 18)), (39, .bool (x0_0 == 18)), (38, .int .i64 x0_0), (37, .pointer (some ⟨b1, 0, none⟩))]) (l := [.loaded ⟨b1, 0, none⟩ (.int .i64 x0_0)]) (by kernel_rfl) ⟨hS1.cell 0 rfl rfl, trivial⟩ ?_
            refine ge_nil fun a hF => hK14 _ _ ?_ a hF
            by_cases hc9 : x0_0 = 18
            · rw [if_pos hc9] at h
              refine we_known (t := 36) (b := (x0_0 == 18)) (v := true) (by kernel_rfl) (beq_iff_eq.2 hc9) ?_
              refine we_true (by kernel_rfl) ?_
              refine we_seq fun K15 hK15 => ?_
              refine we_region [(0, 0), (1, 0), (2, 0)] rfl ?_
              refine ge_batch [0, 1, 2] (ans := [.val (.int .i64 x0_1)]) (vs := [(4, .int .i64 x0_1), (41, .int .i64 x0_1), (40, .pointer (some ⟨b1, 1, none⟩))]) (l := [.loaded ⟨b1, 1, none⟩ (.int .i64 x0_1)]) (by kernel_rfl) ⟨hS1.cell 0 rfl rfl, trivial⟩ ?_
              refine ge_nil fun a hF => hK15 _ _ ?_ a hF
              have hS10 : St w0 w1 [] := hS1.takeN 0
              subst h
              exact we_ret (post_ret (rs := [.tmp 4]) (ans := []) (vs := [.int .i64 x0_1]) (l := []) rfl (by kernel_rfl) trivial ⟨rfl, hS10⟩)
            · rw [if_neg hc9] at h
              refine we_known (t := 36) (b := (x0_0 == 18)) (v := false) (by kernel_rfl) (beq_eq_false_iff_ne.2 hc9) ?_
              refine we_false (by kernel_rfl) ?_
              refine we_skip fun a hF => hK2 _ _ ?_ a hF
              refine we_seq fun K16 hK16 => ?_
              refine we_region [(0, 0)] rfl ?_
              refine ge_batch [0] (ans := []) (vs := [(4, .int .i64 1)]) (l := []) (by kernel_rfl) trivial ?_
              refine ge_nil fun a hF => hK16 _ _ ?_ a hF
              have hS11 : St w0 w1 [] := hS1.takeN 0
              subst h
              exact we_ret (post_ret (rs := [.tmp 4]) (ans := []) (vs := [.int .i64 1]) (l := []) rfl (by kernel_rfl) trivial ⟨rfl, hS11⟩)

/-! punctual/punctuallaw.MachCosts -/
abbrev MachCosts.Post (w0 : World) (r : Bool) (e : Ending) (w : World) : Prop := e = .returned (.bool r) ∧ St w0 w []
def MachCosts.f (x0_0 : Int) (x0_1 : Int) (x0_2 : Int) (x1 : Bool) : Bool :=
  if (Cost.f 6 0 0 false) = 3 then
    if x0_0 < 1 then
      ((Cost.f x0_0 x0_1 x0_2 x1) == 1)
    else
      if x0_0 > 18 then
        ((Cost.f x0_0 x0_1 x0_2 x1) == 1)
      else
        ((Cost.f x0_0 x0_1 x0_2 x1) == (Ticks.f x0_0 x0_1 x0_2 x1))
  else
    false
theorem MachCosts_ok (x0_0 : Int) (x0_1 : Int) (x0_2 : Int) (x1 : Bool) (w0 : World) (r : Bool) (h : MachCosts.f x0_0 x0_1 x0_2 x1 = r) :
    Calls Try.prog 4 #[.agg #[.int .i64 x0_0, .int .i64 x0_1, .int .i64 x0_2], .bool x1] w0 (MachCosts.Post w0 r) := by
  have hS := St.start w0
  unfold MachCosts.f at h
  refine calls_enter (n := 27) (args := [.agg #[.int .i64 x0_0, .int .i64 x0_1, .int .i64 x0_2], .bool x1]) (fn := Try.f4) rfl rfl rfl rfl ?_
  show WE _ _ _ _ [(0, .agg #[.int .i64 x0_0, .int .i64 x0_1, .int .i64 x0_2]), (1, .bool x1)] _
  refine we_seq fun K1 hK1 => ?_
  refine we_region [(0, 1), (1, 0)] rfl ?_
  refine ge_new (d := some 2) (o := .cells #[.int .i64 x0_0, .int .i64 x0_1, .int .i64 x0_2] 29) (v := fun b => .pointer (some ⟨b, 0, none⟩)) hS (fun b => by kernel_rfl) fun b1 w1 hx1 hS1 => ?_
  refine ge_batch [1] (ans := []) (vs := [(4, .bool false)]) (l := []) (by kernel_rfl) trivial ?_
  refine ge_nil fun a hF => hK1 _ _ ?_ a hF
  refine we_seq fun K2 hK2 => ?_
  refine we_seq fun K3 hK3 => ?_
  refine we_region [(0, 0), (1, 1), (2, 0)] rfl ?_
  refine ge_batch [0] (ans := []) (vs := [(5, .agg #[.int .i64 6, .int .i64 0, .int .i64 0])]) (l := []) (by kernel_rfl) trivial ?_
  refine ge_call (d := some 6) (f := 12) (args := #[.agg #[.int .i64 6, .int .i64 0, .int .i64 0], .bool false]) (by kernel_rfl) (Cost_ok 6 0 0 false _ _ rfl) ?_
  rintro _ w2 ⟨rfl, hS2⟩
  refine ⟨_, rfl, hS2.below, ?_⟩
  have hS3 : St w0 w2 [Own.blk b1 (.cells #[.int .i64 x0_0, .int .i64 x0_1, .int .i64 x0_2] 29 (0, 0))] := hS1.call hS2
  refine ge_batch [2] (ans := []) (vs := [(7, .bool ((Cost.f 6 0 0 false) != 3))]) (l := []) (by kernel_rfl) trivial ?_
  refine ge_nil fun a hF => hK3 _ _ ?_ a hF
  by_cases hc1 : (Cost.f 6 0 0 false) = 3
  · rw [if_pos hc1] at h
    refine we_known (t := 7) (b := ((Cost.f 6 0 0 false) != 3)) (v := false) (by kernel_rfl) (bne_eq_false_iff_eq.2 hc1) ?_
    refine we_false (by kernel_rfl) ?_
    refine we_skip fun a hF => hK2 _ _ ?_ a hF
    refine we_seq fun K4 hK4 => ?_
    refine we_seq fun K5 hK5 => ?_
    refine we_region [(0, 0), (1, 0), (2, 0), (3, 0), (4, 0), (5, 0), (6, 0), (7, 0)] rfl ?_
    refine ge_batch [0, 1, 2, 3] (ans := [.val (.int .i64 x0_0)]) (vs := [(11, .bool (decide (x0_0 < 1))), (10, .bool (decide (x0_0 < 1))), (9, .int .i64 x0_0), (8, .pointer (some ⟨b1, 0, none⟩))]) (l := [.loaded ⟨b1, 0, none⟩ (.int .i64 x0_0)]) (by kernel_rfl) ⟨hS3.cell 0 rfl rfl, trivial⟩ ?_
    by_cases hc2 : x0_0 < 1
    · rw [if_pos hc2] at h
      refine ge_known (t := 11) (b := decide (x0_0 < 1)) (c := true) (by kernel_rfl) (decide_eq_true hc2) ?_
      refine ge_batch [4, 5, 6, 7] (ans := []) (vs := [(15, .bool true), (14, undef), (13, undef), (12, undef)]) (l := []) (by kernel_rfl) trivial ?_
      refine ge_nil fun a hF => hK5 _ _ ?_ a hF
      refine we_true (by kernel_rfl) ?_
      refine we_seq fun K6 hK6 => ?_
      refine we_region [(0, 0), (1, 0), (2, 1), (3, 0), (4, 0)] rfl ?_
      refine ge_batch [0, 1] (ans := [.val (.int .i64 x0_0), .val (.int .i64 x0_1), .val (.int .i64 x0_2)]) (vs := [(17, .bool x1), (16, .agg #[.int .i64 x0_0, .int .i64 x0_1, .int .i64 x0_2])]) (l := [.loaded ⟨b1, 0, none⟩ (.int .i64 x0_0), .loaded ⟨b1, 1, none⟩ (.int .i64 x0_1), .loaded ⟨b1, 2, none⟩ (.int .i64 x0_2)]) (by kernel_rfl) ⟨hS3.cell 0 rfl rfl, hS3.cell 0 rfl rfl, hS3.cell 0 rfl rfl, trivial⟩ ?_
      refine ge_call (d := some 18) (f := 12) (args := #[.agg #[.int .i64 x0_0, .int .i64 x0_1, .int .i64 x0_2], .bool x1]) (by kernel_rfl) (Cost_ok x0_0 x0_1 x0_2 x1 _ _ rfl) ?_
      rintro _ w3 ⟨rfl, hS4⟩
      refine ⟨_, rfl, hS4.below, ?_⟩
      have hS5 : St w0 w3 [Own.blk b1 (.cells #[.int .i64 x0_0, .int .i64 x0_1, .int .i64 x0_2] 29 (0, 0))] := hS3.call hS4
      refine ge_batch [3, 4] (ans := []) (vs := [(4, .bool ((Cost.f x0_0 x0_1 x0_2 x1) == 1)), (19, .bool ((Cost.f x0_0 x0_1 x0_2 x1) == 1))]) (l := []) (by kernel_rfl) trivial ?_
      refine ge_nil fun a hF => hK6 _ _ ?_ a hF
      have hS6 : St w0 w3 [] := hS5.takeN 0
      subst h
      exact we_ret (post_ret (rs := [.tmp 4]) (ans := []) (vs := [.bool ((Cost.f x0_0 x0_1 x0_2 x1) == 1)]) (l := []) rfl (by kernel_rfl) trivial ⟨rfl, hS6⟩)
    · rw [if_neg hc2] at h
      refine ge_known (t := 11) (b := decide (x0_0 < 1)) (c := false) (by kernel_rfl) (decide_eq_false hc2) ?_
      refine ge_batch [4, 5, 6, 7] (ans := [.val (.int .i64 x0_0)]) (vs := [(15, .bool (decide (x0_0 > 18))), (14, .bool (decide (x0_0 > 18))), (13, .int .i64 x0_0), (12, .pointer (some ⟨b1, 0, none⟩))]) (l := [.loaded ⟨b1, 0, none⟩ (.int .i64 x0_0)]) (by kernel_rfl) ⟨hS3.cell 0 rfl rfl, trivial⟩ ?_
      refine ge_nil fun a hF => hK5 _ _ ?_ a hF
      by_cases hc3 : x0_0 > 18
      · rw [if_pos hc3] at h
        refine we_known (t := 15) (b := decide (x0_0 > 18)) (v := true) (by kernel_rfl) (decide_eq_true hc3) ?_
        refine we_true (by kernel_rfl) ?_
        refine we_seq fun K7 hK7 => ?_
        refine we_region [(0, 0), (1, 0), (2, 1), (3, 0), (4, 0)] rfl ?_
        refine ge_batch [0, 1] (ans := [.val (.int .i64 x0_0), .val (.int .i64 x0_1), .val (.int .i64 x0_2)]) (vs := [(17, .bool x1), (16, .agg #[.int .i64 x0_0, .int .i64 x0_1, .int .i64 x0_2])]) (l := [.loaded ⟨b1, 0, none⟩ (.int .i64 x0_0), .loaded ⟨b1, 1, none⟩ (.int .i64 x0_1), .loaded ⟨b1, 2, none⟩ (.int .i64 x0_2)]) (by kernel_rfl) ⟨hS3.cell 0 rfl rfl, hS3.cell 0 rfl rfl, hS3.cell 0 rfl rfl, trivial⟩ ?_
        refine ge_call (d := some 18) (f := 12) (args := #[.agg #[.int .i64 x0_0, .int .i64 x0_1, .int .i64 x0_2], .bool x1]) (by kernel_rfl) (Cost_ok x0_0 x0_1 x0_2 x1 _ _ rfl) ?_
        rintro _ w4 ⟨rfl, hS7⟩
        refine ⟨_, rfl, hS7.below, ?_⟩
        have hS8 : St w0 w4 [Own.blk b1 (.cells #[.int .i64 x0_0, .int .i64 x0_1, .int .i64 x0_2] 29 (0, 0))] := hS3.call hS7
        refine ge_batch [3, 4] (ans := []) (vs := [(4, .bool ((Cost.f x0_0 x0_1 x0_2 x1) == 1)), (19, .bool ((Cost.f x0_0 x0_1 x0_2 x1) == 1))]) (l := []) (by kernel_rfl) trivial ?_
        refine ge_nil fun a hF => hK7 _ _ ?_ a hF
        have hS9 : St w0 w4 [] := hS8.takeN 0
        subst h
        exact we_ret (post_ret (rs := [.tmp 4]) (ans := []) (vs := [.bool ((Cost.f x0_0 x0_1 x0_2 x1) == 1)]) (l := []) rfl (by kernel_rfl) trivial ⟨rfl, hS9⟩)
      · rw [if_neg hc3] at h
        refine we_known (t := 15) (b := decide (x0_0 > 18)) (v := false) (by kernel_rfl) (decide_eq_false hc3) ?_
        refine we_false (by kernel_rfl) ?_
        refine we_skip fun a hF => hK4 _ _ ?_ a hF
        refine we_seq fun K8 hK8 => ?_
        refine we_draws (by kernel_rfl) [(0, 0), (1, 0), (3, 0), (4, 0), (2, 1), (5, 1), (6, 0), (7, 0)] (by kernel_rfl) ?_
        have hS10 : St w0 w2.drew [Own.blk b1 (.cells #[.int .i64 x0_0, .int .i64 x0_1, .int .i64 x0_2] 29 (0, 0))] := hS3.drew
        refine ge_batch [0, 1, 3, 4] (ans := [.val (.int .i64 x0_0), .val (.int .i64 x0_1), .val (.int .i64 x0_2), .val (.int .i64 x0_0), .val (.int .i64 x0_1), .val (.int .i64 x0_2)]) (vs := [(24, .bool x1), (23, .agg #[.int .i64 x0_0, .int .i64 x0_1, .int .i64 x0_2]), (21, .bool x1), (20, .agg #[.int .i64 x0_0, .int .i64 x0_1, .int .i64 x0_2])]) (l := [.loaded ⟨b1, 0, none⟩ (.int .i64 x0_0), .loaded ⟨b1, 1, none⟩ (.int .i64 x0_1), .loaded ⟨b1, 2, none⟩ (.int .i64 x0_2), .loaded ⟨b1, 0, none⟩ (.int .i64 x0_0), .loaded ⟨b1, 1, none⟩ (.int .i64 x0_1), .loaded ⟨b1, 2, none⟩ (.int .i64 x0_2)]) (by kernel_rfl) ⟨hS10.cell 0 rfl rfl, hS10.cell 0 rfl rfl, hS10.cell 0 rfl rfl, hS10.cell 0 rfl rfl, hS10.cell 0 rfl rfl, hS10.cell 0 rfl rfl, trivial⟩ ?_
        refine ge_call (d := some 22) (f := 12) (args := #[.agg #[.int .i64 x0_0, .int .i64 x0_1, .int .i64 x0_2], .bool x1]) (by kernel_rfl) (Cost_ok x0_0 x0_1 x0_2 x1 _ _ rfl) ?_
        rintro _ w5 ⟨rfl, hS11⟩
        refine ⟨_, rfl, hS11.below, ?_⟩
        have hS12 : St w0 w5 [Own.blk b1 (.cells #[.int .i64 x0_0, .int .i64 x0_1, .int .i64 x0_2] 29 (0, 0))] := hS10.call hS11
        refine ge_call (d := some 25) (f := 13) (args := #[.agg #[.int .i64 x0_0, .int .i64 x0_1, .int .i64 x0_2], .bool x1]) (by kernel_rfl) (Ticks_ok x0_0 x0_1 x0_2 x1 _ _ rfl) ?_
        rintro _ w6 ⟨rfl, hS13⟩
        refine ⟨_, rfl, hS13.below, ?_⟩
        have hS14 : St w0 w6 [Own.blk b1 (.cells #[.int .i64 x0_0, .int .i64 x0_1, .int .i64 x0_2] 29 (0, 0))] := hS12.call hS13
        refine ge_batch [6, 7] (ans := []) (vs := [(4, .bool ((Cost.f x0_0 x0_1 x0_2 x1) == (Ticks.f x0_0 x0_1 x0_2 x1))), (26, .bool ((Cost.f x0_0 x0_1 x0_2 x1) == (Ticks.f x0_0 x0_1 x0_2 x1)))]) (l := []) (by kernel_rfl) trivial ?_
        refine ge_nil fun a hF => hK8 _ _ ?_ a hF
        have hS15 : St w0 w6 [] := hS14.takeN 0
        subst h
        exact we_ret (post_ret (rs := [.tmp 4]) (ans := []) (vs := [.bool ((Cost.f x0_0 x0_1 x0_2 x1) == (Ticks.f x0_0 x0_1 x0_2 x1))]) (l := []) rfl (by kernel_rfl) trivial ⟨rfl, hS15⟩)
  · rw [if_neg hc1] at h
    refine we_known (t := 7) (b := ((Cost.f 6 0 0 false) != 3)) (v := true) (by kernel_rfl) (bne_iff_ne.2 hc1) ?_
    refine we_true (by kernel_rfl) ?_
    refine we_seq fun K9 hK9 => ?_
    refine we_region [(0, 0)] rfl ?_
    refine ge_batch [0] (ans := []) (vs := [(4, .bool false)]) (l := []) (by kernel_rfl) trivial ?_
    refine ge_nil fun a hF => hK9 _ _ ?_ a hF
    have hS16 : St w0 w2 [] := hS3.takeN 0
    subst h
    exact we_ret (post_ret (rs := [.tmp 4]) (ans := []) (vs := [.bool false]) (l := []) rfl (by kernel_rfl) trivial ⟨rfl, hS16⟩)

end Go.Proofs.Ytnckikjcjgmdlaa.GV
