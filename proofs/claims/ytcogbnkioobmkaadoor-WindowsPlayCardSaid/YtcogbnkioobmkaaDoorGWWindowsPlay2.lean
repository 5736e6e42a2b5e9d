/- Walks of single functions, written by a program of this work. -/
import Derived.Test.YtcogbnkioobmkaaDoorGWWindowsPlay1
namespace Go.Proofs.YtcogbnkioobmkaaDoor.GV
open Go Go.RowKit
set_option linter.unusedVariables false
set_option linter.unusedSimpArgs false
set_option maxRecDepth 100000

/-! punctual/punctuallaw.small -/
abbrev small.Post (w0 : World) (r : Bool) (e : Ending) (w : World) : Prop := e = .returned (.bool r) ∧ St w0 w []
def small.f (x0 : Int) (x1 : Int) : Bool :=
 if x0 ≤ 300 then
  if x1 ≤ 3000 then
   true
  else
   if x0 > 4000 then
    true
   else
    decide (x1 > 20000)
 else
  if x0 > 4000 then
   true
  else
   decide (x1 > 20000)
theorem small_ok (x0 : Int) (x1 : Int) (w0 : World) (r : Bool) (h : small.f x0 x1 = r) :
  Calls Tryd.prog 12 #[vI x0, vI x1] w0 (small.Post w0 r) := by
 have hS := St.start w0
 unfold small.f at h
 refine calls_enter (n := 19) (args := [vI x0, vI x1]) (fn := Tryd.f12) rfl rfl rfl rfl ?_
 show WE _ _ _ _ [(0, vI x0), (1, vI x1)] _
 refine ws fun K1 hK1 => ?_
 refine wr [(0, 0)] ?_
 refine gb0 [0] [(4, .bool false)] ?_
 refine gn hK1 ?_
 refine ws fun K2 hK2 => ?_
 refine wr [(0, 0), (1, 0), (2, 0), (3, 0), (4, 0), (5, 0), (6, 0), (7, 0), (8, 0), (9, 0), (10, 0), (11, 0), (12, 0), (13, 0), (14, 0)] ?_
 refine gb0 [0, 1, 2] [(7, .bool (decide (x0 ≤ 300))), (6, .bool (decide (x0 ≤ 300))), (5, vI x0)] ?_
 by_cases hc1 : x0 ≤ 300
 ·rw [if_pos hc1] at h
  refine gk 7 (decide (x0 ≤ 300)) true (decide_eq_true hc1) ?_
  refine gb0 [3, 4, 5, 6] [(11, .bool (decide (x1 ≤ 3000))), (10, .bool (decide (x1 ≤ 3000))), (9, .bool (decide (x1 ≤ 3000))), (8, vI x1)] ?_
  by_cases hc2 : x1 ≤ 3000
  ·rw [if_pos hc2] at h
   refine gk 11 (decide (x1 ≤ 3000)) true (decide_eq_true hc2) ?_
   refine gb0 [7, 8, 9, 10, 11, 12, 13, 14] [(4, .bool true), (18, .bool true), (17, undef), (16, undef), (15, .bool true), (14, .bool true), (13, undef), (12, undef)] ?_
   refine gn hK2 ?_
   subst h
   exact we_ret (pr0 [.tmp 4] [.bool true] ⟨rfl, hS⟩)
  ·rw [if_neg hc2] at h
   refine gk 11 (decide (x1 ≤ 3000)) false (decide_eq_false hc2) ?_
   refine gb0 [7, 8, 9, 10] [(15, .bool (decide (x0 > 4000))), (14, .bool (decide (x0 > 4000))), (13, .bool (decide (x0 > 4000))), (12, vI x0)] ?_
   by_cases hc3 : x0 > 4000
   ·rw [if_pos hc3] at h
    refine gk 15 (decide (x0 > 4000)) true (decide_eq_true hc3) ?_
    refine gb0 [11, 12, 13, 14] [(4, .bool true), (18, .bool true), (17, undef), (16, undef)] ?_
    refine gn hK2 ?_
    subst h
    exact we_ret (pr0 [.tmp 4] [.bool true] ⟨rfl, hS⟩)
   ·rw [if_neg hc3] at h
    refine gk 15 (decide (x0 > 4000)) false (decide_eq_false hc3) ?_
    refine gb0 [11, 12, 13, 14] [(4, .bool (decide (x1 > 20000))), (18, .bool (decide (x1 > 20000))), (17, .bool (decide (x1 > 20000))), (16, vI x1)] ?_
    refine gn hK2 ?_
    subst h
    exact we_ret (pr0 [.tmp 4] [.bool (decide (x1 > 20000))] ⟨rfl, hS⟩)
 ·rw [if_neg hc1] at h
  refine gk 7 (decide (x0 ≤ 300)) false (decide_eq_false hc1) ?_
  refine gb0 [3, 4, 5, 6, 7, 8, 9, 10] [(15, .bool (decide (x0 > 4000))), (14, .bool (decide (x0 > 4000))), (13, .bool (decide (x0 > 4000))), (12, vI x0), (11, .bool false), (10, .bool false), (9, undef), (8, undef)] ?_
  by_cases hc4 : x0 > 4000
  ·rw [if_pos hc4] at h
   refine gk 15 (decide (x0 > 4000)) true (decide_eq_true hc4) ?_
   refine gb0 [11, 12, 13, 14] [(4, .bool true), (18, .bool true), (17, undef), (16, undef)] ?_
   refine gn hK2 ?_
   subst h
   exact we_ret (pr0 [.tmp 4] [.bool true] ⟨rfl, hS⟩)
  ·rw [if_neg hc4] at h
   refine gk 15 (decide (x0 > 4000)) false (decide_eq_false hc4) ?_
   refine gb0 [11, 12, 13, 14] [(4, .bool (decide (x1 > 20000))), (18, .bool (decide (x1 > 20000))), (17, .bool (decide (x1 > 20000))), (16, vI x1)] ?_
   refine gn hK2 ?_
   subst h
   exact we_ret (pr0 [.tmp 4] [.bool (decide (x1 > 20000))] ⟨rfl, hS⟩)

/-! punctual/punctualsame.Lend[punctual/api.Task] -/
abbrev punctualsame_Lend_api_Task.Post (w0 : World) (n : Nat) (r : List STask) (e : Ending) (w : World) : Prop := ∃ (A : Option Addr) (c : Nat), e = .returned (.slice A n c) ∧ r.length ≤ c ∧ St w0 w [Own.of (.slice A r.length c) 51 r]
def punctualsame_Lend_api_Task.f (l0 : List STask) (x1 : STask) : Option (List STask) :=
 if 0 ≤ (IntKind.i64.wrap ((l0.length : Int) + 3)) then
  if ((IntKind.i64.wrap ((l0.length : Int) + 3)).toNat) ≤ 2199023255552 then
   if (List.replicate 0 (⟨⟨#[]⟩, 0, 0, 0, 0, 0, 0⟩ : STask)).length + l0.length ≤ 2199023255552 then
    if ((List.replicate 0 (⟨⟨#[]⟩, 0, 0, 0, 0, 0, 0⟩ : STask)) ++ l0).length + 3 ≤ 2199023255552 then
     some (((List.replicate 0 (⟨⟨#[]⟩, 0, 0, 0, 0, 0, 0⟩ : STask)) ++ l0) ++ ([x1, x1, x1] : List STask))
    else
     none
   else
    none
  else
   none
 else
  none
theorem punctualsame_Lend_api_Task_ok (l0 : List STask) (A0 : Option Addr) (c0 : Nat) (x1 : STask) (w0 : World) (hR0 : RdL w0 A0 l0) (hL0 : l0.length ≤ c0) (r : List STask) (h : punctualsame_Lend_api_Task.f l0 x1 = some r) :
  Calls Tryd.prog 23 #[.slice A0 l0.length c0, .agg #[.string x1.Name, vI x1.C, vI x1.T, vI x1.D, vI x1.J, vI x1.O, vI x1.P]] w0 (punctualsame_Lend_api_Task.Post w0 l0.length r) := by
 have hS := St.start w0
 unfold punctualsame_Lend_api_Task.f at h
 refine calls_enter (n := 21) (args := [.slice A0 l0.length c0, .agg #[.string x1.Name, vI x1.C, vI x1.T, vI x1.D, vI x1.J, vI x1.O, vI x1.P]]) (fn := Tryd.f23) rfl rfl rfl rfl ?_
 show WE _ _ _ _ [(0, .slice A0 l0.length c0), (1, .agg #[.string x1.Name, vI x1.C, vI x1.T, vI x1.D, vI x1.J, vI x1.O, vI x1.P])] _
 refine ws fun K1 hK1 => ?_
 refine wr [(0, 1), (1, 0)] ?_
 refine gw (some 3) (.cells #[.string x1.Name, vI x1.C, vI x1.T, vI x1.D, vI x1.J, vI x1.O, vI x1.P] 51) (fun b => pP b 0) hS fun b1 w1 hx1 hS1 => ?_
 refine gb0 [1] [(4, .slice none 0 0)] ?_
 refine gn hK1 ?_
 refine ws fun K2 hK2 => ?_
 refine we_orders2 (by kernel_rfl) [(6, [⟨b1, 0, none⟩, ⟨b1, 1, none⟩, ⟨b1, 2, none⟩, ⟨b1, 3, none⟩, ⟨b1, 4, none⟩, ⟨b1, 5, none⟩, ⟨b1, 6, none⟩]), (7, [⟨b1, 0, none⟩, ⟨b1, 1, none⟩, ⟨b1, 2, none⟩, ⟨b1, 3, none⟩, ⟨b1, 4, none⟩, ⟨b1, 5, none⟩, ⟨b1, 6, none⟩]), (8, [⟨b1, 0, none⟩, ⟨b1, 1, none⟩, ⟨b1, 2, none⟩, ⟨b1, 3, none⟩, ⟨b1, 4, none⟩, ⟨b1, 5, none⟩, ⟨b1, 6, none⟩])] (.vals [0] (.vals [1] (.vals [2] (.vals [4] (.vals [6] (.vals [7] (.vals [8] (.alt 3 1 (.alt 5 2 (.alt 9 1 (.alt 10 2 (.vals [11] .fin) .nomore) .nomore) (.alt 9 1 (.alt 5 2 (.alt 10 2 (.vals [11] .fin) .nomore) .nomore) .nomore)) (.alt 9 1 (.alt 3 1 (.alt 5 2 (.alt 10 2 (.vals [11] .fin) .nomore) .nomore) .nomore) .nomore))))))))) (by kernel_rfl) ?_
 have hS2 := hS1.drew
 refine go2_batch [0, 1, 2, 4] (ans := []) (vs := [(10, .slice A0 l0.length c0), (8, vI (IntKind.i64.wrap ((l0.length : Int) + 3))), (7, vI (l0.length : Int)), (6, .slice A0 l0.length c0)]) (l := []) (by kernel_rfl) trivial mem_nil ?_
 refine go2_batch [6] (ans := [.val (.string x1.Name), .val (vI x1.C), .val (vI x1.T), .val (vI x1.D), .val (vI x1.J), .val (vI x1.O), .val (vI x1.P)]) (vs := [(12, .agg #[.string x1.Name, vI x1.C, vI x1.T, vI x1.D, vI x1.J, vI x1.O, vI x1.P])]) (l := [.loaded ⟨b1, 0, none⟩ (.string x1.Name), .loaded ⟨b1, 1, none⟩ (vI x1.C), .loaded ⟨b1, 2, none⟩ (vI x1.T), .loaded ⟨b1, 3, none⟩ (vI x1.D), .loaded ⟨b1, 4, none⟩ (vI x1.J), .loaded ⟨b1, 5, none⟩ (vI x1.O), .loaded ⟨b1, 6, none⟩ (vI x1.P)]) (by kernel_rfl) ⟨hS2.c 0, hS2.c 0, hS2.c 0, hS2.c 0, hS2.c 0, hS2.c 0, hS2.c 0, trivial⟩ (mem_one (by kernel_rfl)) ?_
 refine go2_batch [7] (ans := [.val (.string x1.Name), .val (vI x1.C), .val (vI x1.T), .val (vI x1.D), .val (vI x1.J), .val (vI x1.O), .val (vI x1.P)]) (vs := [(13, .agg #[.string x1.Name, vI x1.C, vI x1.T, vI x1.D, vI x1.J, vI x1.O, vI x1.P])]) (l := [.loaded ⟨b1, 0, none⟩ (.string x1.Name), .loaded ⟨b1, 1, none⟩ (vI x1.C), .loaded ⟨b1, 2, none⟩ (vI x1.T), .loaded ⟨b1, 3, none⟩ (vI x1.D), .loaded ⟨b1, 4, none⟩ (vI x1.J), .loaded ⟨b1, 5, none⟩ (vI x1.O), .loaded ⟨b1, 6, none⟩ (vI x1.P)]) (by kernel_rfl) ⟨hS2.c 0, hS2.c 0, hS2.c 0, hS2.c 0, hS2.c 0, hS2.c 0, hS2.c 0, trivial⟩ (mem_one (by kernel_rfl)) ?_
 refine go2_batch [8] (ans := [.val (.string x1.Name), .val (vI x1.C), .val (vI x1.T), .val (vI x1.D), .val (vI x1.J), .val (vI x1.O), .val (vI x1.P)]) (vs := [(14, .agg #[.string x1.Name, vI x1.C, vI x1.T, vI x1.D, vI x1.J, vI x1.O, vI x1.P])]) (l := [.loaded ⟨b1, 0, none⟩ (.string x1.Name), .loaded ⟨b1, 1, none⟩ (vI x1.C), .loaded ⟨b1, 2, none⟩ (vI x1.T), .loaded ⟨b1, 3, none⟩ (vI x1.D), .loaded ⟨b1, 4, none⟩ (vI x1.J), .loaded ⟨b1, 5, none⟩ (vI x1.O), .loaded ⟨b1, 6, none⟩ (vI x1.P)]) (by kernel_rfl) ⟨hS2.c 0, hS2.c 0, hS2.c 0, hS2.c 0, hS2.c 0, hS2.c 0, hS2.c 0, trivial⟩ (mem_one (by kernel_rfl)) ?_
 by_cases hc1 : 0 ≤ (IntKind.i64.wrap ((l0.length : Int) + 3))
 ·rw [if_pos hc1] at h
  by_cases hc2 : ((IntKind.i64.wrap ((l0.length : Int) + 3)).toNat) ≤ 2199023255552
  ·rw [if_pos hc2] at h
   refine go_alt2 (fun KK hKK => ?_) ?_
   ·refine ge_one2 ?_
    refine ge_make (α := STask) (d := 9) (t := 47) (el := 51) (bytes := 64) (l := 0) (c := ((IntKind.i64.wrap ((l0.length : Int) + 3)).toNat)) (x := (.const (vI 0))) (y := (.tmp 8)) (ty := 47) (k1 := .i64) (k2 := .i64) (li := 0) (ci := (IntKind.i64.wrap ((l0.length : Int) + 3))) (z := .agg #[.string (⟨#[]⟩), vI 0, vI 0, vI 0, vI 0, vI 0, vI 0]) (z' := (⟨⟨#[]⟩, 0, 0, 0, 0, 0, 0⟩ : STask)) (by kernel_rfl) (by kernel_rfl) (by kernel_rfl) rfl (Int.toNat_of_nonneg hc1).symm (by kernel_rfl) (by kernel_rfl) rfl hS2 (Nat.zero_le _) rfl (by omega) fun v1 w2 _ hS3 => ?_
    refine ge_nil fun a hF => hKK _ _ (RS.of2 (l := [.loaded ⟨b1, 0, none⟩ (.string x1.Name), .loaded ⟨b1, 1, none⟩ (vI x1.C), .loaded ⟨b1, 2, none⟩ (vI x1.T), .loaded ⟨b1, 3, none⟩ (vI x1.D), .loaded ⟨b1, 4, none⟩ (vI x1.J), .loaded ⟨b1, 5, none⟩ (vI x1.O), .loaded ⟨b1, 6, none⟩ (vI x1.P), .loaded ⟨b1, 0, none⟩ (.string x1.Name), .loaded ⟨b1, 1, none⟩ (vI x1.C), .loaded ⟨b1, 2, none⟩ (vI x1.T), .loaded ⟨b1, 3, none⟩ (vI x1.D), .loaded ⟨b1, 4, none⟩ (vI x1.J), .loaded ⟨b1, 5, none⟩ (vI x1.O), .loaded ⟨b1, 6, none⟩ (vI x1.P), .loaded ⟨b1, 0, none⟩ (.string x1.Name), .loaded ⟨b1, 1, none⟩ (vI x1.C), .loaded ⟨b1, 2, none⟩ (vI x1.T), .loaded ⟨b1, 3, none⟩ (vI x1.D), .loaded ⟨b1, 4, none⟩ (vI x1.J), .loaded ⟨b1, 5, none⟩ (vI x1.O), .loaded ⟨b1, 6, none⟩ (vI x1.P)]) (by kernel_rfl) ⟨hS2.c 0, hS2.c 0, hS2.c 0, hS2.c 0, hS2.c 0, hS2.c 0, hS2.c 0, hS2.c 0, hS2.c 0, hS2.c 0, hS2.c 0, hS2.c 0, hS2.c 0, hS2.c 0, hS2.c 0, hS2.c 0, hS2.c 0, hS2.c 0, hS2.c 0, hS2.c 0, hS2.c 0, trivial⟩ ⟨hS3.c 1, hS3.c 1, hS3.c 1, hS3.c 1, hS3.c 1, hS3.c 1, hS3.c 1, hS3.c 1, hS3.c 1, hS3.c 1, hS3.c 1, hS3.c 1, hS3.c 1, hS3.c 1, hS3.c 1, hS3.c 1, hS3.c 1, hS3.c 1, hS3.c 1, hS3.c 1, hS3.c 1, trivial⟩) ?_ a hF
    refine go_alt2 (fun KK hKK => ?_) ?_
    ·by_cases hc3 : (List.replicate 0 (⟨⟨#[]⟩, 0, 0, 0, 0, 0, 0⟩ : STask)).length + l0.length ≤ 2199023255552
     ·rw [if_pos hc3] at h
      refine ge_appendL (α := STask) (m := 0) (d := 11) (t := 47) (el := 51) (bytes := 64) (c1 := c0) (A1 := A0) (x := (.tmp 9)) (y := (.tmp 10)) (ty := 47) (v := v1) (z := .agg #[.string (⟨#[]⟩), vI 0, vI 0, vI 0, vI 0, vI 0, vI 0]) (l := (List.replicate 0 (⟨⟨#[]⟩, 0, 0, 0, 0, 0, 0⟩ : STask))) (us := l0) (by kernel_rfl) (by kernel_rfl) (by kernel_rfl) (by kernel_rfl) (by kernel_rfl) rfl hS3 (hS3.rd hR0) rfl (Nat.mul_le_of_le_div _ _ _ hc3) fun v2 w3 hS4 => ?_
      have hS5 : St w0 w3 [Own.of v2 51 ((List.replicate 0 (⟨⟨#[]⟩, 0, 0, 0, 0, 0, 0⟩ : STask)) ++ l0), Own.blk b1 (.cells #[.string x1.Name, vI x1.C, vI x1.T, vI x1.D, vI x1.J, vI x1.O, vI x1.P] 51 (0, 0))] := hS4
      refine ge_nil fun a hF => hKK _ _ (RS.of2 (l := [.loaded ⟨b1, 0, none⟩ (.string x1.Name), .loaded ⟨b1, 1, none⟩ (vI x1.C), .loaded ⟨b1, 2, none⟩ (vI x1.T), .loaded ⟨b1, 3, none⟩ (vI x1.D), .loaded ⟨b1, 4, none⟩ (vI x1.J), .loaded ⟨b1, 5, none⟩ (vI x1.O), .loaded ⟨b1, 6, none⟩ (vI x1.P), .loaded ⟨b1, 0, none⟩ (.string x1.Name), .loaded ⟨b1, 1, none⟩ (vI x1.C), .loaded ⟨b1, 2, none⟩ (vI x1.T), .loaded ⟨b1, 3, none⟩ (vI x1.D), .loaded ⟨b1, 4, none⟩ (vI x1.J), .loaded ⟨b1, 5, none⟩ (vI x1.O), .loaded ⟨b1, 6, none⟩ (vI x1.P), .loaded ⟨b1, 0, none⟩ (.string x1.Name), .loaded ⟨b1, 1, none⟩ (vI x1.C), .loaded ⟨b1, 2, none⟩ (vI x1.T), .loaded ⟨b1, 3, none⟩ (vI x1.D), .loaded ⟨b1, 4, none⟩ (vI x1.J), .loaded ⟨b1, 5, none⟩ (vI x1.O), .loaded ⟨b1, 6, none⟩ (vI x1.P)]) (by kernel_rfl) ⟨hS3.c 1, hS3.c 1, hS3.c 1, hS3.c 1, hS3.c 1, hS3.c 1, hS3.c 1, hS3.c 1, hS3.c 1, hS3.c 1, hS3.c 1, hS3.c 1, hS3.c 1, hS3.c 1, hS3.c 1, hS3.c 1, hS3.c 1, hS3.c 1, hS3.c 1, hS3.c 1, hS3.c 1, trivial⟩ ⟨hS5.c 1, hS5.c 1, hS5.c 1, hS5.c 1, hS5.c 1, hS5.c 1, hS5.c 1, hS5.c 1, hS5.c 1, hS5.c 1, hS5.c 1, hS5.c 1, hS5.c 1, hS5.c 1, hS5.c 1, hS5.c 1, hS5.c 1, hS5.c 1, hS5.c 1, hS5.c 1, hS5.c 1, trivial⟩) ?_ a hF
      refine go_alt2 (fun KK hKK => ?_) ?_
      ·refine ge_one2 ?_
       refine gw (some 15) (.cells #[.string x1.Name, vI x1.C, vI x1.T, vI x1.D, vI x1.J, vI x1.O, vI x1.P, .string x1.Name, vI x1.C, vI x1.T, vI x1.D, vI x1.J, vI x1.O, vI x1.P, .string x1.Name, vI x1.C, vI x1.T, vI x1.D, vI x1.J, vI x1.O, vI x1.P] 51) (fun b => .slice (some ⟨b, 0, none⟩) 3 3) hS5 fun b2 w4 hx2 hS6 => ?_
       refine ge_nil fun a hF => hKK _ _ (RS.of2 (l := []) (by kernel_rfl) trivial trivial) ?_ a hF
       refine go_alt2 (fun KK hKK => ?_) ?_
       ·have hS7 := hS6.bring 1 rfl
        by_cases hc4 : ((List.replicate 0 (⟨⟨#[]⟩, 0, 0, 0, 0, 0, 0⟩ : STask)) ++ l0).length + 3 ≤ 2199023255552
        ·rw [if_pos hc4] at h
         refine ge_appendL (α := STask) (m := 0) (d := 16) (t := 47) (el := 51) (bytes := 64) (c1 := 3) (A1 := (some ⟨b2, 0, none⟩)) (x := (.tmp 11)) (y := (.tmp 15)) (ty := 47) (v := v2) (z := .agg #[.string (⟨#[]⟩), vI 0, vI 0, vI 0, vI 0, vI 0, vI 0]) (l := ((List.replicate 0 (⟨⟨#[]⟩, 0, 0, 0, 0, 0, 0⟩ : STask)) ++ l0)) (us := ([x1, x1, x1] : List STask)) (by kernel_rfl) (by kernel_rfl) (by kernel_rfl) (by kernel_rfl) (by kernel_rfl) rfl hS7 (hS7.rdBlk 1 ([x1, x1, x1] : List STask) rfl rfl rfl) rfl (Nat.mul_le_of_le_div _ _ _ hc4) fun v3 w5 hS8 => ?_
         have hS9 : St w0 w5 [Own.of v3 51 (((List.replicate 0 (⟨⟨#[]⟩, 0, 0, 0, 0, 0, 0⟩ : STask)) ++ l0) ++ ([x1, x1, x1] : List STask)), Own.blk b2 (.cells #[.string x1.Name, vI x1.C, vI x1.T, vI x1.D, vI x1.J, vI x1.O, vI x1.P, .string x1.Name, vI x1.C, vI x1.T, vI x1.D, vI x1.J, vI x1.O, vI x1.P, .string x1.Name, vI x1.C, vI x1.T, vI x1.D, vI x1.J, vI x1.O, vI x1.P] 51 (0, 0)), Own.blk b1 (.cells #[.string x1.Name, vI x1.C, vI x1.T, vI x1.D, vI x1.J, vI x1.O, vI x1.P] 51 (0, 0))] := hS8
         refine ge_nil fun a hF => hKK _ _ (RS.of2 (l := [.loaded ⟨b1, 0, none⟩ (.string x1.Name), .loaded ⟨b1, 1, none⟩ (vI x1.C), .loaded ⟨b1, 2, none⟩ (vI x1.T), .loaded ⟨b1, 3, none⟩ (vI x1.D), .loaded ⟨b1, 4, none⟩ (vI x1.J), .loaded ⟨b1, 5, none⟩ (vI x1.O), .loaded ⟨b1, 6, none⟩ (vI x1.P), .loaded ⟨b1, 0, none⟩ (.string x1.Name), .loaded ⟨b1, 1, none⟩ (vI x1.C), .loaded ⟨b1, 2, none⟩ (vI x1.T), .loaded ⟨b1, 3, none⟩ (vI x1.D), .loaded ⟨b1, 4, none⟩ (vI x1.J), .loaded ⟨b1, 5, none⟩ (vI x1.O), .loaded ⟨b1, 6, none⟩ (vI x1.P), .loaded ⟨b1, 0, none⟩ (.string x1.Name), .loaded ⟨b1, 1, none⟩ (vI x1.C), .loaded ⟨b1, 2, none⟩ (vI x1.T), .loaded ⟨b1, 3, none⟩ (vI x1.D), .loaded ⟨b1, 4, none⟩ (vI x1.J), .loaded ⟨b1, 5, none⟩ (vI x1.O), .loaded ⟨b1, 6, none⟩ (vI x1.P)]) (by kernel_rfl) ⟨hS6.c 2, hS6.c 2, hS6.c 2, hS6.c 2, hS6.c 2, hS6.c 2, hS6.c 2, hS6.c 2, hS6.c 2, hS6.c 2, hS6.c 2, hS6.c 2, hS6.c 2, hS6.c 2, hS6.c 2, hS6.c 2, hS6.c 2, hS6.c 2, hS6.c 2, hS6.c 2, hS6.c 2, trivial⟩ ⟨hS9.c 2, hS9.c 2, hS9.c 2, hS9.c 2, hS9.c 2, hS9.c 2, hS9.c 2, hS9.c 2, hS9.c 2, hS9.c 2, hS9.c 2, hS9.c 2, hS9.c 2, hS9.c 2, hS9.c 2, hS9.c 2, hS9.c 2, hS9.c 2, hS9.c 2, hS9.c 2, hS9.c 2, trivial⟩) ?_ a hF
         refine go2_batch [11] (ans := []) (vs := [(5, v3)]) (l := []) (by kernel_rfl) trivial mem_nil ?_
         refine go_fin2 fun a hF => hK2 _ _ ?_ a hF
         refine ws fun K3 hK3 => ?_
         refine wr [(0, 0), (1, 0), (2, 0), (3, 0), (4, 0)] ?_
         refine gb0 [0, 1, 2] [(19, vI (l0.length : Int)), (18, .slice A0 l0.length c0), (17, v3)] ?_
         obtain ⟨Z1, cz1, rfl, hcp1⟩ := hS9.open2 0 rfl
         refine ge_sliceHi (d := 20) (ty := 47) (t := 47) (el := 51) (sz := 7) (m := ((((List.replicate 0 (⟨⟨#[]⟩, 0, 0, 0, 0, 0, 0⟩ : STask)) ++ l0) ++ ([x1, x1, x1] : List STask)).length)) (c := cz1) (hn := l0.length) (x := (.tmp 17)) (y := (.tmp 19)) (A := Z1) (k' := .i64) (hi := (l0.length : Int)) (by kernel_rfl) (by kernel_rfl) (by kernel_rfl) rfl (by kernel_rfl) (by kernel_rfl) (by have h0 := hcp1; simp only [List.length_append, List.length_cons, List.length_nil] at h0; omega) ?_
         refine gb0 [4] [(4, .slice Z1 l0.length cz1)] ?_
         refine gn hK3 ?_
         have hS10 := hS9.takeN 1
         obtain rfl := si h
         exact we_ret (pr0 [.tmp 4] [.slice Z1 l0.length cz1] ⟨Z1, cz1, rfl, hcp1, hS10⟩)
        ·rw [if_neg hc4] at h
         cases h
       exact go_nomore2
      exact go_nomore2
     ·rw [if_neg hc3] at h
      cases h
    refine go_alt2 (fun KK hKK => ?_) ?_
    ·refine ge_one2 ?_
     refine gw (some 15) (.cells #[.string x1.Name, vI x1.C, vI x1.T, vI x1.D, vI x1.J, vI x1.O, vI x1.P, .string x1.Name, vI x1.C, vI x1.T, vI x1.D, vI x1.J, vI x1.O, vI x1.P, .string x1.Name, vI x1.C, vI x1.T, vI x1.D, vI x1.J, vI x1.O, vI x1.P] 51) (fun b => .slice (some ⟨b, 0, none⟩) 3 3) hS3 fun b2 w3 hx2 hS4 => ?_
     refine ge_nil fun a hF => hKK _ _ (RS.of2 (l := []) (by kernel_rfl) trivial trivial) ?_ a hF
     refine go_alt2 (fun KK hKK => ?_) ?_
     ·have hS5 := hS4.bring 1 rfl
      by_cases hc3 : (List.replicate 0 (⟨⟨#[]⟩, 0, 0, 0, 0, 0, 0⟩ : STask)).length + l0.length ≤ 2199023255552
      ·rw [if_pos hc3] at h
       refine ge_appendL (α := STask) (m := 0) (d := 11) (t := 47) (el := 51) (bytes := 64) (c1 := c0) (A1 := A0) (x := (.tmp 9)) (y := (.tmp 10)) (ty := 47) (v := v1) (z := .agg #[.string (⟨#[]⟩), vI 0, vI 0, vI 0, vI 0, vI 0, vI 0]) (l := (List.replicate 0 (⟨⟨#[]⟩, 0, 0, 0, 0, 0, 0⟩ : STask))) (us := l0) (by kernel_rfl) (by kernel_rfl) (by kernel_rfl) (by kernel_rfl) (by kernel_rfl) rfl hS5 (hS5.rd hR0) rfl (Nat.mul_le_of_le_div _ _ _ hc3) fun v2 w4 hS6 => ?_
       have hS7 : St w0 w4 [Own.of v2 51 ((List.replicate 0 (⟨⟨#[]⟩, 0, 0, 0, 0, 0, 0⟩ : STask)) ++ l0), Own.blk b2 (.cells #[.string x1.Name, vI x1.C, vI x1.T, vI x1.D, vI x1.J, vI x1.O, vI x1.P, .string x1.Name, vI x1.C, vI x1.T, vI x1.D, vI x1.J, vI x1.O, vI x1.P, .string x1.Name, vI x1.C, vI x1.T, vI x1.D, vI x1.J, vI x1.O, vI x1.P] 51 (0, 0)), Own.blk b1 (.cells #[.string x1.Name, vI x1.C, vI x1.T, vI x1.D, vI x1.J, vI x1.O, vI x1.P] 51 (0, 0))] := hS6
       refine ge_nil fun a hF => hKK _ _ (RS.of2 (l := [.loaded ⟨b1, 0, none⟩ (.string x1.Name), .loaded ⟨b1, 1, none⟩ (vI x1.C), .loaded ⟨b1, 2, none⟩ (vI x1.T), .loaded ⟨b1, 3, none⟩ (vI x1.D), .loaded ⟨b1, 4, none⟩ (vI x1.J), .loaded ⟨b1, 5, none⟩ (vI x1.O), .loaded ⟨b1, 6, none⟩ (vI x1.P), .loaded ⟨b1, 0, none⟩ (.string x1.Name), .loaded ⟨b1, 1, none⟩ (vI x1.C), .loaded ⟨b1, 2, none⟩ (vI x1.T), .loaded ⟨b1, 3, none⟩ (vI x1.D), .loaded ⟨b1, 4, none⟩ (vI x1.J), .loaded ⟨b1, 5, none⟩ (vI x1.O), .loaded ⟨b1, 6, none⟩ (vI x1.P), .loaded ⟨b1, 0, none⟩ (.string x1.Name), .loaded ⟨b1, 1, none⟩ (vI x1.C), .loaded ⟨b1, 2, none⟩ (vI x1.T), .loaded ⟨b1, 3, none⟩ (vI x1.D), .loaded ⟨b1, 4, none⟩ (vI x1.J), .loaded ⟨b1, 5, none⟩ (vI x1.O), .loaded ⟨b1, 6, none⟩ (vI x1.P)]) (by kernel_rfl) ⟨hS4.c 2, hS4.c 2, hS4.c 2, hS4.c 2, hS4.c 2, hS4.c 2, hS4.c 2, hS4.c 2, hS4.c 2, hS4.c 2, hS4.c 2, hS4.c 2, hS4.c 2, hS4.c 2, hS4.c 2, hS4.c 2, hS4.c 2, hS4.c 2, hS4.c 2, hS4.c 2, hS4.c 2, trivial⟩ ⟨hS7.c 2, hS7.c 2, hS7.c 2, hS7.c 2, hS7.c 2, hS7.c 2, hS7.c 2, hS7.c 2, hS7.c 2, hS7.c 2, hS7.c 2, hS7.c 2, hS7.c 2, hS7.c 2, hS7.c 2, hS7.c 2, hS7.c 2, hS7.c 2, hS7.c 2, hS7.c 2, hS7.c 2, trivial⟩) ?_ a hF
       refine go_alt2 (fun KK hKK => ?_) ?_
       ·by_cases hc4 : ((List.replicate 0 (⟨⟨#[]⟩, 0, 0, 0, 0, 0, 0⟩ : STask)) ++ l0).length + 3 ≤ 2199023255552
        ·rw [if_pos hc4] at h
         refine ge_appendL (α := STask) (m := 0) (d := 16) (t := 47) (el := 51) (bytes := 64) (c1 := 3) (A1 := (some ⟨b2, 0, none⟩)) (x := (.tmp 11)) (y := (.tmp 15)) (ty := 47) (v := v2) (z := .agg #[.string (⟨#[]⟩), vI 0, vI 0, vI 0, vI 0, vI 0, vI 0]) (l := ((List.replicate 0 (⟨⟨#[]⟩, 0, 0, 0, 0, 0, 0⟩ : STask)) ++ l0)) (us := ([x1, x1, x1] : List STask)) (by kernel_rfl) (by kernel_rfl) (by kernel_rfl) (by kernel_rfl) (by kernel_rfl) rfl hS7 (hS7.rdBlk 1 ([x1, x1, x1] : List STask) rfl rfl rfl) rfl (Nat.mul_le_of_le_div _ _ _ hc4) fun v3 w5 hS8 => ?_
         have hS9 : St w0 w5 [Own.of v3 51 (((List.replicate 0 (⟨⟨#[]⟩, 0, 0, 0, 0, 0, 0⟩ : STask)) ++ l0) ++ ([x1, x1, x1] : List STask)), Own.blk b2 (.cells #[.string x1.Name, vI x1.C, vI x1.T, vI x1.D, vI x1.J, vI x1.O, vI x1.P, .string x1.Name, vI x1.C, vI x1.T, vI x1.D, vI x1.J, vI x1.O, vI x1.P, .string x1.Name, vI x1.C, vI x1.T, vI x1.D, vI x1.J, vI x1.O, vI x1.P] 51 (0, 0)), Own.blk b1 (.cells #[.string x1.Name, vI x1.C, vI x1.T, vI x1.D, vI x1.J, vI x1.O, vI x1.P] 51 (0, 0))] := hS8
         refine ge_nil fun a hF => hKK _ _ (RS.of2 (l := [.loaded ⟨b1, 0, none⟩ (.string x1.Name), .loaded ⟨b1, 1, none⟩ (vI x1.C), .loaded ⟨b1, 2, none⟩ (vI x1.T), .loaded ⟨b1, 3, none⟩ (vI x1.D), .loaded ⟨b1, 4, none⟩ (vI x1.J), .loaded ⟨b1, 5, none⟩ (vI x1.O), .loaded ⟨b1, 6, none⟩ (vI x1.P), .loaded ⟨b1, 0, none⟩ (.string x1.Name), .loaded ⟨b1, 1, none⟩ (vI x1.C), .loaded ⟨b1, 2, none⟩ (vI x1.T), .loaded ⟨b1, 3, none⟩ (vI x1.D), .loaded ⟨b1, 4, none⟩ (vI x1.J), .loaded ⟨b1, 5, none⟩ (vI x1.O), .loaded ⟨b1, 6, none⟩ (vI x1.P), .loaded ⟨b1, 0, none⟩ (.string x1.Name), .loaded ⟨b1, 1, none⟩ (vI x1.C), .loaded ⟨b1, 2, none⟩ (vI x1.T), .loaded ⟨b1, 3, none⟩ (vI x1.D), .loaded ⟨b1, 4, none⟩ (vI x1.J), .loaded ⟨b1, 5, none⟩ (vI x1.O), .loaded ⟨b1, 6, none⟩ (vI x1.P)]) (by kernel_rfl) ⟨hS7.c 2, hS7.c 2, hS7.c 2, hS7.c 2, hS7.c 2, hS7.c 2, hS7.c 2, hS7.c 2, hS7.c 2, hS7.c 2, hS7.c 2, hS7.c 2, hS7.c 2, hS7.c 2, hS7.c 2, hS7.c 2, hS7.c 2, hS7.c 2, hS7.c 2, hS7.c 2, hS7.c 2, trivial⟩ ⟨hS9.c 2, hS9.c 2, hS9.c 2, hS9.c 2, hS9.c 2, hS9.c 2, hS9.c 2, hS9.c 2, hS9.c 2, hS9.c 2, hS9.c 2, hS9.c 2, hS9.c 2, hS9.c 2, hS9.c 2, hS9.c 2, hS9.c 2, hS9.c 2, hS9.c 2, hS9.c 2, hS9.c 2, trivial⟩) ?_ a hF
         refine go2_batch [11] (ans := []) (vs := [(5, v3)]) (l := []) (by kernel_rfl) trivial mem_nil ?_
         refine go_fin2 fun a hF => hK2 _ _ ?_ a hF
         refine ws fun K3 hK3 => ?_
         refine wr [(0, 0), (1, 0), (2, 0), (3, 0), (4, 0)] ?_
         refine gb0 [0, 1, 2] [(19, vI (l0.length : Int)), (18, .slice A0 l0.length c0), (17, v3)] ?_
         obtain ⟨Z1, cz1, rfl, hcp1⟩ := hS9.open2 0 rfl
         refine ge_sliceHi (d := 20) (ty := 47) (t := 47) (el := 51) (sz := 7) (m := ((((List.replicate 0 (⟨⟨#[]⟩, 0, 0, 0, 0, 0, 0⟩ : STask)) ++ l0) ++ ([x1, x1, x1] : List STask)).length)) (c := cz1) (hn := l0.length) (x := (.tmp 17)) (y := (.tmp 19)) (A := Z1) (k' := .i64) (hi := (l0.length : Int)) (by kernel_rfl) (by kernel_rfl) (by kernel_rfl) rfl (by kernel_rfl) (by kernel_rfl) (by have h0 := hcp1; simp only [List.length_append, List.length_cons, List.length_nil] at h0; omega) ?_
         refine gb0 [4] [(4, .slice Z1 l0.length cz1)] ?_
         refine gn hK3 ?_
         have hS10 := hS9.takeN 1
         obtain rfl := si h
         exact we_ret (pr0 [.tmp 4] [.slice Z1 l0.length cz1] ⟨Z1, cz1, rfl, hcp1, hS10⟩)
        ·rw [if_neg hc4] at h
         cases h
       exact go_nomore2
      ·rw [if_neg hc3] at h
       cases h
     exact go_nomore2
    exact go_nomore2
   refine go_alt2 (fun KK hKK => ?_) ?_
   ·refine ge_one2 ?_
    refine gw (some 15) (.cells #[.string x1.Name, vI x1.C, vI x1.T, vI x1.D, vI x1.J, vI x1.O, vI x1.P, .string x1.Name, vI x1.C, vI x1.T, vI x1.D, vI x1.J, vI x1.O, vI x1.P, .string x1.Name, vI x1.C, vI x1.T, vI x1.D, vI x1.J, vI x1.O, vI x1.P] 51) (fun b => .slice (some ⟨b, 0, none⟩) 3 3) hS2 fun b2 w2 hx2 hS3 => ?_
    refine ge_nil fun a hF => hKK _ _ (RS.of2 (l := []) (by kernel_rfl) trivial trivial) ?_ a hF
    refine go_alt2 (fun KK hKK => ?_) ?_
    ·refine ge_one2 ?_
     refine ge_make (α := STask) (d := 9) (t := 47) (el := 51) (bytes := 64) (l := 0) (c := ((IntKind.i64.wrap ((l0.length : Int) + 3)).toNat)) (x := (.const (vI 0))) (y := (.tmp 8)) (ty := 47) (k1 := .i64) (k2 := .i64) (li := 0) (ci := (IntKind.i64.wrap ((l0.length : Int) + 3))) (z := .agg #[.string (⟨#[]⟩), vI 0, vI 0, vI 0, vI 0, vI 0, vI 0]) (z' := (⟨⟨#[]⟩, 0, 0, 0, 0, 0, 0⟩ : STask)) (by kernel_rfl) (by kernel_rfl) (by kernel_rfl) rfl (Int.toNat_of_nonneg hc1).symm (by kernel_rfl) (by kernel_rfl) rfl hS3 (Nat.zero_le _) rfl (by omega) fun v1 w3 _ hS4 => ?_
     refine ge_nil fun a hF => hKK _ _ (RS.of2 (l := [.loaded ⟨b1, 0, none⟩ (.string x1.Name), .loaded ⟨b1, 1, none⟩ (vI x1.C), .loaded ⟨b1, 2, none⟩ (vI x1.T), .loaded ⟨b1, 3, none⟩ (vI x1.D), .loaded ⟨b1, 4, none⟩ (vI x1.J), .loaded ⟨b1, 5, none⟩ (vI x1.O), .loaded ⟨b1, 6, none⟩ (vI x1.P), .loaded ⟨b1, 0, none⟩ (.string x1.Name), .loaded ⟨b1, 1, none⟩ (vI x1.C), .loaded ⟨b1, 2, none⟩ (vI x1.T), .loaded ⟨b1, 3, none⟩ (vI x1.D), .loaded ⟨b1, 4, none⟩ (vI x1.J), .loaded ⟨b1, 5, none⟩ (vI x1.O), .loaded ⟨b1, 6, none⟩ (vI x1.P), .loaded ⟨b1, 0, none⟩ (.string x1.Name), .loaded ⟨b1, 1, none⟩ (vI x1.C), .loaded ⟨b1, 2, none⟩ (vI x1.T), .loaded ⟨b1, 3, none⟩ (vI x1.D), .loaded ⟨b1, 4, none⟩ (vI x1.J), .loaded ⟨b1, 5, none⟩ (vI x1.O), .loaded ⟨b1, 6, none⟩ (vI x1.P)]) (by kernel_rfl) ⟨hS3.c 1, hS3.c 1, hS3.c 1, hS3.c 1, hS3.c 1, hS3.c 1, hS3.c 1, hS3.c 1, hS3.c 1, hS3.c 1, hS3.c 1, hS3.c 1, hS3.c 1, hS3.c 1, hS3.c 1, hS3.c 1, hS3.c 1, hS3.c 1, hS3.c 1, hS3.c 1, hS3.c 1, trivial⟩ ⟨hS4.c 2, hS4.c 2, hS4.c 2, hS4.c 2, hS4.c 2, hS4.c 2, hS4.c 2, hS4.c 2, hS4.c 2, hS4.c 2, hS4.c 2, hS4.c 2, hS4.c 2, hS4.c 2, hS4.c 2, hS4.c 2, hS4.c 2, hS4.c 2, hS4.c 2, hS4.c 2, hS4.c 2, trivial⟩) ?_ a hF
     refine go_alt2 (fun KK hKK => ?_) ?_
     ·by_cases hc3 : (List.replicate 0 (⟨⟨#[]⟩, 0, 0, 0, 0, 0, 0⟩ : STask)).length + l0.length ≤ 2199023255552
      ·rw [if_pos hc3] at h
       refine ge_appendL (α := STask) (m := 0) (d := 11) (t := 47) (el := 51) (bytes := 64) (c1 := c0) (A1 := A0) (x := (.tmp 9)) (y := (.tmp 10)) (ty := 47) (v := v1) (z := .agg #[.string (⟨#[]⟩), vI 0, vI 0, vI 0, vI 0, vI 0, vI 0]) (l := (List.replicate 0 (⟨⟨#[]⟩, 0, 0, 0, 0, 0, 0⟩ : STask))) (us := l0) (by kernel_rfl) (by kernel_rfl) (by kernel_rfl) (by kernel_rfl) (by kernel_rfl) rfl hS4 (hS4.rd hR0) rfl (Nat.mul_le_of_le_div _ _ _ hc3) fun v2 w4 hS5 => ?_
       have hS6 : St w0 w4 [Own.of v2 51 ((List.replicate 0 (⟨⟨#[]⟩, 0, 0, 0, 0, 0, 0⟩ : STask)) ++ l0), Own.blk b2 (.cells #[.string x1.Name, vI x1.C, vI x1.T, vI x1.D, vI x1.J, vI x1.O, vI x1.P, .string x1.Name, vI x1.C, vI x1.T, vI x1.D, vI x1.J, vI x1.O, vI x1.P, .string x1.Name, vI x1.C, vI x1.T, vI x1.D, vI x1.J, vI x1.O, vI x1.P] 51 (0, 0)), Own.blk b1 (.cells #[.string x1.Name, vI x1.C, vI x1.T, vI x1.D, vI x1.J, vI x1.O, vI x1.P] 51 (0, 0))] := hS5
       refine ge_nil fun a hF => hKK _ _ (RS.of2 (l := [.loaded ⟨b1, 0, none⟩ (.string x1.Name), .loaded ⟨b1, 1, none⟩ (vI x1.C), .loaded ⟨b1, 2, none⟩ (vI x1.T), .loaded ⟨b1, 3, none⟩ (vI x1.D), .loaded ⟨b1, 4, none⟩ (vI x1.J), .loaded ⟨b1, 5, none⟩ (vI x1.O), .loaded ⟨b1, 6, none⟩ (vI x1.P), .loaded ⟨b1, 0, none⟩ (.string x1.Name), .loaded ⟨b1, 1, none⟩ (vI x1.C), .loaded ⟨b1, 2, none⟩ (vI x1.T), .loaded ⟨b1, 3, none⟩ (vI x1.D), .loaded ⟨b1, 4, none⟩ (vI x1.J), .loaded ⟨b1, 5, none⟩ (vI x1.O), .loaded ⟨b1, 6, none⟩ (vI x1.P), .loaded ⟨b1, 0, none⟩ (.string x1.Name), .loaded ⟨b1, 1, none⟩ (vI x1.C), .loaded ⟨b1, 2, none⟩ (vI x1.T), .loaded ⟨b1, 3, none⟩ (vI x1.D), .loaded ⟨b1, 4, none⟩ (vI x1.J), .loaded ⟨b1, 5, none⟩ (vI x1.O), .loaded ⟨b1, 6, none⟩ (vI x1.P)]) (by kernel_rfl) ⟨hS4.c 2, hS4.c 2, hS4.c 2, hS4.c 2, hS4.c 2, hS4.c 2, hS4.c 2, hS4.c 2, hS4.c 2, hS4.c 2, hS4.c 2, hS4.c 2, hS4.c 2, hS4.c 2, hS4.c 2, hS4.c 2, hS4.c 2, hS4.c 2, hS4.c 2, hS4.c 2, hS4.c 2, trivial⟩ ⟨hS6.c 2, hS6.c 2, hS6.c 2, hS6.c 2, hS6.c 2, hS6.c 2, hS6.c 2, hS6.c 2, hS6.c 2, hS6.c 2, hS6.c 2, hS6.c 2, hS6.c 2, hS6.c 2, hS6.c 2, hS6.c 2, hS6.c 2, hS6.c 2, hS6.c 2, hS6.c 2, hS6.c 2, trivial⟩) ?_ a hF
       refine go_alt2 (fun KK hKK => ?_) ?_
       ·by_cases hc4 : ((List.replicate 0 (⟨⟨#[]⟩, 0, 0, 0, 0, 0, 0⟩ : STask)) ++ l0).length + 3 ≤ 2199023255552
        ·rw [if_pos hc4] at h
         refine ge_appendL (α := STask) (m := 0) (d := 16) (t := 47) (el := 51) (bytes := 64) (c1 := 3) (A1 := (some ⟨b2, 0, none⟩)) (x := (.tmp 11)) (y := (.tmp 15)) (ty := 47) (v := v2) (z := .agg #[.string (⟨#[]⟩), vI 0, vI 0, vI 0, vI 0, vI 0, vI 0]) (l := ((List.replicate 0 (⟨⟨#[]⟩, 0, 0, 0, 0, 0, 0⟩ : STask)) ++ l0)) (us := ([x1, x1, x1] : List STask)) (by kernel_rfl) (by kernel_rfl) (by kernel_rfl) (by kernel_rfl) (by kernel_rfl) rfl hS6 (hS6.rdBlk 1 ([x1, x1, x1] : List STask) rfl rfl rfl) rfl (Nat.mul_le_of_le_div _ _ _ hc4) fun v3 w5 hS7 => ?_
         have hS8 : St w0 w5 [Own.of v3 51 (((List.replicate 0 (⟨⟨#[]⟩, 0, 0, 0, 0, 0, 0⟩ : STask)) ++ l0) ++ ([x1, x1, x1] : List STask)), Own.blk b2 (.cells #[.string x1.Name, vI x1.C, vI x1.T, vI x1.D, vI x1.J, vI x1.O, vI x1.P, .string x1.Name, vI x1.C, vI x1.T, vI x1.D, vI x1.J, vI x1.O, vI x1.P, .string x1.Name, vI x1.C, vI x1.T, vI x1.D, vI x1.J, vI x1.O, vI x1.P] 51 (0, 0)), Own.blk b1 (.cells #[.string x1.Name, vI x1.C, vI x1.T, vI x1.D, vI x1.J, vI x1.O, vI x1.P] 51 (0, 0))] := hS7
         refine ge_nil fun a hF => hKK _ _ (RS.of2 (l := [.loaded ⟨b1, 0, none⟩ (.string x1.Name), .loaded ⟨b1, 1, none⟩ (vI x1.C), .loaded ⟨b1, 2, none⟩ (vI x1.T), .loaded ⟨b1, 3, none⟩ (vI x1.D), .loaded ⟨b1, 4, none⟩ (vI x1.J), .loaded ⟨b1, 5, none⟩ (vI x1.O), .loaded ⟨b1, 6, none⟩ (vI x1.P), .loaded ⟨b1, 0, none⟩ (.string x1.Name), .loaded ⟨b1, 1, none⟩ (vI x1.C), .loaded ⟨b1, 2, none⟩ (vI x1.T), .loaded ⟨b1, 3, none⟩ (vI x1.D), .loaded ⟨b1, 4, none⟩ (vI x1.J), .loaded ⟨b1, 5, none⟩ (vI x1.O), .loaded ⟨b1, 6, none⟩ (vI x1.P), .loaded ⟨b1, 0, none⟩ (.string x1.Name), .loaded ⟨b1, 1, none⟩ (vI x1.C), .loaded ⟨b1, 2, none⟩ (vI x1.T), .loaded ⟨b1, 3, none⟩ (vI x1.D), .loaded ⟨b1, 4, none⟩ (vI x1.J), .loaded ⟨b1, 5, none⟩ (vI x1.O), .loaded ⟨b1, 6, none⟩ (vI x1.P)]) (by kernel_rfl) ⟨hS6.c 2, hS6.c 2, hS6.c 2, hS6.c 2, hS6.c 2, hS6.c 2, hS6.c 2, hS6.c 2, hS6.c 2, hS6.c 2, hS6.c 2, hS6.c 2, hS6.c 2, hS6.c 2, hS6.c 2, hS6.c 2, hS6.c 2, hS6.c 2, hS6.c 2, hS6.c 2, hS6.c 2, trivial⟩ ⟨hS8.c 2, hS8.c 2, hS8.c 2, hS8.c 2, hS8.c 2, hS8.c 2, hS8.c 2, hS8.c 2, hS8.c 2, hS8.c 2, hS8.c 2, hS8.c 2, hS8.c 2, hS8.c 2, hS8.c 2, hS8.c 2, hS8.c 2, hS8.c 2, hS8.c 2, hS8.c 2, hS8.c 2, trivial⟩) ?_ a hF
         refine go2_batch [11] (ans := []) (vs := [(5, v3)]) (l := []) (by kernel_rfl) trivial mem_nil ?_
         refine go_fin2 fun a hF => hK2 _ _ ?_ a hF
         refine ws fun K3 hK3 => ?_
         refine wr [(0, 0), (1, 0), (2, 0), (3, 0), (4, 0)] ?_
         refine gb0 [0, 1, 2] [(19, vI (l0.length : Int)), (18, .slice A0 l0.length c0), (17, v3)] ?_
         obtain ⟨Z1, cz1, rfl, hcp1⟩ := hS8.open2 0 rfl
         refine ge_sliceHi (d := 20) (ty := 47) (t := 47) (el := 51) (sz := 7) (m := ((((List.replicate 0 (⟨⟨#[]⟩, 0, 0, 0, 0, 0, 0⟩ : STask)) ++ l0) ++ ([x1, x1, x1] : List STask)).length)) (c := cz1) (hn := l0.length) (x := (.tmp 17)) (y := (.tmp 19)) (A := Z1) (k' := .i64) (hi := (l0.length : Int)) (by kernel_rfl) (by kernel_rfl) (by kernel_rfl) rfl (by kernel_rfl) (by kernel_rfl) (by have h0 := hcp1; simp only [List.length_append, List.length_cons, List.length_nil] at h0; omega) ?_
         refine gb0 [4] [(4, .slice Z1 l0.length cz1)] ?_
         refine gn hK3 ?_
         have hS9 := hS8.takeN 1
         obtain rfl := si h
         exact we_ret (pr0 [.tmp 4] [.slice Z1 l0.length cz1] ⟨Z1, cz1, rfl, hcp1, hS9⟩)
        ·rw [if_neg hc4] at h
         cases h
       exact go_nomore2
      ·rw [if_neg hc3] at h
       cases h
     exact go_nomore2
    exact go_nomore2
   exact go_nomore2
  ·rw [if_neg hc2] at h
   cases h
 ·rw [if_neg hc1] at h
  cases h
theorem punctualsame_Lend_api_Task_full (l0 : List STask) (x1 : STask) {r : List STask} (h : punctualsame_Lend_api_Task.f l0 x1 = some r) : r = l0 ++ [x1, x1, x1] := by
 unfold punctualsame_Lend_api_Task.f at h
 repeat' split at h
 all_goals first | (exact (Option.some.inj h).symm) | cases h

/-! punctual/punctualsame.Lend[punctual/api.Window] -/
abbrev punctualsame_Lend_api_Window.Post (w0 : World) (n : Nat) (r : List SWindow) (e : Ending) (w : World) : Prop := ∃ (A : Option Addr) (c : Nat), e = .returned (.slice A n c) ∧ r.length ≤ c ∧ St w0 w [Own.of (.slice A r.length c) 55 r]
def punctualsame_Lend_api_Window.f (l0 : List SWindow) (x1 : SWindow) : Option (List SWindow) :=
 if 0 ≤ (IntKind.i64.wrap ((l0.length : Int) + 3)) then
  if ((IntKind.i64.wrap ((l0.length : Int) + 3)).toNat) ≤ 8796093022208 then
   if (List.replicate 0 (⟨0, 0⟩ : SWindow)).length + l0.length ≤ 8796093022208 then
    if ((List.replicate 0 (⟨0, 0⟩ : SWindow)) ++ l0).length + 3 ≤ 8796093022208 then
     some (((List.replicate 0 (⟨0, 0⟩ : SWindow)) ++ l0) ++ ([x1, x1, x1] : List SWindow))
    else
     none
   else
    none
  else
   none
 else
  none
theorem punctualsame_Lend_api_Window_ok (l0 : List SWindow) (A0 : Option Addr) (c0 : Nat) (x1 : SWindow) (w0 : World) (hR0 : RdL w0 A0 l0) (hL0 : l0.length ≤ c0) (r : List SWindow) (h : punctualsame_Lend_api_Window.f l0 x1 = some r) :
  Calls Tryd.prog 24 #[.slice A0 l0.length c0, .agg #[vI x1.At, vI x1.Len]] w0 (punctualsame_Lend_api_Window.Post w0 l0.length r) := by
 have hS := St.start w0
 unfold punctualsame_Lend_api_Window.f at h
 refine calls_enter (n := 21) (args := [.slice A0 l0.length c0, .agg #[vI x1.At, vI x1.Len]]) (fn := Tryd.f24) rfl rfl rfl rfl ?_
 show WE _ _ _ _ [(0, .slice A0 l0.length c0), (1, .agg #[vI x1.At, vI x1.Len])] _
 refine ws fun K1 hK1 => ?_
 refine wr [(0, 1), (1, 0)] ?_
 refine gw (some 3) (.cells #[vI x1.At, vI x1.Len] 55) (fun b => pP b 0) hS fun b1 w1 hx1 hS1 => ?_
 refine gb0 [1] [(4, .slice none 0 0)] ?_
 refine gn hK1 ?_
 refine ws fun K2 hK2 => ?_
 refine we_orders2 (by kernel_rfl) [(6, [⟨b1, 0, none⟩, ⟨b1, 1, none⟩]), (7, [⟨b1, 0, none⟩, ⟨b1, 1, none⟩]), (8, [⟨b1, 0, none⟩, ⟨b1, 1, none⟩])] (.vals [0] (.vals [1] (.vals [2] (.vals [4] (.vals [6] (.vals [7] (.vals [8] (.alt 3 1 (.alt 5 2 (.alt 9 1 (.alt 10 2 (.vals [11] .fin) .nomore) .nomore) (.alt 9 1 (.alt 5 2 (.alt 10 2 (.vals [11] .fin) .nomore) .nomore) .nomore)) (.alt 9 1 (.alt 3 1 (.alt 5 2 (.alt 10 2 (.vals [11] .fin) .nomore) .nomore) .nomore) .nomore))))))))) (by kernel_rfl) ?_
 have hS2 := hS1.drew
 refine go2_batch [0, 1, 2, 4] (ans := []) (vs := [(10, .slice A0 l0.length c0), (8, vI (IntKind.i64.wrap ((l0.length : Int) + 3))), (7, vI (l0.length : Int)), (6, .slice A0 l0.length c0)]) (l := []) (by kernel_rfl) trivial mem_nil ?_
 refine go2_batch [6] (ans := [.val (vI x1.At), .val (vI x1.Len)]) (vs := [(12, .agg #[vI x1.At, vI x1.Len])]) (l := [.loaded ⟨b1, 0, none⟩ (vI x1.At), .loaded ⟨b1, 1, none⟩ (vI x1.Len)]) (by kernel_rfl) ⟨hS2.c 0, hS2.c 0, trivial⟩ (mem_one (by kernel_rfl)) ?_
 refine go2_batch [7] (ans := [.val (vI x1.At), .val (vI x1.Len)]) (vs := [(13, .agg #[vI x1.At, vI x1.Len])]) (l := [.loaded ⟨b1, 0, none⟩ (vI x1.At), .loaded ⟨b1, 1, none⟩ (vI x1.Len)]) (by kernel_rfl) ⟨hS2.c 0, hS2.c 0, trivial⟩ (mem_one (by kernel_rfl)) ?_
 refine go2_batch [8] (ans := [.val (vI x1.At), .val (vI x1.Len)]) (vs := [(14, .agg #[vI x1.At, vI x1.Len])]) (l := [.loaded ⟨b1, 0, none⟩ (vI x1.At), .loaded ⟨b1, 1, none⟩ (vI x1.Len)]) (by kernel_rfl) ⟨hS2.c 0, hS2.c 0, trivial⟩ (mem_one (by kernel_rfl)) ?_
 by_cases hc1 : 0 ≤ (IntKind.i64.wrap ((l0.length : Int) + 3))
 ·rw [if_pos hc1] at h
  by_cases hc2 : ((IntKind.i64.wrap ((l0.length : Int) + 3)).toNat) ≤ 8796093022208
  ·rw [if_pos hc2] at h
   refine go_alt2 (fun KK hKK => ?_) ?_
   ·refine ge_one2 ?_
    refine ge_make (α := SWindow) (d := 9) (t := 48) (el := 55) (bytes := 16) (l := 0) (c := ((IntKind.i64.wrap ((l0.length : Int) + 3)).toNat)) (x := (.const (vI 0))) (y := (.tmp 8)) (ty := 48) (k1 := .i64) (k2 := .i64) (li := 0) (ci := (IntKind.i64.wrap ((l0.length : Int) + 3))) (z := .agg #[vI 0, vI 0]) (z' := (⟨0, 0⟩ : SWindow)) (by kernel_rfl) (by kernel_rfl) (by kernel_rfl) rfl (Int.toNat_of_nonneg hc1).symm (by kernel_rfl) (by kernel_rfl) rfl hS2 (Nat.zero_le _) rfl (by omega) fun v1 w2 _ hS3 => ?_
    refine ge_nil fun a hF => hKK _ _ (RS.of2 (l := [.loaded ⟨b1, 0, none⟩ (vI x1.At), .loaded ⟨b1, 1, none⟩ (vI x1.Len), .loaded ⟨b1, 0, none⟩ (vI x1.At), .loaded ⟨b1, 1, none⟩ (vI x1.Len), .loaded ⟨b1, 0, none⟩ (vI x1.At), .loaded ⟨b1, 1, none⟩ (vI x1.Len)]) (by kernel_rfl) ⟨hS2.c 0, hS2.c 0, hS2.c 0, hS2.c 0, hS2.c 0, hS2.c 0, trivial⟩ ⟨hS3.c 1, hS3.c 1, hS3.c 1, hS3.c 1, hS3.c 1, hS3.c 1, trivial⟩) ?_ a hF
    refine go_alt2 (fun KK hKK => ?_) ?_
    ·by_cases hc3 : (List.replicate 0 (⟨0, 0⟩ : SWindow)).length + l0.length ≤ 8796093022208
     ·rw [if_pos hc3] at h
      refine ge_appendL (α := SWindow) (m := 0) (d := 11) (t := 48) (el := 55) (bytes := 16) (c1 := c0) (A1 := A0) (x := (.tmp 9)) (y := (.tmp 10)) (ty := 48) (v := v1) (z := .agg #[vI 0, vI 0]) (l := (List.replicate 0 (⟨0, 0⟩ : SWindow))) (us := l0) (by kernel_rfl) (by kernel_rfl) (by kernel_rfl) (by kernel_rfl) (by kernel_rfl) rfl hS3 (hS3.rd hR0) rfl (Nat.mul_le_of_le_div _ _ _ hc3) fun v2 w3 hS4 => ?_
      have hS5 : St w0 w3 [Own.of v2 55 ((List.replicate 0 (⟨0, 0⟩ : SWindow)) ++ l0), Own.blk b1 (.cells #[vI x1.At, vI x1.Len] 55 (0, 0))] := hS4
      refine ge_nil fun a hF => hKK _ _ (RS.of2 (l := [.loaded ⟨b1, 0, none⟩ (vI x1.At), .loaded ⟨b1, 1, none⟩ (vI x1.Len), .loaded ⟨b1, 0, none⟩ (vI x1.At), .loaded ⟨b1, 1, none⟩ (vI x1.Len), .loaded ⟨b1, 0, none⟩ (vI x1.At), .loaded ⟨b1, 1, none⟩ (vI x1.Len)]) (by kernel_rfl) ⟨hS3.c 1, hS3.c 1, hS3.c 1, hS3.c 1, hS3.c 1, hS3.c 1, trivial⟩ ⟨hS5.c 1, hS5.c 1, hS5.c 1, hS5.c 1, hS5.c 1, hS5.c 1, trivial⟩) ?_ a hF
      refine go_alt2 (fun KK hKK => ?_) ?_
      ·refine ge_one2 ?_
       refine gw (some 15) (.cells #[vI x1.At, vI x1.Len, vI x1.At, vI x1.Len, vI x1.At, vI x1.Len] 55) (fun b => .slice (some ⟨b, 0, none⟩) 3 3) hS5 fun b2 w4 hx2 hS6 => ?_
       refine ge_nil fun a hF => hKK _ _ (RS.of2 (l := []) (by kernel_rfl) trivial trivial) ?_ a hF
       refine go_alt2 (fun KK hKK => ?_) ?_
       ·have hS7 := hS6.bring 1 rfl
        by_cases hc4 : ((List.replicate 0 (⟨0, 0⟩ : SWindow)) ++ l0).length + 3 ≤ 8796093022208
        ·rw [if_pos hc4] at h
         refine ge_appendL (α := SWindow) (m := 0) (d := 16) (t := 48) (el := 55) (bytes := 16) (c1 := 3) (A1 := (some ⟨b2, 0, none⟩)) (x := (.tmp 11)) (y := (.tmp 15)) (ty := 48) (v := v2) (z := .agg #[vI 0, vI 0]) (l := ((List.replicate 0 (⟨0, 0⟩ : SWindow)) ++ l0)) (us := ([x1, x1, x1] : List SWindow)) (by kernel_rfl) (by kernel_rfl) (by kernel_rfl) (by kernel_rfl) (by kernel_rfl) rfl hS7 (hS7.rdBlk 1 ([x1, x1, x1] : List SWindow) rfl rfl rfl) rfl (Nat.mul_le_of_le_div _ _ _ hc4) fun v3 w5 hS8 => ?_
         have hS9 : St w0 w5 [Own.of v3 55 (((List.replicate 0 (⟨0, 0⟩ : SWindow)) ++ l0) ++ ([x1, x1, x1] : List SWindow)), Own.blk b2 (.cells #[vI x1.At, vI x1.Len, vI x1.At, vI x1.Len, vI x1.At, vI x1.Len] 55 (0, 0)), Own.blk b1 (.cells #[vI x1.At, vI x1.Len] 55 (0, 0))] := hS8
         refine ge_nil fun a hF => hKK _ _ (RS.of2 (l := [.loaded ⟨b1, 0, none⟩ (vI x1.At), .loaded ⟨b1, 1, none⟩ (vI x1.Len), .loaded ⟨b1, 0, none⟩ (vI x1.At), .loaded ⟨b1, 1, none⟩ (vI x1.Len), .loaded ⟨b1, 0, none⟩ (vI x1.At), .loaded ⟨b1, 1, none⟩ (vI x1.Len)]) (by kernel_rfl) ⟨hS6.c 2, hS6.c 2, hS6.c 2, hS6.c 2, hS6.c 2, hS6.c 2, trivial⟩ ⟨hS9.c 2, hS9.c 2, hS9.c 2, hS9.c 2, hS9.c 2, hS9.c 2, trivial⟩) ?_ a hF
         refine go2_batch [11] (ans := []) (vs := [(5, v3)]) (l := []) (by kernel_rfl) trivial mem_nil ?_
         refine go_fin2 fun a hF => hK2 _ _ ?_ a hF
         refine ws fun K3 hK3 => ?_
         refine wr [(0, 0), (1, 0), (2, 0), (3, 0), (4, 0)] ?_
         refine gb0 [0, 1, 2] [(19, vI (l0.length : Int)), (18, .slice A0 l0.length c0), (17, v3)] ?_
         obtain ⟨Z1, cz1, rfl, hcp1⟩ := hS9.open2 0 rfl
         refine ge_sliceHi (d := 20) (ty := 48) (t := 48) (el := 55) (sz := 2) (m := ((((List.replicate 0 (⟨0, 0⟩ : SWindow)) ++ l0) ++ ([x1, x1, x1] : List SWindow)).length)) (c := cz1) (hn := l0.length) (x := (.tmp 17)) (y := (.tmp 19)) (A := Z1) (k' := .i64) (hi := (l0.length : Int)) (by kernel_rfl) (by kernel_rfl) (by kernel_rfl) rfl (by kernel_rfl) (by kernel_rfl) (by have h0 := hcp1; simp only [List.length_append, List.length_cons, List.length_nil] at h0; omega) ?_
         refine gb0 [4] [(4, .slice Z1 l0.length cz1)] ?_
         refine gn hK3 ?_
         have hS10 := hS9.takeN 1
         obtain rfl := si h
         exact we_ret (pr0 [.tmp 4] [.slice Z1 l0.length cz1] ⟨Z1, cz1, rfl, hcp1, hS10⟩)
        ·rw [if_neg hc4] at h
         cases h
       exact go_nomore2
      exact go_nomore2
     ·rw [if_neg hc3] at h
      cases h
    refine go_alt2 (fun KK hKK => ?_) ?_
    ·refine ge_one2 ?_
     refine gw (some 15) (.cells #[vI x1.At, vI x1.Len, vI x1.At, vI x1.Len, vI x1.At, vI x1.Len] 55) (fun b => .slice (some ⟨b, 0, none⟩) 3 3) hS3 fun b2 w3 hx2 hS4 => ?_
     refine ge_nil fun a hF => hKK _ _ (RS.of2 (l := []) (by kernel_rfl) trivial trivial) ?_ a hF
     refine go_alt2 (fun KK hKK => ?_) ?_
     ·have hS5 := hS4.bring 1 rfl
      by_cases hc3 : (List.replicate 0 (⟨0, 0⟩ : SWindow)).length + l0.length ≤ 8796093022208
      ·rw [if_pos hc3] at h
       refine ge_appendL (α := SWindow) (m := 0) (d := 11) (t := 48) (el := 55) (bytes := 16) (c1 := c0) (A1 := A0) (x := (.tmp 9)) (y := (.tmp 10)) (ty := 48) (v := v1) (z := .agg #[vI 0, vI 0]) (l := (List.replicate 0 (⟨0, 0⟩ : SWindow))) (us := l0) (by kernel_rfl) (by kernel_rfl) (by kernel_rfl) (by kernel_rfl) (by kernel_rfl) rfl hS5 (hS5.rd hR0) rfl (Nat.mul_le_of_le_div _ _ _ hc3) fun v2 w4 hS6 => ?_
       have hS7 : St w0 w4 [Own.of v2 55 ((List.replicate 0 (⟨0, 0⟩ : SWindow)) ++ l0), Own.blk b2 (.cells #[vI x1.At, vI x1.Len, vI x1.At, vI x1.Len, vI x1.At, vI x1.Len] 55 (0, 0)), Own.blk b1 (.cells #[vI x1.At, vI x1.Len] 55 (0, 0))] := hS6
       refine ge_nil fun a hF => hKK _ _ (RS.of2 (l := [.loaded ⟨b1, 0, none⟩ (vI x1.At), .loaded ⟨b1, 1, none⟩ (vI x1.Len), .loaded ⟨b1, 0, none⟩ (vI x1.At), .loaded ⟨b1, 1, none⟩ (vI x1.Len), .loaded ⟨b1, 0, none⟩ (vI x1.At), .loaded ⟨b1, 1, none⟩ (vI x1.Len)]) (by kernel_rfl) ⟨hS4.c 2, hS4.c 2, hS4.c 2, hS4.c 2, hS4.c 2, hS4.c 2, trivial⟩ ⟨hS7.c 2, hS7.c 2, hS7.c 2, hS7.c 2, hS7.c 2, hS7.c 2, trivial⟩) ?_ a hF
       refine go_alt2 (fun KK hKK => ?_) ?_
       ·by_cases hc4 : ((List.replicate 0 (⟨0, 0⟩ : SWindow)) ++ l0).length + 3 ≤ 8796093022208
        ·rw [if_pos hc4] at h
         refine ge_appendL (α := SWindow) (m := 0) (d := 16) (t := 48) (el := 55) (bytes := 16) (c1 := 3) (A1 := (some ⟨b2, 0, none⟩)) (x := (.tmp 11)) (y := (.tmp 15)) (ty := 48) (v := v2) (z := .agg #[vI 0, vI 0]) (l := ((List.replicate 0 (⟨0, 0⟩ : SWindow)) ++ l0)) (us := ([x1, x1, x1] : List SWindow)) (by kernel_rfl) (by kernel_rfl) (by kernel_rfl) (by kernel_rfl) (by kernel_rfl) rfl hS7 (hS7.rdBlk 1 ([x1, x1, x1] : List SWindow) rfl rfl rfl) rfl (Nat.mul_le_of_le_div _ _ _ hc4) fun v3 w5 hS8 => ?_
         have hS9 : St w0 w5 [Own.of v3 55 (((List.replicate 0 (⟨0, 0⟩ : SWindow)) ++ l0) ++ ([x1, x1, x1] : List SWindow)), Own.blk b2 (.cells #[vI x1.At, vI x1.Len, vI x1.At, vI x1.Len, vI x1.At, vI x1.Len] 55 (0, 0)), Own.blk b1 (.cells #[vI x1.At, vI x1.Len] 55 (0, 0))] := hS8
         refine ge_nil fun a hF => hKK _ _ (RS.of2 (l := [.loaded ⟨b1, 0, none⟩ (vI x1.At), .loaded ⟨b1, 1, none⟩ (vI x1.Len), .loaded ⟨b1, 0, none⟩ (vI x1.At), .loaded ⟨b1, 1, none⟩ (vI x1.Len), .loaded ⟨b1, 0, none⟩ (vI x1.At), .loaded ⟨b1, 1, none⟩ (vI x1.Len)]) (by kernel_rfl) ⟨hS7.c 2, hS7.c 2, hS7.c 2, hS7.c 2, hS7.c 2, hS7.c 2, trivial⟩ ⟨hS9.c 2, hS9.c 2, hS9.c 2, hS9.c 2, hS9.c 2, hS9.c 2, trivial⟩) ?_ a hF
         refine go2_batch [11] (ans := []) (vs := [(5, v3)]) (l := []) (by kernel_rfl) trivial mem_nil ?_
         refine go_fin2 fun a hF => hK2 _ _ ?_ a hF
         refine ws fun K3 hK3 => ?_
         refine wr [(0, 0), (1, 0), (2, 0), (3, 0), (4, 0)] ?_
         refine gb0 [0, 1, 2] [(19, vI (l0.length : Int)), (18, .slice A0 l0.length c0), (17, v3)] ?_
         obtain ⟨Z1, cz1, rfl, hcp1⟩ := hS9.open2 0 rfl
         refine ge_sliceHi (d := 20) (ty := 48) (t := 48) (el := 55) (sz := 2) (m := ((((List.replicate 0 (⟨0, 0⟩ : SWindow)) ++ l0) ++ ([x1, x1, x1] : List SWindow)).length)) (c := cz1) (hn := l0.length) (x := (.tmp 17)) (y := (.tmp 19)) (A := Z1) (k' := .i64) (hi := (l0.length : Int)) (by kernel_rfl) (by kernel_rfl) (by kernel_rfl) rfl (by kernel_rfl) (by kernel_rfl) (by have h0 := hcp1; simp only [List.length_append, List.length_cons, List.length_nil] at h0; omega) ?_
         refine gb0 [4] [(4, .slice Z1 l0.length cz1)] ?_
         refine gn hK3 ?_
         have hS10 := hS9.takeN 1
         obtain rfl := si h
         exact we_ret (pr0 [.tmp 4] [.slice Z1 l0.length cz1] ⟨Z1, cz1, rfl, hcp1, hS10⟩)
        ·rw [if_neg hc4] at h
         cases h
       exact go_nomore2
      ·rw [if_neg hc3] at h
       cases h
     exact go_nomore2
    exact go_nomore2
   refine go_alt2 (fun KK hKK => ?_) ?_
   ·refine ge_one2 ?_
    refine gw (some 15) (.cells #[vI x1.At, vI x1.Len, vI x1.At, vI x1.Len, vI x1.At, vI x1.Len] 55) (fun b => .slice (some ⟨b, 0, none⟩) 3 3) hS2 fun b2 w2 hx2 hS3 => ?_
    refine ge_nil fun a hF => hKK _ _ (RS.of2 (l := []) (by kernel_rfl) trivial trivial) ?_ a hF
    refine go_alt2 (fun KK hKK => ?_) ?_
    ·refine ge_one2 ?_
     refine ge_make (α := SWindow) (d := 9) (t := 48) (el := 55) (bytes := 16) (l := 0) (c := ((IntKind.i64.wrap ((l0.length : Int) + 3)).toNat)) (x := (.const (vI 0))) (y := (.tmp 8)) (ty := 48) (k1 := .i64) (k2 := .i64) (li := 0) (ci := (IntKind.i64.wrap ((l0.length : Int) + 3))) (z := .agg #[vI 0, vI 0]) (z' := (⟨0, 0⟩ : SWindow)) (by kernel_rfl) (by kernel_rfl) (by kernel_rfl) rfl (Int.toNat_of_nonneg hc1).symm (by kernel_rfl) (by kernel_rfl) rfl hS3 (Nat.zero_le _) rfl (by omega) fun v1 w3 _ hS4 => ?_
     refine ge_nil fun a hF => hKK _ _ (RS.of2 (l := [.loaded ⟨b1, 0, none⟩ (vI x1.At), .loaded ⟨b1, 1, none⟩ (vI x1.Len), .loaded ⟨b1, 0, none⟩ (vI x1.At), .loaded ⟨b1, 1, none⟩ (vI x1.Len), .loaded ⟨b1, 0, none⟩ (vI x1.At), .loaded ⟨b1, 1, none⟩ (vI x1.Len)]) (by kernel_rfl) ⟨hS3.c 1, hS3.c 1, hS3.c 1, hS3.c 1, hS3.c 1, hS3.c 1, trivial⟩ ⟨hS4.c 2, hS4.c 2, hS4.c 2, hS4.c 2, hS4.c 2, hS4.c 2, trivial⟩) ?_ a hF
     refine go_alt2 (fun KK hKK => ?_) ?_
     ·by_cases hc3 : (List.replicate 0 (⟨0, 0⟩ : SWindow)).length + l0.length ≤ 8796093022208
      ·rw [if_pos hc3] at h
       refine ge_appendL (α := SWindow) (m := 0) (d := 11) (t := 48) (el := 55) (bytes := 16) (c1 := c0) (A1 := A0) (x := (.tmp 9)) (y := (.tmp 10)) (ty := 48) (v := v1) (z := .agg #[vI 0, vI 0]) (l := (List.replicate 0 (⟨0, 0⟩ : SWindow))) (us := l0) (by kernel_rfl) (by kernel_rfl) (by kernel_rfl) (by kernel_rfl) (by kernel_rfl) rfl hS4 (hS4.rd hR0) rfl (Nat.mul_le_of_le_div _ _ _ hc3) fun v2 w4 hS5 => ?_
       have hS6 : St w0 w4 [Own.of v2 55 ((List.replicate 0 (⟨0, 0⟩ : SWindow)) ++ l0), Own.blk b2 (.cells #[vI x1.At, vI x1.Len, vI x1.At, vI x1.Len, vI x1.At, vI x1.Len] 55 (0, 0)), Own.blk b1 (.cells #[vI x1.At, vI x1.Len] 55 (0, 0))] := hS5
       refine ge_nil fun a hF => hKK _ _ (RS.of2 (l := [.loaded ⟨b1, 0, none⟩ (vI x1.At), .loaded ⟨b1, 1, none⟩ (vI x1.Len), .loaded ⟨b1, 0, none⟩ (vI x1.At), .loaded ⟨b1, 1, none⟩ (vI x1.Len), .loaded ⟨b1, 0, none⟩ (vI x1.At), .loaded ⟨b1, 1, none⟩ (vI x1.Len)]) (by kernel_rfl) ⟨hS4.c 2, hS4.c 2, hS4.c 2, hS4.c 2, hS4.c 2, hS4.c 2, trivial⟩ ⟨hS6.c 2, hS6.c 2, hS6.c 2, hS6.c 2, hS6.c 2, hS6.c 2, trivial⟩) ?_ a hF
       refine go_alt2 (fun KK hKK => ?_) ?_
       ·by_cases hc4 : ((List.replicate 0 (⟨0, 0⟩ : SWindow)) ++ l0).length + 3 ≤ 8796093022208
        ·rw [if_pos hc4] at h
         refine ge_appendL (α := SWindow) (m := 0) (d := 16) (t := 48) (el := 55) (bytes := 16) (c1 := 3) (A1 := (some ⟨b2, 0, none⟩)) (x := (.tmp 11)) (y := (.tmp 15)) (ty := 48) (v := v2) (z := .agg #[vI 0, vI 0]) (l := ((List.replicate 0 (⟨0, 0⟩ : SWindow)) ++ l0)) (us := ([x1, x1, x1] : List SWindow)) (by kernel_rfl) (by kernel_rfl) (by kernel_rfl) (by kernel_rfl) (by kernel_rfl) rfl hS6 (hS6.rdBlk 1 ([x1, x1, x1] : List SWindow) rfl rfl rfl) rfl (Nat.mul_le_of_le_div _ _ _ hc4) fun v3 w5 hS7 => ?_
         have hS8 : St w0 w5 [Own.of v3 55 (((List.replicate 0 (⟨0, 0⟩ : SWindow)) ++ l0) ++ ([x1, x1, x1] : List SWindow)), Own.blk b2 (.cells #[vI x1.At, vI x1.Len, vI x1.At, vI x1.Len, vI x1.At, vI x1.Len] 55 (0, 0)), Own.blk b1 (.cells #[vI x1.At, vI x1.Len] 55 (0, 0))] := hS7
         refine ge_nil fun a hF => hKK _ _ (RS.of2 (l := [.loaded ⟨b1, 0, none⟩ (vI x1.At), .loaded ⟨b1, 1, none⟩ (vI x1.Len), .loaded ⟨b1, 0, none⟩ (vI x1.At), .loaded ⟨b1, 1, none⟩ (vI x1.Len), .loaded ⟨b1, 0, none⟩ (vI x1.At), .loaded ⟨b1, 1, none⟩ (vI x1.Len)]) (by kernel_rfl) ⟨hS6.c 2, hS6.c 2, hS6.c 2, hS6.c 2, hS6.c 2, hS6.c 2, trivial⟩ ⟨hS8.c 2, hS8.c 2, hS8.c 2, hS8.c 2, hS8.c 2, hS8.c 2, trivial⟩) ?_ a hF
         refine go2_batch [11] (ans := []) (vs := [(5, v3)]) (l := []) (by kernel_rfl) trivial mem_nil ?_
         refine go_fin2 fun a hF => hK2 _ _ ?_ a hF
         refine ws fun K3 hK3 => ?_
         refine wr [(0, 0), (1, 0), (2, 0), (3, 0), (4, 0)] ?_
         refine gb0 [0, 1, 2] [(19, vI (l0.length : Int)), (18, .slice A0 l0.length c0), (17, v3)] ?_
         obtain ⟨Z1, cz1, rfl, hcp1⟩ := hS8.open2 0 rfl
         refine ge_sliceHi (d := 20) (ty := 48) (t := 48) (el := 55) (sz := 2) (m := ((((List.replicate 0 (⟨0, 0⟩ : SWindow)) ++ l0) ++ ([x1, x1, x1] : List SWindow)).length)) (c := cz1) (hn := l0.length) (x := (.tmp 17)) (y := (.tmp 19)) (A := Z1) (k' := .i64) (hi := (l0.length : Int)) (by kernel_rfl) (by kernel_rfl) (by kernel_rfl) rfl (by kernel_rfl) (by kernel_rfl) (by have h0 := hcp1; simp only [List.length_append, List.length_cons, List.length_nil] at h0; omega) ?_
         refine gb0 [4] [(4, .slice Z1 l0.length cz1)] ?_
         refine gn hK3 ?_
         have hS9 := hS8.takeN 1
         obtain rfl := si h
         exact we_ret (pr0 [.tmp 4] [.slice Z1 l0.length cz1] ⟨Z1, cz1, rfl, hcp1, hS9⟩)
        ·rw [if_neg hc4] at h
         cases h
       exact go_nomore2
      ·rw [if_neg hc3] at h
       cases h
     exact go_nomore2
    exact go_nomore2
   exact go_nomore2
  ·rw [if_neg hc2] at h
   cases h
 ·rw [if_neg hc1] at h
  cases h
theorem punctualsame_Lend_api_Window_full (l0 : List SWindow) (x1 : SWindow) {r : List SWindow} (h : punctualsame_Lend_api_Window.f l0 x1 = some r) : r = l0 ++ [x1, x1, x1] := by
 unfold punctualsame_Lend_api_Window.f at h
 repeat' split at h
 all_goals first | (exact (Option.some.inj h).symm) | cases h

structure SJob where
 Task : Int
 At : Int
 C : Int
 Due : Int
 P : Int
def SJob.eqb (x y : SJob) : Bool := ((x.Task == y.Task) && ((x.At == y.At) && ((x.C == y.C) && ((x.Due == y.Due) && ((x.P == y.P) && true)))))
instance : Ok SJob := ⟨fun x => Ok.ok x.Task ∧ Ok.ok x.At ∧ Ok.ok x.C ∧ Ok.ok x.Due ∧ Ok.ok x.P ∧ True⟩
instance : Flat SJob := ⟨5, fun x => [vI x.Task, vI x.At, vI x.C, vI x.Due, vI x.P], fun _ => rfl, fun _ => rfl, by decide⟩

/-! punctual/punctualsame.Lend[punctual/api.Job] -/
abbrev punctualsame_Lend_api_Job.Post (w0 : World) (n : Nat) (r : List SJob) (e : Ending) (w : World) : Prop := ∃ (A : Option Addr) (c : Nat), e = .returned (.slice A n c) ∧ r.length ≤ c ∧ St w0 w [Own.of (.slice A r.length c) 58 r]
def punctualsame_Lend_api_Job.f (l0 : List SJob) (x1 : SJob) : Option (List SJob) :=
 if 0 ≤ (IntKind.i64.wrap ((l0.length : Int) + 3)) then
  if ((IntKind.i64.wrap ((l0.length : Int) + 3)).toNat) ≤ 3518437208883 then
   if (List.replicate 0 (⟨0, 0, 0, 0, 0⟩ : SJob)).length + l0.length ≤ 3518437208883 then
    if ((List.replicate 0 (⟨0, 0, 0, 0, 0⟩ : SJob)) ++ l0).length + 3 ≤ 3518437208883 then
     some (((List.replicate 0 (⟨0, 0, 0, 0, 0⟩ : SJob)) ++ l0) ++ ([x1, x1, x1] : List SJob))
    else
     none
   else
    none
  else
   none
 else
  none
theorem punctualsame_Lend_api_Job_ok (l0 : List SJob) (A0 : Option Addr) (c0 : Nat) (x1 : SJob) (w0 : World) (hR0 : RdL w0 A0 l0) (hL0 : l0.length ≤ c0) (r : List SJob) (h : punctualsame_Lend_api_Job.f l0 x1 = some r) :
  Calls Tryd.prog 25 #[.slice A0 l0.length c0, .agg #[vI x1.Task, vI x1.At, vI x1.C, vI x1.Due, vI x1.P]] w0 (punctualsame_Lend_api_Job.Post w0 l0.length r) := by
 have hS := St.start w0
 unfold punctualsame_Lend_api_Job.f at h
 refine calls_enter (n := 21) (args := [.slice A0 l0.length c0, .agg #[vI x1.Task, vI x1.At, vI x1.C, vI x1.Due, vI x1.P]]) (fn := Tryd.f25) rfl rfl rfl rfl ?_
 show WE _ _ _ _ [(0, .slice A0 l0.length c0), (1, .agg #[vI x1.Task, vI x1.At, vI x1.C, vI x1.Due, vI x1.P])] _
 refine ws fun K1 hK1 => ?_
 refine wr [(0, 1), (1, 0)] ?_
 refine gw (some 3) (.cells #[vI x1.Task, vI x1.At, vI x1.C, vI x1.Due, vI x1.P] 58) (fun b => pP b 0) hS fun b1 w1 hx1 hS1 => ?_
 refine gb0 [1] [(4, .slice none 0 0)] ?_
 refine gn hK1 ?_
 refine ws fun K2 hK2 => ?_
 refine we_orders2 (by kernel_rfl) [(6, [⟨b1, 0, none⟩, ⟨b1, 1, none⟩, ⟨b1, 2, none⟩, ⟨b1, 3, none⟩, ⟨b1, 4, none⟩]), (7, [⟨b1, 0, none⟩, ⟨b1, 1, none⟩, ⟨b1, 2, none⟩, ⟨b1, 3, none⟩, ⟨b1, 4, none⟩]), (8, [⟨b1, 0, none⟩, ⟨b1, 1, none⟩, ⟨b1, 2, none⟩, ⟨b1, 3, none⟩, ⟨b1, 4, none⟩])] (.vals [0] (.vals [1] (.vals [2] (.vals [4] (.vals [6] (.vals [7] (.vals [8] (.alt 3 1 (.alt 5 2 (.alt 9 1 (.alt 10 2 (.vals [11] .fin) .nomore) .nomore) (.alt 9 1 (.alt 5 2 (.alt 10 2 (.vals [11] .fin) .nomore) .nomore) .nomore)) (.alt 9 1 (.alt 3 1 (.alt 5 2 (.alt 10 2 (.vals [11] .fin) .nomore) .nomore) .nomore) .nomore))))))))) (by kernel_rfl) ?_
 have hS2 := hS1.drew
 refine go2_batch [0, 1, 2, 4] (ans := []) (vs := [(10, .slice A0 l0.length c0), (8, vI (IntKind.i64.wrap ((l0.length : Int) + 3))), (7, vI (l0.length : Int)), (6, .slice A0 l0.length c0)]) (l := []) (by kernel_rfl) trivial mem_nil ?_
 refine go2_batch [6] (ans := [.val (vI x1.Task), .val (vI x1.At), .val (vI x1.C), .val (vI x1.Due), .val (vI x1.P)]) (vs := [(12, .agg #[vI x1.Task, vI x1.At, vI x1.C, vI x1.Due, vI x1.P])]) (l := [.loaded ⟨b1, 0, none⟩ (vI x1.Task), .loaded ⟨b1, 1, none⟩ (vI x1.At), .loaded ⟨b1, 2, none⟩ (vI x1.C), .loaded ⟨b1, 3, none⟩ (vI x1.Due), .loaded ⟨b1, 4, none⟩ (vI x1.P)]) (by kernel_rfl) ⟨hS2.c 0, hS2.c 0, hS2.c 0, hS2.c 0, hS2.c 0, trivial⟩ (mem_one (by kernel_rfl)) ?_
 refine go2_batch [7] (ans := [.val (vI x1.Task), .val (vI x1.At), .val (vI x1.C), .val (vI x1.Due), .val (vI x1.P)]) (vs := [(13, .agg #[vI x1.Task, vI x1.At, vI x1.C, vI x1.Due, vI x1.P])]) (l := [.loaded ⟨b1, 0, none⟩ (vI x1.Task), .loaded ⟨b1, 1, none⟩ (vI x1.At), .loaded ⟨b1, 2, none⟩ (vI x1.C), .loaded ⟨b1, 3, none⟩ (vI x1.Due), .loaded ⟨b1, 4, none⟩ (vI x1.P)]) (by kernel_rfl) ⟨hS2.c 0, hS2.c 0, hS2.c 0, hS2.c 0, hS2.c 0, trivial⟩ (mem_one (by kernel_rfl)) ?_
 refine go2_batch [8] (ans := [.val (vI x1.Task), .val (vI x1.At), .val (vI x1.C), .val (vI x1.Due), .val (vI x1.P)]) (vs := [(14, .agg #[vI x1.Task, vI x1.At, vI x1.C, vI x1.Due, vI x1.P])]) (l := [.loaded ⟨b1, 0, none⟩ (vI x1.Task), .loaded ⟨b1, 1, none⟩ (vI x1.At), .loaded ⟨b1, 2, none⟩ (vI x1.C), .loaded ⟨b1, 3, none⟩ (vI x1.Due), .loaded ⟨b1, 4, none⟩ (vI x1.P)]) (by kernel_rfl) ⟨hS2.c 0, hS2.c 0, hS2.c 0, hS2.c 0, hS2.c 0, trivial⟩ (mem_one (by kernel_rfl)) ?_
 by_cases hc1 : 0 ≤ (IntKind.i64.wrap ((l0.length : Int) + 3))
 ·rw [if_pos hc1] at h
  by_cases hc2 : ((IntKind.i64.wrap ((l0.length : Int) + 3)).toNat) ≤ 3518437208883
  ·rw [if_pos hc2] at h
   refine go_alt2 (fun KK hKK => ?_) ?_
   ·refine ge_one2 ?_
    refine ge_make (α := SJob) (d := 9) (t := 49) (el := 58) (bytes := 40) (l := 0) (c := ((IntKind.i64.wrap ((l0.length : Int) + 3)).toNat)) (x := (.const (vI 0))) (y := (.tmp 8)) (ty := 49) (k1 := .i64) (k2 := .i64) (li := 0) (ci := (IntKind.i64.wrap ((l0.length : Int) + 3))) (z := .agg #[vI 0, vI 0, vI 0, vI 0, vI 0]) (z' := (⟨0, 0, 0, 0, 0⟩ : SJob)) (by kernel_rfl) (by kernel_rfl) (by kernel_rfl) rfl (Int.toNat_of_nonneg hc1).symm (by kernel_rfl) (by kernel_rfl) rfl hS2 (Nat.zero_le _) rfl (by omega) fun v1 w2 _ hS3 => ?_
    refine ge_nil fun a hF => hKK _ _ (RS.of2 (l := [.loaded ⟨b1, 0, none⟩ (vI x1.Task), .loaded ⟨b1, 1, none⟩ (vI x1.At), .loaded ⟨b1, 2, none⟩ (vI x1.C), .loaded ⟨b1, 3, none⟩ (vI x1.Due), .loaded ⟨b1, 4, none⟩ (vI x1.P), .loaded ⟨b1, 0, none⟩ (vI x1.Task), .loaded ⟨b1, 1, none⟩ (vI x1.At), .loaded ⟨b1, 2, none⟩ (vI x1.C), .loaded ⟨b1, 3, none⟩ (vI x1.Due), .loaded ⟨b1, 4, none⟩ (vI x1.P), .loaded ⟨b1, 0, none⟩ (vI x1.Task), .loaded ⟨b1, 1, none⟩ (vI x1.At), .loaded ⟨b1, 2, none⟩ (vI x1.C), .loaded ⟨b1, 3, none⟩ (vI x1.Due), .loaded ⟨b1, 4, none⟩ (vI x1.P)]) (by kernel_rfl) ⟨hS2.c 0, hS2.c 0, hS2.c 0, hS2.c 0, hS2.c 0, hS2.c 0, hS2.c 0, hS2.c 0, hS2.c 0, hS2.c 0, hS2.c 0, hS2.c 0, hS2.c 0, hS2.c 0, hS2.c 0, trivial⟩ ⟨hS3.c 1, hS3.c 1, hS3.c 1, hS3.c 1, hS3.c 1, hS3.c 1, hS3.c 1, hS3.c 1, hS3.c 1, hS3.c 1, hS3.c 1, hS3.c 1, hS3.c 1, hS3.c 1, hS3.c 1, trivial⟩) ?_ a hF
    refine go_alt2 (fun KK hKK => ?_) ?_
    ·by_cases hc3 : (List.replicate 0 (⟨0, 0, 0, 0, 0⟩ : SJob)).length + l0.length ≤ 3518437208883
     ·rw [if_pos hc3] at h
      refine ge_appendL (α := SJob) (m := 0) (d := 11) (t := 49) (el := 58) (bytes := 40) (c1 := c0) (A1 := A0) (x := (.tmp 9)) (y := (.tmp 10)) (ty := 49) (v := v1) (z := .agg #[vI 0, vI 0, vI 0, vI 0, vI 0]) (l := (List.replicate 0 (⟨0, 0, 0, 0, 0⟩ : SJob))) (us := l0) (by kernel_rfl) (by kernel_rfl) (by kernel_rfl) (by kernel_rfl) (by kernel_rfl) rfl hS3 (hS3.rd hR0) rfl (Nat.mul_le_of_le_div _ _ _ hc3) fun v2 w3 hS4 => ?_
      have hS5 : St w0 w3 [Own.of v2 58 ((List.replicate 0 (⟨0, 0, 0, 0, 0⟩ : SJob)) ++ l0), Own.blk b1 (.cells #[vI x1.Task, vI x1.At, vI x1.C, vI x1.Due, vI x1.P] 58 (0, 0))] := hS4
      refine ge_nil fun a hF => hKK _ _ (RS.of2 (l := [.loaded ⟨b1, 0, none⟩ (vI x1.Task), .loaded ⟨b1, 1, none⟩ (vI x1.At), .loaded ⟨b1, 2, none⟩ (vI x1.C), .loaded ⟨b1, 3, none⟩ (vI x1.Due), .loaded ⟨b1, 4, none⟩ (vI x1.P), .loaded ⟨b1, 0, none⟩ (vI x1.Task), .loaded ⟨b1, 1, none⟩ (vI x1.At), .loaded ⟨b1, 2, none⟩ (vI x1.C), .loaded ⟨b1, 3, none⟩ (vI x1.Due), .loaded ⟨b1, 4, none⟩ (vI x1.P), .loaded ⟨b1, 0, none⟩ (vI x1.Task), .loaded ⟨b1, 1, none⟩ (vI x1.At), .loaded ⟨b1, 2, none⟩ (vI x1.C), .loaded ⟨b1, 3, none⟩ (vI x1.Due), .loaded ⟨b1, 4, none⟩ (vI x1.P)]) (by kernel_rfl) ⟨hS3.c 1, hS3.c 1, hS3.c 1, hS3.c 1, hS3.c 1, hS3.c 1, hS3.c 1, hS3.c 1, hS3.c 1, hS3.c 1, hS3.c 1, hS3.c 1, hS3.c 1, hS3.c 1, hS3.c 1, trivial⟩ ⟨hS5.c 1, hS5.c 1, hS5.c 1, hS5.c 1, hS5.c 1, hS5.c 1, hS5.c 1, hS5.c 1, hS5.c 1, hS5.c 1, hS5.c 1, hS5.c 1, hS5.c 1, hS5.c 1, hS5.c 1, trivial⟩) ?_ a hF
      refine go_alt2 (fun KK hKK => ?_) ?_
      ·refine ge_one2 ?_
       refine gw (some 15) (.cells #[vI x1.Task, vI x1.At, vI x1.C, vI x1.Due, vI x1.P, vI x1.Task, vI x1.At, vI x1.C, vI x1.Due, vI x1.P, vI x1.Task, vI x1.At, vI x1.C, vI x1.Due, vI x1.P] 58) (fun b => .slice (some ⟨b, 0, none⟩) 3 3) hS5 fun b2 w4 hx2 hS6 => ?_
       refine ge_nil fun a hF => hKK _ _ (RS.of2 (l := []) (by kernel_rfl) trivial trivial) ?_ a hF
       refine go_alt2 (fun KK hKK => ?_) ?_
       ·have hS7 := hS6.bring 1 rfl
        by_cases hc4 : ((List.replicate 0 (⟨0, 0, 0, 0, 0⟩ : SJob)) ++ l0).length + 3 ≤ 3518437208883
        ·rw [if_pos hc4] at h
         refine ge_appendL (α := SJob) (m := 0) (d := 16) (t := 49) (el := 58) (bytes := 40) (c1 := 3) (A1 := (some ⟨b2, 0, none⟩)) (x := (.tmp 11)) (y := (.tmp 15)) (ty := 49) (v := v2) (z := .agg #[vI 0, vI 0, vI 0, vI 0, vI 0]) (l := ((List.replicate 0 (⟨0, 0, 0, 0, 0⟩ : SJob)) ++ l0)) (us := ([x1, x1, x1] : List SJob)) (by kernel_rfl) (by kernel_rfl) (by kernel_rfl) (by kernel_rfl) (by kernel_rfl) rfl hS7 (hS7.rdBlk 1 ([x1, x1, x1] : List SJob) rfl rfl rfl) rfl (Nat.mul_le_of_le_div _ _ _ hc4) fun v3 w5 hS8 => ?_
         have hS9 : St w0 w5 [Own.of v3 58 (((List.replicate 0 (⟨0, 0, 0, 0, 0⟩ : SJob)) ++ l0) ++ ([x1, x1, x1] : List SJob)), Own.blk b2 (.cells #[vI x1.Task, vI x1.At, vI x1.C, vI x1.Due, vI x1.P, vI x1.Task, vI x1.At, vI x1.C, vI x1.Due, vI x1.P, vI x1.Task, vI x1.At, vI x1.C, vI x1.Due, vI x1.P] 58 (0, 0)), Own.blk b1 (.cells #[vI x1.Task, vI x1.At, vI x1.C, vI x1.Due, vI x1.P] 58 (0, 0))] := hS8
         refine ge_nil fun a hF => hKK _ _ (RS.of2 (l := [.loaded ⟨b1, 0, none⟩ (vI x1.Task), .loaded ⟨b1, 1, none⟩ (vI x1.At), .loaded ⟨b1, 2, none⟩ (vI x1.C), .loaded ⟨b1, 3, none⟩ (vI x1.Due), .loaded ⟨b1, 4, none⟩ (vI x1.P), .loaded ⟨b1, 0, none⟩ (vI x1.Task), .loaded ⟨b1, 1, none⟩ (vI x1.At), .loaded ⟨b1, 2, none⟩ (vI x1.C), .loaded ⟨b1, 3, none⟩ (vI x1.Due), .loaded ⟨b1, 4, none⟩ (vI x1.P), .loaded ⟨b1, 0, none⟩ (vI x1.Task), .loaded ⟨b1, 1, none⟩ (vI x1.At), .loaded ⟨b1, 2, none⟩ (vI x1.C), .loaded ⟨b1, 3, none⟩ (vI x1.Due), .loaded ⟨b1, 4, none⟩ (vI x1.P)]) (by kernel_rfl) ⟨hS6.c 2, hS6.c 2, hS6.c 2, hS6.c 2, hS6.c 2, hS6.c 2, hS6.c 2, hS6.c 2, hS6.c 2, hS6.c 2, hS6.c 2, hS6.c 2, hS6.c 2, hS6.c 2, hS6.c 2, trivial⟩ ⟨hS9.c 2, hS9.c 2, hS9.c 2, hS9.c 2, hS9.c 2, hS9.c 2, hS9.c 2, hS9.c 2, hS9.c 2, hS9.c 2, hS9.c 2, hS9.c 2, hS9.c 2, hS9.c 2, hS9.c 2, trivial⟩) ?_ a hF
         refine go2_batch [11] (ans := []) (vs := [(5, v3)]) (l := []) (by kernel_rfl) trivial mem_nil ?_
         refine go_fin2 fun a hF => hK2 _ _ ?_ a hF
         refine ws fun K3 hK3 => ?_
         refine wr [(0, 0), (1, 0), (2, 0), (3, 0), (4, 0)] ?_
         refine gb0 [0, 1, 2] [(19, vI (l0.length : Int)), (18, .slice A0 l0.length c0), (17, v3)] ?_
         obtain ⟨Z1, cz1, rfl, hcp1⟩ := hS9.open2 0 rfl
         refine ge_sliceHi (d := 20) (ty := 49) (t := 49) (el := 58) (sz := 5) (m := ((((List.replicate 0 (⟨0, 0, 0, 0, 0⟩ : SJob)) ++ l0) ++ ([x1, x1, x1] : List SJob)).length)) (c := cz1) (hn := l0.length) (x := (.tmp 17)) (y := (.tmp 19)) (A := Z1) (k' := .i64) (hi := (l0.length : Int)) (by kernel_rfl) (by kernel_rfl) (by kernel_rfl) rfl (by kernel_rfl) (by kernel_rfl) (by have h0 := hcp1; simp only [List.length_append, List.length_cons, List.length_nil] at h0; omega) ?_
         refine gb0 [4] [(4, .slice Z1 l0.length cz1)] ?_
         refine gn hK3 ?_
         have hS10 := hS9.takeN 1
         obtain rfl := si h
         exact we_ret (pr0 [.tmp 4] [.slice Z1 l0.length cz1] ⟨Z1, cz1, rfl, hcp1, hS10⟩)
        ·rw [if_neg hc4] at h
         cases h
       exact go_nomore2
      exact go_nomore2
     ·rw [if_neg hc3] at h
      cases h
    refine go_alt2 (fun KK hKK => ?_) ?_
    ·refine ge_one2 ?_
     refine gw (some 15) (.cells #[vI x1.Task, vI x1.At, vI x1.C, vI x1.Due, vI x1.P, vI x1.Task, vI x1.At, vI x1.C, vI x1.Due, vI x1.P, vI x1.Task, vI x1.At, vI x1.C, vI x1.Due, vI x1.P] 58) (fun b => .slice (some ⟨b, 0, none⟩) 3 3) hS3 fun b2 w3 hx2 hS4 => ?_
     refine ge_nil fun a hF => hKK _ _ (RS.of2 (l := []) (by kernel_rfl) trivial trivial) ?_ a hF
     refine go_alt2 (fun KK hKK => ?_) ?_
     ·have hS5 := hS4.bring 1 rfl
      by_cases hc3 : (List.replicate 0 (⟨0, 0, 0, 0, 0⟩ : SJob)).length + l0.length ≤ 3518437208883
      ·rw [if_pos hc3] at h
       refine ge_appendL (α := SJob) (m := 0) (d := 11) (t := 49) (el := 58) (bytes := 40) (c1 := c0) (A1 := A0) (x := (.tmp 9)) (y := (.tmp 10)) (ty := 49) (v := v1) (z := .agg #[vI 0, vI 0, vI 0, vI 0, vI 0]) (l := (List.replicate 0 (⟨0, 0, 0, 0, 0⟩ : SJob))) (us := l0) (by kernel_rfl) (by kernel_rfl) (by kernel_rfl) (by kernel_rfl) (by kernel_rfl) rfl hS5 (hS5.rd hR0) rfl (Nat.mul_le_of_le_div _ _ _ hc3) fun v2 w4 hS6 => ?_
       have hS7 : St w0 w4 [Own.of v2 58 ((List.replicate 0 (⟨0, 0, 0, 0, 0⟩ : SJob)) ++ l0), Own.blk b2 (.cells #[vI x1.Task, vI x1.At, vI x1.C, vI x1.Due, vI x1.P, vI x1.Task, vI x1.At, vI x1.C, vI x1.Due, vI x1.P, vI x1.Task, vI x1.At, vI x1.C, vI x1.Due, vI x1.P] 58 (0, 0)), Own.blk b1 (.cells #[vI x1.Task, vI x1.At, vI x1.C, vI x1.Due, vI x1.P] 58 (0, 0))] := hS6
       refine ge_nil fun a hF => hKK _ _ (RS.of2 (l := [.loaded ⟨b1, 0, none⟩ (vI x1.Task), .loaded ⟨b1, 1, none⟩ (vI x1.At), .loaded ⟨b1, 2, none⟩ (vI x1.C), .loaded ⟨b1, 3, none⟩ (vI x1.Due), .loaded ⟨b1, 4, none⟩ (vI x1.P), .loaded ⟨b1, 0, none⟩ (vI x1.Task), .loaded ⟨b1, 1, none⟩ (vI x1.At), .loaded ⟨b1, 2, none⟩ (vI x1.C), .loaded ⟨b1, 3, none⟩ (vI x1.Due), .loaded ⟨b1, 4, none⟩ (vI x1.P), .loaded ⟨b1, 0, none⟩ (vI x1.Task), .loaded ⟨b1, 1, none⟩ (vI x1.At), .loaded ⟨b1, 2, none⟩ (vI x1.C), .loaded ⟨b1, 3, none⟩ (vI x1.Due), .loaded ⟨b1, 4, none⟩ (vI x1.P)]) (by kernel_rfl) ⟨hS4.c 2, hS4.c 2, hS4.c 2, hS4.c 2, hS4.c 2, hS4.c 2, hS4.c 2, hS4.c 2, hS4.c 2, hS4.c 2, hS4.c 2, hS4.c 2, hS4.c 2, hS4.c 2, hS4.c 2, trivial⟩ ⟨hS7.c 2, hS7.c 2, hS7.c 2, hS7.c 2, hS7.c 2, hS7.c 2, hS7.c 2, hS7.c 2, hS7.c 2, hS7.c 2, hS7.c 2, hS7.c 2, hS7.c 2, hS7.c 2, hS7.c 2, trivial⟩) ?_ a hF
       refine go_alt2 (fun KK hKK => ?_) ?_
       ·by_cases hc4 : ((List.replicate 0 (⟨0, 0, 0, 0, 0⟩ : SJob)) ++ l0).length + 3 ≤ 3518437208883
        ·rw [if_pos hc4] at h
         refine ge_appendL (α := SJob) (m := 0) (d := 16) (t := 49) (el := 58) (bytes := 40) (c1 := 3) (A1 := (some ⟨b2, 0, none⟩)) (x := (.tmp 11)) (y := (.tmp 15)) (ty := 49) (v := v2) (z := .agg #[vI 0, vI 0, vI 0, vI 0, vI 0]) (l := ((List.replicate 0 (⟨0, 0, 0, 0, 0⟩ : SJob)) ++ l0)) (us := ([x1, x1, x1] : List SJob)) (by kernel_rfl) (by kernel_rfl) (by kernel_rfl) (by kernel_rfl) (by kernel_rfl) rfl hS7 (hS7.rdBlk 1 ([x1, x1, x1] : List SJob) rfl rfl rfl) rfl (Nat.mul_le_of_le_div _ _ _ hc4) fun v3 w5 hS8 => ?_
         have hS9 : St w0 w5 [Own.of v3 58 (((List.replicate 0 (⟨0, 0, 0, 0, 0⟩ : SJob)) ++ l0) ++ ([x1, x1, x1] : List SJob)), Own.blk b2 (.cells #[vI x1.Task, vI x1.At, vI x1.C, vI x1.Due, vI x1.P, vI x1.Task, vI x1.At, vI x1.C, vI x1.Due, vI x1.P, vI x1.Task, vI x1.At, vI x1.C, vI x1.Due, vI x1.P] 58 (0, 0)), Own.blk b1 (.cells #[vI x1.Task, vI x1.At, vI x1.C, vI x1.Due, vI x1.P] 58 (0, 0))] := hS8
         refine ge_nil fun a hF => hKK _ _ (RS.of2 (l := [.loaded ⟨b1, 0, none⟩ (vI x1.Task), .loaded ⟨b1, 1, none⟩ (vI x1.At), .loaded ⟨b1, 2, none⟩ (vI x1.C), .loaded ⟨b1, 3, none⟩ (vI x1.Due), .loaded ⟨b1, 4, none⟩ (vI x1.P), .loaded ⟨b1, 0, none⟩ (vI x1.Task), .loaded ⟨b1, 1, none⟩ (vI x1.At), .loaded ⟨b1, 2, none⟩ (vI x1.C), .loaded ⟨b1, 3, none⟩ (vI x1.Due), .loaded ⟨b1, 4, none⟩ (vI x1.P), .loaded ⟨b1, 0, none⟩ (vI x1.Task), .loaded ⟨b1, 1, none⟩ (vI x1.At), .loaded ⟨b1, 2, none⟩ (vI x1.C), .loaded ⟨b1, 3, none⟩ (vI x1.Due), .loaded ⟨b1, 4, none⟩ (vI x1.P)]) (by kernel_rfl) ⟨hS7.c 2, hS7.c 2, hS7.c 2, hS7.c 2, hS7.c 2, hS7.c 2, hS7.c 2, hS7.c 2, hS7.c 2, hS7.c 2, hS7.c 2, hS7.c 2, hS7.c 2, hS7.c 2, hS7.c 2, trivial⟩ ⟨hS9.c 2, hS9.c 2, hS9.c 2, hS9.c 2, hS9.c 2, hS9.c 2, hS9.c 2, hS9.c 2, hS9.c 2, hS9.c 2, hS9.c 2, hS9.c 2, hS9.c 2, hS9.c 2, hS9.c 2, trivial⟩) ?_ a hF
         refine go2_batch [11] (ans := []) (vs := [(5, v3)]) (l := []) (by kernel_rfl) trivial mem_nil ?_
         refine go_fin2 fun a hF => hK2 _ _ ?_ a hF
         refine ws fun K3 hK3 => ?_
         refine wr [(0, 0), (1, 0), (2, 0), (3, 0), (4, 0)] ?_
         refine gb0 [0, 1, 2] [(19, vI (l0.length : Int)), (18, .slice A0 l0.length c0), (17, v3)] ?_
         obtain ⟨Z1, cz1, rfl, hcp1⟩ := hS9.open2 0 rfl
         refine ge_sliceHi (d := 20) (ty := 49) (t := 49) (el := 58) (sz := 5) (m := ((((List.replicate 0 (⟨0, 0, 0, 0, 0⟩ : SJob)) ++ l0) ++ ([x1, x1, x1] : List SJob)).length)) (c := cz1) (hn := l0.length) (x := (.tmp 17)) (y := (.tmp 19)) (A := Z1) (k' := .i64) (hi := (l0.length : Int)) (by kernel_rfl) (by kernel_rfl) (by kernel_rfl) rfl (by kernel_rfl) (by kernel_rfl) (by have h0 := hcp1; simp only [List.length_append, List.length_cons, List.length_nil] at h0; omega) ?_
         refine gb0 [4] [(4, .slice Z1 l0.length cz1)] ?_
         refine gn hK3 ?_
         have hS10 := hS9.takeN 1
         obtain rfl := si h
         exact we_ret (pr0 [.tmp 4] [.slice Z1 l0.length cz1] ⟨Z1, cz1, rfl, hcp1, hS10⟩)
        ·rw [if_neg hc4] at h
         cases h
       exact go_nomore2
      ·rw [if_neg hc3] at h
       cases h
     exact go_nomore2
    exact go_nomore2
   refine go_alt2 (fun KK hKK => ?_) ?_
   ·refine ge_one2 ?_
    refine gw (some 15) (.cells #[vI x1.Task, vI x1.At, vI x1.C, vI x1.Due, vI x1.P, vI x1.Task, vI x1.At, vI x1.C, vI x1.Due, vI x1.P, vI x1.Task, vI x1.At, vI x1.C, vI x1.Due, vI x1.P] 58) (fun b => .slice (some ⟨b, 0, none⟩) 3 3) hS2 fun b2 w2 hx2 hS3 => ?_
    refine ge_nil fun a hF => hKK _ _ (RS.of2 (l := []) (by kernel_rfl) trivial trivial) ?_ a hF
    refine go_alt2 (fun KK hKK => ?_) ?_
    ·refine ge_one2 ?_
     refine ge_make (α := SJob) (d := 9) (t := 49) (el := 58) (bytes := 40) (l := 0) (c := ((IntKind.i64.wrap ((l0.length : Int) + 3)).toNat)) (x := (.const (vI 0))) (y := (.tmp 8)) (ty := 49) (k1 := .i64) (k2 := .i64) (li := 0) (ci := (IntKind.i64.wrap ((l0.length : Int) + 3))) (z := .agg #[vI 0, vI 0, vI 0, vI 0, vI 0]) (z' := (⟨0, 0, 0, 0, 0⟩ : SJob)) (by kernel_rfl) (by kernel_rfl) (by kernel_rfl) rfl (Int.toNat_of_nonneg hc1).symm (by kernel_rfl) (by kernel_rfl) rfl hS3 (Nat.zero_le _) rfl (by omega) fun v1 w3 _ hS4 => ?_
     refine ge_nil fun a hF => hKK _ _ (RS.of2 (l := [.loaded ⟨b1, 0, none⟩ (vI x1.Task), .loaded ⟨b1, 1, none⟩ (vI x1.At), .loaded ⟨b1, 2, none⟩ (vI x1.C), .loaded ⟨b1, 3, none⟩ (vI x1.Due), .loaded ⟨b1, 4, none⟩ (vI x1.P), .loaded ⟨b1, 0, none⟩ (vI x1.Task), .loaded ⟨b1, 1, none⟩ (vI x1.At), .loaded ⟨b1, 2, none⟩ (vI x1.C), .loaded ⟨b1, 3, none⟩ (vI x1.Due), .loaded ⟨b1, 4, none⟩ (vI x1.P), .loaded ⟨b1, 0, none⟩ (vI x1.Task), .loaded ⟨b1, 1, none⟩ (vI x1.At), .loaded ⟨b1, 2, none⟩ (vI x1.C), .loaded ⟨b1, 3, none⟩ (vI x1.Due), .loaded ⟨b1, 4, none⟩ (vI x1.P)]) (by kernel_rfl) ⟨hS3.c 1, hS3.c 1, hS3.c 1, hS3.c 1, hS3.c 1, hS3.c 1, hS3.c 1, hS3.c 1, hS3.c 1, hS3.c 1, hS3.c 1, hS3.c 1, hS3.c 1, hS3.c 1, hS3.c 1, trivial⟩ ⟨hS4.c 2, hS4.c 2, hS4.c 2, hS4.c 2, hS4.c 2, hS4.c 2, hS4.c 2, hS4.c 2, hS4.c 2, hS4.c 2, hS4.c 2, hS4.c 2, hS4.c 2, hS4.c 2, hS4.c 2, trivial⟩) ?_ a hF
     refine go_alt2 (fun KK hKK => ?_) ?_
     ·by_cases hc3 : (List.replicate 0 (⟨0, 0, 0, 0, 0⟩ : SJob)).length + l0.length ≤ 3518437208883
      ·rw [if_pos hc3] at h
       refine ge_appendL (α := SJob) (m := 0) (d := 11) (t := 49) (el := 58) (bytes := 40) (c1 := c0) (A1 := A0) (x := (.tmp 9)) (y := (.tmp 10)) (ty := 49) (v := v1) (z := .agg #[vI 0, vI 0, vI 0, vI 0, vI 0]) (l := (List.replicate 0 (⟨0, 0, 0, 0, 0⟩ : SJob))) (us := l0) (by kernel_rfl) (by kernel_rfl) (by kernel_rfl) (by kernel_rfl) (by kernel_rfl) rfl hS4 (hS4.rd hR0) rfl (Nat.mul_le_of_le_div _ _ _ hc3) fun v2 w4 hS5 => ?_
       have hS6 : St w0 w4 [Own.of v2 58 ((List.replicate 0 (⟨0, 0, 0, 0, 0⟩ : SJob)) ++ l0), Own.blk b2 (.cells #[vI x1.Task, vI x1.At, vI x1.C, vI x1.Due, vI x1.P, vI x1.Task, vI x1.At, vI x1.C, vI x1.Due, vI x1.P, vI x1.Task, vI x1.At, vI x1.C, vI x1.Due, vI x1.P] 58 (0, 0)), Own.blk b1 (.cells #[vI x1.Task, vI x1.At, vI x1.C, vI x1.Due, vI x1.P] 58 (0, 0))] := hS5
       refine ge_nil fun a hF => hKK _ _ (RS.of2 (l := [.loaded ⟨b1, 0, none⟩ (vI x1.Task), .loaded ⟨b1, 1, none⟩ (vI x1.At), .loaded ⟨b1, 2, none⟩ (vI x1.C), .loaded ⟨b1, 3, none⟩ (vI x1.Due), .loaded ⟨b1, 4, none⟩ (vI x1.P), .loaded ⟨b1, 0, none⟩ (vI x1.Task), .loaded ⟨b1, 1, none⟩ (vI x1.At), .loaded ⟨b1, 2, none⟩ (vI x1.C), .loaded ⟨b1, 3, none⟩ (vI x1.Due), .loaded ⟨b1, 4, none⟩ (vI x1.P), .loaded ⟨b1, 0, none⟩ (vI x1.Task), .loaded ⟨b1, 1, none⟩ (vI x1.At), .loaded ⟨b1, 2, none⟩ (vI x1.C), .loaded ⟨b1, 3, none⟩ (vI x1.Due), .loaded ⟨b1, 4, none⟩ (vI x1.P)]) (by kernel_rfl) ⟨hS4.c 2, hS4.c 2, hS4.c 2, hS4.c 2, hS4.c 2, hS4.c 2, hS4.c 2, hS4.c 2, hS4.c 2, hS4.c 2, hS4.c 2, hS4.c 2, hS4.c 2, hS4.c 2, hS4.c 2, trivial⟩ ⟨hS6.c 2, hS6.c 2, hS6.c 2, hS6.c 2, hS6.c 2, hS6.c 2, hS6.c 2, hS6.c 2, hS6.c 2, hS6.c 2, hS6.c 2, hS6.c 2, hS6.c 2, hS6.c 2, hS6.c 2, trivial⟩) ?_ a hF
       refine go_alt2 (fun KK hKK => ?_) ?_
       ·by_cases hc4 : ((List.replicate 0 (⟨0, 0, 0, 0, 0⟩ : SJob)) ++ l0).length + 3 ≤ 3518437208883
        ·rw [if_pos hc4] at h
         refine ge_appendL (α := SJob) (m := 0) (d := 16) (t := 49) (el := 58) (bytes := 40) (c1 := 3) (A1 := (some ⟨b2, 0, none⟩)) (x := (.tmp 11)) (y := (.tmp 15)) (ty := 49) (v := v2) (z := .agg #[vI 0, vI 0, vI 0, vI 0, vI 0]) (l := ((List.replicate 0 (⟨0, 0, 0, 0, 0⟩ : SJob)) ++ l0)) (us := ([x1, x1, x1] : List SJob)) (by kernel_rfl) (by kernel_rfl) (by kernel_rfl) (by kernel_rfl) (by kernel_rfl) rfl hS6 (hS6.rdBlk 1 ([x1, x1, x1] : List SJob) rfl rfl rfl) rfl (Nat.mul_le_of_le_div _ _ _ hc4) fun v3 w5 hS7 => ?_
         have hS8 : St w0 w5 [Own.of v3 58 (((List.replicate 0 (⟨0, 0, 0, 0, 0⟩ : SJob)) ++ l0) ++ ([x1, x1, x1] : List SJob)), Own.blk b2 (.cells #[vI x1.Task, vI x1.At, vI x1.C, vI x1.Due, vI x1.P, vI x1.Task, vI x1.At, vI x1.C, vI x1.Due, vI x1.P, vI x1.Task, vI x1.At, vI x1.C, vI x1.Due, vI x1.P] 58 (0, 0)), Own.blk b1 (.cells #[vI x1.Task, vI x1.At, vI x1.C, vI x1.Due, vI x1.P] 58 (0, 0))] := hS7
         refine ge_nil fun a hF => hKK _ _ (RS.of2 (l := [.loaded ⟨b1, 0, none⟩ (vI x1.Task), .loaded ⟨b1, 1, none⟩ (vI x1.At), .loaded ⟨b1, 2, none⟩ (vI x1.C), .loaded ⟨b1, 3, none⟩ (vI x1.Due), .loaded ⟨b1, 4, none⟩ (vI x1.P), .loaded ⟨b1, 0, none⟩ (vI x1.Task), .loaded ⟨b1, 1, none⟩ (vI x1.At), .loaded ⟨b1, 2, none⟩ (vI x1.C), .loaded ⟨b1, 3, none⟩ (vI x1.Due), .loaded ⟨b1, 4, none⟩ (vI x1.P), .loaded ⟨b1, 0, none⟩ (vI x1.Task), .loaded ⟨b1, 1, none⟩ (vI x1.At), .loaded ⟨b1, 2, none⟩ (vI x1.C), .loaded ⟨b1, 3, none⟩ (vI x1.Due), .loaded ⟨b1, 4, none⟩ (vI x1.P)]) (by kernel_rfl) ⟨hS6.c 2, hS6.c 2, hS6.c 2, hS6.c 2, hS6.c 2, hS6.c 2, hS6.c 2, hS6.c 2, hS6.c 2, hS6.c 2, hS6.c 2, hS6.c 2, hS6.c 2, hS6.c 2, hS6.c 2, trivial⟩ ⟨hS8.c 2, hS8.c 2, hS8.c 2, hS8.c 2, hS8.c 2, hS8.c 2, hS8.c 2, hS8.c 2, hS8.c 2, hS8.c 2, hS8.c 2, hS8.c 2, hS8.c 2, hS8.c 2, hS8.c 2, trivial⟩) ?_ a hF
         refine go2_batch [11] (ans := []) (vs := [(5, v3)]) (l := []) (by kernel_rfl) trivial mem_nil ?_
         refine go_fin2 fun a hF => hK2 _ _ ?_ a hF
         refine ws fun K3 hK3 => ?_
         refine wr [(0, 0), (1, 0), (2, 0), (3, 0), (4, 0)] ?_
         refine gb0 [0, 1, 2] [(19, vI (l0.length : Int)), (18, .slice A0 l0.length c0), (17, v3)] ?_
         obtain ⟨Z1, cz1, rfl, hcp1⟩ := hS8.open2 0 rfl
         refine ge_sliceHi (d := 20) (ty := 49) (t := 49) (el := 58) (sz := 5) (m := ((((List.replicate 0 (⟨0, 0, 0, 0, 0⟩ : SJob)) ++ l0) ++ ([x1, x1, x1] : List SJob)).length)) (c := cz1) (hn := l0.length) (x := (.tmp 17)) (y := (.tmp 19)) (A := Z1) (k' := .i64) (hi := (l0.length : Int)) (by kernel_rfl) (by kernel_rfl) (by kernel_rfl) rfl (by kernel_rfl) (by kernel_rfl) (by have h0 := hcp1; simp only [List.length_append, List.length_cons, List.length_nil] at h0; omega) ?_
         refine gb0 [4] [(4, .slice Z1 l0.length cz1)] ?_
         refine gn hK3 ?_
         have hS9 := hS8.takeN 1
         obtain rfl := si h
         exact we_ret (pr0 [.tmp 4] [.slice Z1 l0.length cz1] ⟨Z1, cz1, rfl, hcp1, hS9⟩)
        ·rw [if_neg hc4] at h
         cases h
       exact go_nomore2
      ·rw [if_neg hc3] at h
       cases h
     exact go_nomore2
    exact go_nomore2
   exact go_nomore2
  ·rw [if_neg hc2] at h
   cases h
 ·rw [if_neg hc1] at h
  cases h
theorem punctualsame_Lend_api_Job_full (l0 : List SJob) (x1 : SJob) {r : List SJob} (h : punctualsame_Lend_api_Job.f l0 x1 = some r) : r = l0 ++ [x1, x1, x1] := by
 unfold punctualsame_Lend_api_Job.f at h
 repeat' split at h
 all_goals first | (exact (Option.some.inj h).symm) | cases h

/-! punctual/punctualref.F -/
abbrev punctualref_F.Post (w0 : World) (r : SFault) (e : Ending) (w : World) : Prop := e = .returned (.agg #[vI r.Code, vI r.At]) ∧ St w0 w []
def punctualref_F.f (x0 : Int) (x1 : Int) : SFault :=
 (⟨x0, x1⟩ : SFault)
theorem punctualref_F_ok (x0 : Int) (x1 : Int) (w0 : World) (r : SFault) (h : punctualref_F.f x0 x1 = r) :
  Calls Tryd.prog 74 #[vI x0, vI x1] w0 (punctualref_F.Post w0 r) := by
 have hS := St.start w0
 unfold punctualref_F.f at h
 refine calls_enter (n := 8) (args := [vI x0, vI x1]) (fn := Tryd.f74) rfl rfl rfl rfl ?_
 show WE _ _ _ _ [(0, vI x0), (1, vI x1)] _
 refine ws fun K1 hK1 => ?_
 refine wr [(0, 1)] ?_
 refine gw (some 4) (.cells #[vI 0, vI 0] 39) (fun b => pP b 0) hS fun b1 w1 hx1 hS1 => ?_
 refine gn hK1 ?_
 refine ws fun K2 hK2 => ?_
 refine wr [(0, 0), (1, 0), (2, 0), (3, 2)] ?_
 refine gb0 [0, 1, 2] [(7, .agg #[vI x0, vI x1]), (6, vI x1), (5, vI x0)] ?_
 refine gs b1 0 #[vI 0, vI 0] 39 [vI x0, vI x1] hS1 fun w2 hS2 => ?_
 have hS3 : St w0 w2 [Own.blk b1 (.cells #[vI x0, vI x1] 39 (0, 0))] := hS2
 refine gn hK2 ?_
 have hS4 := hS3.takeN 0
 subst h
 exact we_ret (pr [.cell 4 39] [.agg #[vI x0, vI x1]] [.loaded ⟨b1, 0, none⟩ (vI x0), .loaded ⟨b1, 1, none⟩ (vI x1)] ⟨hS3.c 0, hS3.c 0, trivial⟩ ⟨rfl, hS4⟩)

structure A6Int where
 a0 : Int
 a1 : Int
 a2 : Int
 a3 : Int
 a4 : Int
 a5 : Int
def A6Int.eqb (x y : A6Int) : Bool := ((x.a0 == y.a0) && ((x.a1 == y.a1) && ((x.a2 == y.a2) && ((x.a3 == y.a3) && ((x.a4 == y.a4) && ((x.a5 == y.a5) && true))))))
instance : Ok A6Int := ⟨fun x => Ok.ok x.a0 ∧ Ok.ok x.a1 ∧ Ok.ok x.a2 ∧ Ok.ok x.a3 ∧ Ok.ok x.a4 ∧ Ok.ok x.a5 ∧ True⟩
instance : Flat A6Int := ⟨6, fun x => [vI x.a0, vI x.a1, vI x.a2, vI x.a3, vI x.a4, vI x.a5], fun _ => rfl, fun _ => rfl, by decide⟩

/-! punctual/punctualref.sixOf -/
abbrev punctualref_sixOf.Post (w0 : World) (r : A6Int) (e : Ending) (w : World) : Prop := e = .returned (.agg #[vI r.a0, vI r.a1, vI r.a2, vI r.a3, vI r.a4, vI r.a5]) ∧ St w0 w []
def punctualref_sixOf.f (x0 : STask) : A6Int :=
 (⟨x0.C, x0.T, x0.D, x0.J, x0.O, x0.P⟩ : A6Int)
theorem punctualref_sixOf_ok (x0 : STask) (w0 : World) (r : A6Int) (h : punctualref_sixOf.f x0 = r) :
  Calls Tryd.prog 199 #[.agg #[.string x0.Name, vI x0.C, vI x0.T, vI x0.D, vI x0.J, vI x0.O, vI x0.P]] w0 (punctualref_sixOf.Post w0 r) := by
 have hS := St.start w0
 unfold punctualref_sixOf.f at h
 refine calls_enter (n := 16) (args := [.agg #[.string x0.Name, vI x0.C, vI x0.T, vI x0.D, vI x0.J, vI x0.O, vI x0.P]]) (fn := Tryd.f199) rfl rfl rfl rfl ?_
 show WE _ _ _ _ [(0, .agg #[.string x0.Name, vI x0.C, vI x0.T, vI x0.D, vI x0.J, vI x0.O, vI x0.P])] _
 refine ws fun K1 hK1 => ?_
 refine wr [(0, 1), (1, 1)] ?_
 refine gw (some 1) (.cells #[.string x0.Name, vI x0.C, vI x0.T, vI x0.D, vI x0.J, vI x0.O, vI x0.P] 51) (fun b => pP b 0) hS fun b1 w1 hx1 hS1 => ?_
 refine gw (some 2) (.cells #[vI 0, vI 0, vI 0, vI 0, vI 0, vI 0] 221) (fun b => pP b 0) hS1 fun b2 w2 hx2 hS2 => ?_
 refine gn hK1 ?_
 refine ws fun K2 hK2 => ?_
 refine wr [(0, 0), (1, 0), (2, 0), (3, 0), (4, 0), (5, 0), (6, 0), (7, 0), (8, 0), (9, 0), (10, 0), (11, 0), (12, 0), (13, 2)] ?_
 refine gb [0, 1, 2, 3, 4, 5, 6, 7, 8, 9, 10, 11, 12] [(15, .agg #[vI x0.C, vI x0.T, vI x0.D, vI x0.J, vI x0.O, vI x0.P]), (14, vI x0.P), (13, pP b1 6), (12, vI x0.O), (11, pP b1 5), (10, vI x0.J), (9, pP b1 4), (8, vI x0.D), (7, pP b1 3), (6, vI x0.T), (5, pP b1 2), (4, vI x0.C), (3, pP b1 1)] [.loaded ⟨b1, 1, none⟩ (vI x0.C), .loaded ⟨b1, 2, none⟩ (vI x0.T), .loaded ⟨b1, 3, none⟩ (vI x0.D), .loaded ⟨b1, 4, none⟩ (vI x0.J), .loaded ⟨b1, 5, none⟩ (vI x0.O), .loaded ⟨b1, 6, none⟩ (vI x0.P)] ⟨hS2.c 1, hS2.c 1, hS2.c 1, hS2.c 1, hS2.c 1, hS2.c 1, trivial⟩ ?_
 refine gs b2 0 #[vI 0, vI 0, vI 0, vI 0, vI 0, vI 0] 221 [vI x0.C, vI x0.T, vI x0.D, vI x0.J, vI x0.O, vI x0.P] hS2 fun w3 hS3 => ?_
 have hS4 : St w0 w3 [Own.blk b2 (.cells #[vI x0.C, vI x0.T, vI x0.D, vI x0.J, vI x0.O, vI x0.P] 221 (0, 0)), Own.blk b1 (.cells #[.string x0.Name, vI x0.C, vI x0.T, vI x0.D, vI x0.J, vI x0.O, vI x0.P] 51 (0, 0))] := hS3
 refine gn hK2 ?_
 have hS5 := hS4.takeN 0
 subst h
 exact we_ret (pr [.cell 2 221] [.agg #[vI x0.C, vI x0.T, vI x0.D, vI x0.J, vI x0.O, vI x0.P]] [.loaded ⟨b2, 0, none⟩ (vI x0.C), .loaded ⟨b2, 1, none⟩ (vI x0.T), .loaded ⟨b2, 2, none⟩ (vI x0.D), .loaded ⟨b2, 3, none⟩ (vI x0.J), .loaded ⟨b2, 4, none⟩ (vI x0.O), .loaded ⟨b2, 5, none⟩ (vI x0.P)] ⟨hS4.c 0, hS4.c 0, hS4.c 0, hS4.c 0, hS4.c 0, hS4.c 0, trivial⟩ ⟨rfl, hS5⟩)

/-! punctual/punctualref.CheckSet -/
abbrev punctualref_CheckSet.Post (w0 : World) (r : SFault) (e : Ending) (w : World) : Prop := e = .returned (.agg #[vI r.Code, vI r.At]) ∧ St w0 w []
def punctualref_CheckSet.p0 (l0 : List STask) : Option (Unit ⊕ SFault) :=
  if (l0.length : Int) = 0 then
   some (.inr (punctualref_F.f 2 0))
  else
   if (l0.length : Int) > 8 then
    some (.inr (punctualref_F.f 2 0))
   else
    some (.inl ())
def punctualref_CheckSet.p2 (e1 : STask) : Option (Bool ⊕ SFault) :=
  if (e1.Name.size : Int) ≥ 1 then
   some (.inl (decide ((e1.Name.size : Int) ≤ 10)))
  else
   some (.inl false)
def punctualref_CheckSet.r3 (e1 : STask) : Bool × Int → Option ((Bool × Int) ⊕ (Bool ⊕ SFault))
 | (q3, z1) =>
  if z1 < (e1.Name.size : Int) then
   if q3 = true then
    if 0 ≤ z1 then
     match e1.Name[(z1).toNat]? with
     | none => none
     | some b3 =>
      if (b3.toNat : Int) ≥ 97 then
       some (.inl (decide ((b3.toNat : Int) ≤ 122), IntKind.i64.wrap (z1 + 1)))
      else
       some (.inl (false, IntKind.i64.wrap (z1 + 1)))
    else
     none
   else
    some (.inl (false, IntKind.i64.wrap (z1 + 1)))
  else
   some (.inr (.inl q3))
def punctualref_CheckSet.r4 (l0 : List STask) (i1 : Nat) (e1 : STask) : Nat → Option (Nat ⊕ (Unit ⊕ SFault))
 | i2 =>
  if (i2 : Int) < (((l0.take i1).drop 0).length : Int) then
   match ((l0.take i1).drop 0)[i2]? with
   | none => none
   | some e2 =>
    if e2.Name.toList = e1.Name.toList then
     some (.inr (.inr (punctualref_F.f 5 (i1 : Int))))
    else
     some (.inl (i2 + 1))
  else
   some (.inr (.inl ()))
def punctualref_CheckSet.r5 (i1 : Nat) (e1 : STask) : Nat → Option (Nat ⊕ (Unit ⊕ SFault))
 | i3 =>
  if (i3 : Int) < 6 then
   match ([(punctualref_sixOf.f e1).a0, (punctualref_sixOf.f e1).a1, (punctualref_sixOf.f e1).a2, (punctualref_sixOf.f e1).a3, (punctualref_sixOf.f e1).a4, (punctualref_sixOf.f e1).a5] : List Int)[i3]? with
   | none => none
   | some e3 =>
    match ([1, 1, 1, 0, 0, 0] : List Int)[i3]? with
    | none => none
    | some e4 =>
     if e3 < e4 then
      some (.inr (.inr (punctualref_F.f 3 (i1 : Int))))
     else
      match ([10000, 10000, 10000, 10000, 10000, 1000] : List Int)[i3]? with
      | none => none
      | some e5 =>
       if e3 > e5 then
        some (.inr (.inr (punctualref_F.f 3 (i1 : Int))))
       else
        some (.inl (i3 + 1))
  else
   some (.inr (.inl ()))
def punctualref_CheckSet.r1 (K : Nat) (l0 : List STask) : Nat → Option (Nat ⊕ (Unit ⊕ SFault))
 | i1 =>
  if (i1 : Int) < (l0.length : Int) then
   match l0[i1]? with
   | none => none
   | some e1 =>
    match punctualref_CheckSet.p2 e1 with
    | none => none
    | some (.inl q2) =>
     match iter (punctualref_CheckSet.r3 e1) K (q2, 0) with
     | none => none
     | some (.inl q5) =>
      if q5 = true then
       if i1 ≤ l0.length then
        match iter (punctualref_CheckSet.r4 l0 i1 e1) K 0 with
        | none => none
        | some (.inl _) =>
         match iter (punctualref_CheckSet.r5 i1 e1) K 0 with
         | none => none
         | some (.inl _) =>
          if e1.D < e1.C then
           some (.inr (.inr (punctualref_F.f 12 (i1 : Int))))
          else
           some (.inl (i1 + 1))
         | some (.inr rr1) =>
          some (.inr (.inr rr1))
        | some (.inr rr2) =>
         some (.inr (.inr rr2))
       else
        none
      else
       some (.inr (.inr (punctualref_F.f 4 (i1 : Int))))
     | some (.inr rr3) =>
      some (.inr (.inr rr3))
    | some (.inr rr4) =>
     some (.inr (.inr rr4))
  else
   some (.inr (.inl ()))
def punctualref_CheckSet.f (K : Nat) (l0 : List STask) : Option SFault :=
 match punctualref_CheckSet.p0 l0 with
 | none => none
 | some (.inl _) =>
  match iter (punctualref_CheckSet.r1 K l0) K 0 with
  | none => none
  | some (.inl _) =>
   some (⟨0, 0⟩ : SFault)
  | some (.inr rr5) =>
   some rr5
 | some (.inr rr6) =>
  some rr6
abbrev punctualref_CheckSet.A0 (w0 : World) (l0 : List STask) (A0 : Option Addr) (c0 : Nat) (b1 : Nat) : Unit → Act → World → Prop := fun (s : Unit) a w => St w0 w [Own.blk b1 (.cells #[vI 0, vI 0] 39 (0, 0))] ∧ Frm 113 a [(0, .slice A0 l0.length c0), (2, pP b1 0)]
abbrev punctualref_CheckSet.B0 (w0 : World) : SFault → Exit → Act → World → Prop := Rets Tryd.prog Tryd.f178 (punctualref_CheckSet.Post w0)
theorem punctualref_CheckSet_p0 (K : Nat) (w0 : World) (l0 : List STask) (A0 : Option Addr) (c0 : Nat) (hR0 : RdL w0 A0 l0) (hL0 : l0.length ≤ c0) (b1 : Nat) (o : Unit ⊕ SFault) (h : punctualref_CheckSet.p0 l0 = some o) (w : World) (hS : St w0 w [Own.blk b1 (.cells #[vI 0, vI 0] 39 (0, 0))]) (Q : Exit → Act → World → Prop) (hQ : ∀ x a w, Outs (punctualref_CheckSet.A0 w0 l0 A0 c0 b1) (punctualref_CheckSet.B0 w0) o x a w → Q x a w) : WE Tryd.prog 113 (subF Tryd.f178 [1, 0]) Q [(0, .slice A0 l0.length c0), (2, pP b1 0)] w := by
 simp only [punctualref_CheckSet.p0] at h
 refine ws fun K3 hK3 => ?_
 refine wr [(0, 0), (1, 0), (2, 0), (3, 0), (4, 0), (5, 0), (6, 0), (7, 0)] ?_
 refine gb0 [0, 1, 2, 3] [(16, .bool ((l0.length : Int) == 0)), (15, .bool ((l0.length : Int) == 0)), (14, vI (l0.length : Int)), (13, .slice A0 l0.length c0)] ?_
 by_cases hc1 : (l0.length : Int) = 0
 ·rw [if_pos hc1] at h
  refine gk 16 ((l0.length : Int) == 0) true (beq_iff_eq.2 hc1) ?_
  refine gb0 [4, 5, 6, 7] [(20, .bool true), (19, undef), (18, undef), (17, undef)] ?_
  refine gn hK3 ?_
  refine we_true (by kernel_rfl) ?_
  refine ws fun K4 hK4 => ?_
  refine wr [(0, 1), (1, 2)] ?_
  refine ge_call (d := some 21) (f := 74) (args := #[vI 2, vI 0]) (by kernel_rfl) (punctualref_F_ok 2 0 _ _ rfl) ?_
  rintro _ w2 ⟨rfl, hS2⟩
  refine ⟨_, rfl, hS2.below, ?_⟩
  have hS3 := hS.call hS2
  refine gs b1 0 #[vI 0, vI 0] 39 [vI ((punctualref_F.f 2 0).Code), vI ((punctualref_F.f 2 0).At)] hS3 fun w3 hS4 => ?_
  have hS5 : St w0 w3 [Own.blk b1 (.cells #[vI ((punctualref_F.f 2 0).Code), vI ((punctualref_F.f 2 0).At)] 39 (0, 0))] := hS4
  refine gn hK4 ?_
  have hS6 := hS5.takeN 0
  obtain rfl := si h
  exact we_ret fun a hF => hQ _ _ _ (Outs.out nofun ⟨rfl, (pr [.cell 2 39] [.agg #[vI ((punctualref_F.f 2 0).Code), vI ((punctualref_F.f 2 0).At)]] [.loaded ⟨b1, 0, none⟩ (vI ((punctualref_F.f 2 0).Code)), .loaded ⟨b1, 1, none⟩ (vI ((punctualref_F.f 2 0).At))] ⟨hS5.c 0, hS5.c 0, trivial⟩ ⟨rfl, hS6⟩) a hF⟩)
 ·rw [if_neg hc1] at h
  refine gk 16 ((l0.length : Int) == 0) false (beq_eq_false_iff_ne.2 hc1) ?_
  refine gb0 [4, 5, 6, 7] [(20, .bool (decide ((l0.length : Int) > 8))), (19, .bool (decide ((l0.length : Int) > 8))), (18, vI (l0.length : Int)), (17, .slice A0 l0.length c0)] ?_
  refine gn hK3 ?_
  by_cases hc2 : (l0.length : Int) > 8
  ·rw [if_pos hc2] at h
   refine wk 20 (decide ((l0.length : Int) > 8)) true (decide_eq_true hc2) ?_
   refine we_true (by kernel_rfl) ?_
   refine ws fun K5 hK5 => ?_
   refine wr [(0, 1), (1, 2)] ?_
   refine ge_call (d := some 21) (f := 74) (args := #[vI 2, vI 0]) (by kernel_rfl) (punctualref_F_ok 2 0 _ _ rfl) ?_
   rintro _ w4 ⟨rfl, hS7⟩
   refine ⟨_, rfl, hS7.below, ?_⟩
   have hS8 := hS.call hS7
   refine gs b1 0 #[vI 0, vI 0] 39 [vI ((punctualref_F.f 2 0).Code), vI ((punctualref_F.f 2 0).At)] hS8 fun w5 hS9 => ?_
   have hS10 : St w0 w5 [Own.blk b1 (.cells #[vI ((punctualref_F.f 2 0).Code), vI ((punctualref_F.f 2 0).At)] 39 (0, 0))] := hS9
   refine gn hK5 ?_
   have hS11 := hS10.takeN 0
   obtain rfl := si h
   exact we_ret fun a hF => hQ _ _ _ (Outs.out nofun ⟨rfl, (pr [.cell 2 39] [.agg #[vI ((punctualref_F.f 2 0).Code), vI ((punctualref_F.f 2 0).At)]] [.loaded ⟨b1, 0, none⟩ (vI ((punctualref_F.f 2 0).Code)), .loaded ⟨b1, 1, none⟩ (vI ((punctualref_F.f 2 0).At))] ⟨hS10.c 0, hS10.c 0, trivial⟩ ⟨rfl, hS11⟩) a hF⟩)
  ·rw [if_neg hc2] at h
   refine wk 20 (decide ((l0.length : Int) > 8)) false (decide_eq_false hc2) ?_
   refine we_false (by kernel_rfl) ?_
   obtain rfl := si h
   exact we_skip fun a hF => hQ _ _ _ (Outs.again ⟨hS, hF.weaken ea⟩)
abbrev punctualref_CheckSet.A2 (w0 : World) (l0 : List STask) (A0 : Option Addr) (c0 : Nat) (b1 : Nat) (i1 : Nat) (e1 : STask) (b2 : Nat) : Bool → Act → World → Prop := fun (s : Bool) a w => St w0 w [Own.blk b2 (.cells #[.string e1.Name, vI e1.C, vI e1.T, vI e1.D, vI e1.J, vI e1.O, vI e1.P] 51 (0, 0)), Own.blk b1 (.cells #[vI 0, vI 0] 39 (0, 0))] ∧ Frm 113 a [(0, .slice A0 l0.length c0), (2, pP b1 0), (3, vI (i1 : Int)), (4, pP b2 0), (5, .bool s), (22, .slice A0 l0.length c0), (23, vI (l0.length : Int)), (24, vI (i1 : Int))]
abbrev punctualref_CheckSet.B2 (w0 : World) : SFault → Exit → Act → World → Prop := Rets Tryd.prog Tryd.f178 (punctualref_CheckSet.Post w0)
theorem punctualref_CheckSet_p2 (K : Nat) (w0 : World) (l0 : List STask) (A0 : Option Addr) (c0 : Nat) (hR0 : RdL w0 A0 l0) (hL0 : l0.length ≤ c0) (b1 : Nat) (i1 : Nat) (hc3 : (i1 : Int) < (l0.length : Int)) (e1 : STask) (hx2 : l0[i1]? = some e1) (b2 : Nat) (o : Bool ⊕ SFault) (h : punctualref_CheckSet.p2 e1 = some o) (w : World) (hS : St w0 w [Own.blk b2 (.cells #[.string e1.Name, vI e1.C, vI e1.T, vI e1.D, vI e1.J, vI e1.O, vI e1.P] 51 (0, 0)), Own.blk b1 (.cells #[vI 0, vI 0] 39 (0, 0))]) (Q : Exit → Act → World → Prop) (hQ : ∀ x a w, Outs (punctualref_CheckSet.A2 w0 l0 A0 c0 b1 i1 e1 b2) (punctualref_CheckSet.B2 w0) o x a w → Q x a w) : WE Tryd.prog 113 (subF Tryd.f178 [1, 1, 0, 1, 0, 0, 1, 1, 0, 0, 1, 0]) Q [(0, .slice A0 l0.length c0), (2, pP b1 0), (3, vI (i1 : Int)), (4, pP b2 0), (22, .slice A0 l0.length c0), (23, vI (l0.length : Int)), (24, vI (i1 : Int)), (25, .bool true), (26, vI (i1 : Int)), (27, .pointer (some ⟨blkOf A0, offOf A0 + i1 * 7, none⟩)), (28, .agg #[.string e1.Name, vI e1.C, vI e1.T, vI e1.D, vI e1.J, vI e1.O, vI e1.P])] w := by
 simp only [punctualref_CheckSet.p2] at h
 refine wr [(0, 0), (1, 0), (2, 0), (3, 0), (4, 0), (5, 0), (6, 0), (7, 0), (8, 0), (9, 0), (10, 0)] ?_
 refine gb [0, 1, 2, 3, 4] [(33, .bool (decide ((e1.Name.size : Int) ≥ 1))), (32, .bool (decide ((e1.Name.size : Int) ≥ 1))), (31, vI (e1.Name.size : Int)), (30, .string e1.Name), (29, pP b2 0)] [.loaded ⟨b2, 0, none⟩ (.string e1.Name)] ⟨hS.c 0, trivial⟩ ?_
 by_cases hc4 : (e1.Name.size : Int) ≥ 1
 ·rw [if_pos hc4] at h
  refine gk 33 (decide ((e1.Name.size : Int) ≥ 1)) true (decide_eq_true hc4) ?_
  refine gb [5, 6, 7, 8, 9, 10] [(5, .bool (decide ((e1.Name.size : Int) ≤ 10))), (38, .bool (decide ((e1.Name.size : Int) ≤ 10))), (37, .bool (decide ((e1.Name.size : Int) ≤ 10))), (36, vI (e1.Name.size : Int)), (35, .string e1.Name), (34, pP b2 0)] [.loaded ⟨b2, 0, none⟩ (.string e1.Name)] ⟨hS.c 0, trivial⟩ ?_
  have hS16 := hS.bring 1 rfl
  have hS17 := hS16.bring 1 rfl
  obtain rfl := si h
  exact ge_nil fun a hF => hQ _ _ _ (Outs.again ⟨hS17, hF.weaken ea⟩)
 ·rw [if_neg hc4] at h
  refine gk 33 (decide ((e1.Name.size : Int) ≥ 1)) false (decide_eq_false hc4) ?_
  refine gb0 [5, 6, 7, 8, 9, 10] [(5, .bool false), (38, .bool false), (37, undef), (36, undef), (35, undef), (34, undef)] ?_
  have hS18 := hS.bring 1 rfl
  have hS19 := hS18.bring 1 rfl
  obtain rfl := si h
  exact ge_nil fun a hF => hQ _ _ _ (Outs.again ⟨hS19, hF.weaken ea⟩)
abbrev punctualref_CheckSet.A3 (w0 : World) (l0 : List STask) (A0 : Option Addr) (c0 : Nat) (b1 : Nat) (i1 : Nat) (e1 : STask) (b2 : Nat) : (Bool × Int) → Act → World → Prop := fun (s : Bool × Int) a w => St w0 w [Own.blk b2 (.cells #[.string e1.Name, vI e1.C, vI e1.T, vI e1.D, vI e1.J, vI e1.O, vI e1.P] 51 (0, 0)), Own.blk b1 (.cells #[vI 0, vI 0] 39 (0, 0))] ∧ Frm 113 a [(0, .slice A0 l0.length c0), (2, pP b1 0), (3, vI (i1 : Int)), (4, pP b2 0), (5, .bool s.1), (6, vI s.2), (22, .slice A0 l0.length c0), (23, vI (l0.length : Int)), (24, vI (i1 : Int))]
abbrev punctualref_CheckSet.B3 (w0 : World) (l0 : List STask) (A0 : Option Addr) (c0 : Nat) (b1 : Nat) (i1 : Nat) (e1 : STask) (b2 : Nat) : (Bool ⊕ SFault) → Exit → Act → World → Prop := Exits 2 (fun (s : Bool) a w => St w0 w [Own.blk b2 (.cells #[.string e1.Name, vI e1.C, vI e1.T, vI e1.D, vI e1.J, vI e1.O, vI e1.P] 51 (0, 0)), Own.blk b1 (.cells #[vI 0, vI 0] 39 (0, 0))] ∧ Frm 113 a [(0, .slice A0 l0.length c0), (2, pP b1 0), (3, vI (i1 : Int)), (4, pP b2 0), (5, .bool s), (22, .slice A0 l0.length c0), (23, vI (l0.length : Int)), (24, vI (i1 : Int))]) (Rets Tryd.prog Tryd.f178 (punctualref_CheckSet.Post w0))
theorem punctualref_CheckSet_r3 (K : Nat) (w0 : World) (l0 : List STask) (A0 : Option Addr) (c0 : Nat) (hR0 : RdL w0 A0 l0) (hL0 : l0.length ≤ c0) (b1 : Nat) (i1 : Nat) (hc3 : (i1 : Int) < (l0.length : Int)) (e1 : STask) (hx2 : l0[i1]? = some e1) (b2 : Nat) (q2 : Bool) (s : Bool × Int) (o : (Bool × Int) ⊕ (Bool ⊕ SFault)) (h : punctualref_CheckSet.r3 e1 s = some o) (a : Act) (w : World) (hA : punctualref_CheckSet.A3 w0 l0 A0 c0 b1 i1 e1 b2 s a w) (Q : Exit → Act → World → Prop) (hQ : ∀ x a w, Outs (punctualref_CheckSet.A3 w0 l0 A0 c0 b1 i1 e1 b2) (punctualref_CheckSet.B3 w0 l0 A0 c0 b1 i1 e1 b2) o x a w → Q x a w) : (subF Tryd.f178 [1, 1, 0, 1, 0, 0, 1, 1, 0, 0, 1, 1, 0, 1, 0, 0]).wp Tryd.prog Q a w := by
 obtain ⟨q3, z1⟩ := s
 obtain ⟨hS, hF⟩ := hA
 replace hS : St w0 w [Own.blk b2 (.cells #[.string e1.Name, vI e1.C, vI e1.T, vI e1.D, vI e1.J, vI e1.O, vI e1.P] 51 (0, 0)), Own.blk b1 (.cells #[vI 0, vI 0] 39 (0, 0))] := hS
 simp only [punctualref_CheckSet.r3] at h
 refine (?_ : WE Tryd.prog 113 (subF Tryd.f178 [1, 1, 0, 1, 0, 0, 1, 1, 0, 0, 1, 1, 0, 1, 0, 0]) Q [(0, .slice A0 l0.length c0), (2, pP b1 0), (3, vI (i1 : Int)), (4, pP b2 0), (5, .bool q3), (6, vI z1), (22, .slice A0 l0.length c0), (23, vI (l0.length : Int)), (24, vI (i1 : Int))] w) a hF
 clear hF a
 refine ws fun K15 hK15 => ?_
 refine ws fun K16 hK16 => ?_
 refine wr [(0, 0), (1, 0), (2, 0), (3, 0), (4, 0)] ?_
 refine gb [0, 1, 2, 3, 4] [(43, .bool (decide (z1 < (e1.Name.size : Int)))), (42, vI (e1.Name.size : Int)), (41, .string e1.Name), (40, pP b2 0), (39, vI z1)] [.loaded ⟨b2, 0, none⟩ (.string e1.Name)] ⟨hS.c 0, trivial⟩ ?_
 refine gn hK16 ?_
 by_cases hc5 : z1 < (e1.Name.size : Int)
 ·rw [if_pos hc5] at h
  refine wk 43 (decide (z1 < (e1.Name.size : Int))) true (decide_eq_true hc5) ?_
  refine we_true (by kernel_rfl) ?_
  refine we_skip fun a hF => hK15 _ _ ?_ a hF
  refine ws fun K17 hK17 => ?_
  refine we_block ?_
  refine wr [(0, 0), (1, 0), (2, 0), (3, 0), (4, 0), (5, 0), (6, 0), (7, 0), (8, 0), (9, 0), (10, 0), (11, 0), (12, 0), (13, 0), (14, 0), (15, 0)] ?_
  refine gb0 [0, 1] [(47, .bool q3), (46, .bool q3)] ?_
  by_cases hc6 : q3 = true
  ·rw [if_pos hc6] at h
   refine gk 47 q3 true hc6 ?_
   refine gb [2, 3, 4] [(50, vI z1), (49, .string e1.Name), (48, pP b2 0)] [.loaded ⟨b2, 0, none⟩ (.string e1.Name)] ⟨hS.c 0, trivial⟩ ?_
   by_cases hc7 : 0 ≤ z1
   ·rw [if_pos hc7] at h
    rcases hx4 : e1.Name[(z1).toNat]? with _ | b3
    ·rw [hx4] at h; cases h
    rw [hx4] at h
    simp only [] at h
    refine ge_letter (d := 51) (ty := 5) (t := 9) (x := (.tmp 49)) (y := (.tmp 50)) (k' := .i64) (j := z1) (jn := ((z1).toNat)) (s := e1.Name) (b := b3) (by kernel_rfl) (by kernel_rfl) (by kernel_rfl) (by kernel_rfl) (Int.toNat_of_nonneg hc7).symm hx4 ?_
    refine gb0 [6, 7, 8] [(54, .bool (decide ((b3.toNat : Int) ≥ 97))), (53, .bool (decide ((b3.toNat : Int) ≥ 97))), (52, .bool (decide ((b3.toNat : Int) ≥ 97)))] ?_
    by_cases hc8 : (b3.toNat : Int) ≥ 97
    ·rw [if_pos hc8] at h
     refine gk 54 (decide ((b3.toNat : Int) ≥ 97)) true (decide_eq_true hc8) ?_
     refine gb [9, 10, 11] [(57, vI z1), (56, .string e1.Name), (55, pP b2 0)] [.loaded ⟨b2, 0, none⟩ (.string e1.Name)] ⟨hS.c 0, trivial⟩ ?_
     refine ge_letter (d := 58) (ty := 5) (t := 9) (x := (.tmp 56)) (y := (.tmp 57)) (k' := .i64) (j := z1) (jn := ((z1).toNat)) (s := e1.Name) (b := b3) (by kernel_rfl) (by kernel_rfl) (by kernel_rfl) (by kernel_rfl) (Int.toNat_of_nonneg hc7).symm hx4 ?_
     refine gb0 [13, 14, 15] [(5, .bool (decide ((b3.toNat : Int) ≤ 122))), (60, .bool (decide ((b3.toNat : Int) ≤ 122))), (59, .bool (decide ((b3.toNat : Int) ≤ 122)))] ?_
     refine gn hK17 ?_
     refine wr [(0, 0), (1, 0), (2, 0)] ?_
     refine gb0 [0, 1, 2] [(6, vI (IntKind.i64.wrap (z1 + 1))), (45, vI (IntKind.i64.wrap (z1 + 1))), (44, vI z1)] ?_
     have hS23 := hS.bring 1 rfl
     have hS24 := hS23.bring 1 rfl
     obtain rfl := si h
     exact ge_nil fun a hF => hQ _ _ _ (Outs.again ⟨hS24, hF.weaken ea⟩)
    ·rw [if_neg hc8] at h
     refine gk 54 (decide ((b3.toNat : Int) ≥ 97)) false (decide_eq_false hc8) ?_
     refine gb0 [9, 10, 11, 12, 13, 14, 15] [(5, .bool false), (60, .bool false), (59, undef), (58, undef), (57, undef), (56, undef), (55, undef)] ?_
     refine gn hK17 ?_
     refine wr [(0, 0), (1, 0), (2, 0)] ?_
     refine gb0 [0, 1, 2] [(6, vI (IntKind.i64.wrap (z1 + 1))), (45, vI (IntKind.i64.wrap (z1 + 1))), (44, vI z1)] ?_
     have hS25 := hS.bring 1 rfl
     have hS26 := hS25.bring 1 rfl
     obtain rfl := si h
     exact ge_nil fun a hF => hQ _ _ _ (Outs.again ⟨hS26, hF.weaken ea⟩)
   ·rw [if_neg hc7] at h
    cases h
  ·rw [if_neg hc6] at h
   refine gk 47 q3 false (Bool.eq_false_iff.2 hc6) ?_
   refine gb0 [2, 3, 4, 5, 6, 7, 8, 9, 10, 11, 12, 13, 14, 15] [(5, .bool false), (60, .bool false), (59, undef), (58, undef), (57, undef), (56, undef), (55, undef), (54, .bool false), (53, .bool false), (52, undef), (51, undef), (50, undef), (49, undef), (48, undef)] ?_
   refine gn hK17 ?_
   refine wr [(0, 0), (1, 0), (2, 0)] ?_
   refine gb0 [0, 1, 2] [(6, vI (IntKind.i64.wrap (z1 + 1))), (45, vI (IntKind.i64.wrap (z1 + 1))), (44, vI z1)] ?_
   have hS27 := hS.bring 1 rfl
   have hS28 := hS27.bring 1 rfl
   obtain rfl := si h
   exact ge_nil fun a hF => hQ _ _ _ (Outs.again ⟨hS28, hF.weaken ea⟩)
 ·rw [if_neg hc5] at h
  refine wk 43 (decide (z1 < (e1.Name.size : Int))) false (decide_eq_false hc5) ?_
  refine we_false (by kernel_rfl) ?_
  have hS29 := hS.bring 1 rfl
  have hS30 := hS29.bring 1 rfl
  obtain rfl := si h
  exact we_exit fun a hF => hQ _ _ _ (Outs.out nofun (Exits.here ⟨hS30, hF.weaken ea⟩))
abbrev punctualref_CheckSet.A4 (w0 : World) (l0 : List STask) (A0 : Option Addr) (c0 : Nat) (b1 : Nat) (i1 : Nat) (e1 : STask) (b2 : Nat) : Nat → Act → World → Prop := fun (s : Nat) a w => St w0 w [Own.blk b2 (.cells #[.string e1.Name, vI e1.C, vI e1.T, vI e1.D, vI e1.J, vI e1.O, vI e1.P] 51 (0, 0)), Own.blk b1 (.cells #[vI 0, vI 0] 39 (0, 0))] ∧ Frm 113 a [(0, .slice A0 l0.length c0), (2, pP b1 0), (3, vI (i1 : Int)), (4, pP b2 0), (22, .slice A0 l0.length c0), (23, vI (l0.length : Int)), (24, vI (i1 : Int)), (67, .slice (subA A0 c0 0 7) (((l0.take i1).drop 0).length) (c0 - 0)), (68, vI (((l0.take i1).drop 0).length : Int)), (69, vI (s : Int))]
abbrev punctualref_CheckSet.B4 (w0 : World) (l0 : List STask) (A0 : Option Addr) (c0 : Nat) (b1 : Nat) (i1 : Nat) (e1 : STask) (b2 : Nat) : (Unit ⊕ SFault) → Exit → Act → World → Prop := Exits 4 (fun (s : Unit) a w => St w0 w [Own.blk b2 (.cells #[.string e1.Name, vI e1.C, vI e1.T, vI e1.D, vI e1.J, vI e1.O, vI e1.P] 51 (0, 0)), Own.blk b1 (.cells #[vI 0, vI 0] 39 (0, 0))] ∧ Frm 113 a [(0, .slice A0 l0.length c0), (2, pP b1 0), (3, vI (i1 : Int)), (4, pP b2 0), (22, .slice A0 l0.length c0), (23, vI (l0.length : Int)), (24, vI (i1 : Int))]) (Rets Tryd.prog Tryd.f178 (punctualref_CheckSet.Post w0))
theorem punctualref_CheckSet_r4 (K : Nat) (w0 : World) (l0 : List STask) (A0 : Option Addr) (c0 : Nat) (hR0 : RdL w0 A0 l0) (hL0 : l0.length ≤ c0) (b1 : Nat) (i1 : Nat) (hc3 : (i1 : Int) < (l0.length : Int)) (e1 : STask) (hx2 : l0[i1]? = some e1) (b2 : Nat) (q2 : Bool) (q5 : Bool) (hc9 : q5 = true) (hc10 : i1 ≤ l0.length) (s : Nat) (o : Nat ⊕ (Unit ⊕ SFault)) (h : punctualref_CheckSet.r4 l0 i1 e1 s = some o) (a : Act) (w : World) (hA : punctualref_CheckSet.A4 w0 l0 A0 c0 b1 i1 e1 b2 s a w) (Q : Exit → Act → World → Prop) (hQ : ∀ x a w, Outs (punctualref_CheckSet.A4 w0 l0 A0 c0 b1 i1 e1 b2) (punctualref_CheckSet.B4 w0 l0 A0 c0 b1 i1 e1 b2) o x a w → Q x a w) : (subF Tryd.f178 [1, 1, 0, 1, 0, 0, 1, 1, 0, 0, 1, 1, 1, 1, 0, 1, 0, 0]).wp Tryd.prog Q a w := by
 obtain ⟨i2, hs⟩ : ∃ z, z = s := ⟨s, rfl⟩
 subst hs
 obtain ⟨hS, hF⟩ := hA
 replace hS : St w0 w [Own.blk b2 (.cells #[.string e1.Name, vI e1.C, vI e1.T, vI e1.D, vI e1.J, vI e1.O, vI e1.P] 51 (0, 0)), Own.blk b1 (.cells #[vI 0, vI 0] 39 (0, 0))] := hS
 simp only [punctualref_CheckSet.r4] at h
 refine (?_ : WE Tryd.prog 113 (subF Tryd.f178 [1, 1, 0, 1, 0, 0, 1, 1, 0, 0, 1, 1, 1, 1, 0, 1, 0, 0]) Q [(0, .slice A0 l0.length c0), (2, pP b1 0), (3, vI (i1 : Int)), (4, pP b2 0), (22, .slice A0 l0.length c0), (23, vI (l0.length : Int)), (24, vI (i1 : Int)), (67, .slice (subA A0 c0 0 7) (((l0.take i1).drop 0).length) (c0 - 0)), (68, vI (((l0.take i1).drop 0).length : Int)), (69, vI (i2 : Int))] w) a hF
 clear hF a
 refine ws fun K22 hK22 => ?_
 refine wr [(0, 0)] ?_
 refine gb0 [0] [(70, .bool (decide ((i2 : Int) < (((l0.take i1).drop 0).length : Int))))] ?_
 refine gn hK22 ?_
 refine ws fun K23 hK23 => ?_
 by_cases hc11 : (i2 : Int) < (((l0.take i1).drop 0).length : Int)
 ·rw [if_pos hc11] at h
  refine wk 70 (decide ((i2 : Int) < (((l0.take i1).drop 0).length : Int))) true (decide_eq_true hc11) ?_
  refine we_true (by kernel_rfl) ?_
  refine we_skip fun a hF => hK23 _ _ ?_ a hF
  refine ws fun K24 hK24 => ?_
  refine we_block ?_
  refine ws fun K25 hK25 => ?_
  refine wr [(0, 0), (1, 0), (2, 1), (3, 2)] ?_
  rcases hx5 : ((l0.take i1).drop 0)[i2]? with _ | e2
  ·rw [hx5] at h; cases h
  rw [hx5] at h
  simp only [] at h
  refine gi 71 0 47 51 7 (((l0.take i1).drop 0).length) (c0 - 0) (.tmp 67) (.tmp 69) (subA A0 c0 0 7) .i64 (i2 : Int) i2 ((hS.rd (RdL.part hR0 hL0 0 i1)).eqSome (pos_of_get hx5)) rfl (lt_of_get hx5) ?_
  refine gb [1] [(72, .agg #[.string e2.Name, vI e2.C, vI e2.T, vI e2.D, vI e2.J, vI e2.O, vI e2.P])] [.loaded ⟨blkOf (subA A0 c0 0 7), offOf (subA A0 c0 0 7) + i2 * 7, none⟩ (.string e2.Name), .loaded ⟨blkOf (subA A0 c0 0 7), offOf (subA A0 c0 0 7) + i2 * 7 + 1, none⟩ (vI e2.C), .loaded ⟨blkOf (subA A0 c0 0 7), offOf (subA A0 c0 0 7) + i2 * 7 + 2, none⟩ (vI e2.T), .loaded ⟨blkOf (subA A0 c0 0 7), offOf (subA A0 c0 0 7) + i2 * 7 + 3, none⟩ (vI e2.D), .loaded ⟨blkOf (subA A0 c0 0 7), offOf (subA A0 c0 0 7) + i2 * 7 + 4, none⟩ (vI e2.J), .loaded ⟨blkOf (subA A0 c0 0 7), offOf (subA A0 c0 0 7) + i2 * 7 + 5, none⟩ (vI e2.O), .loaded ⟨blkOf (subA A0 c0 0 7), offOf (subA A0 c0 0 7) + i2 * 7 + 6, none⟩ (vI e2.P)] ⟨RdL.cell (j := 0) (hS.rd (RdL.part hR0 hL0 0 i1)) hx5 rfl, RdL.cell (j := 1) (hS.rd (RdL.part hR0 hL0 0 i1)) hx5 rfl, RdL.cell (j := 2) (hS.rd (RdL.part hR0 hL0 0 i1)) hx5 rfl, RdL.cell (j := 3) (hS.rd (RdL.part hR0 hL0 0 i1)) hx5 rfl, RdL.cell (j := 4) (hS.rd (RdL.part hR0 hL0 0 i1)) hx5 rfl, RdL.cell (j := 5) (hS.rd (RdL.part hR0 hL0 0 i1)) hx5 rfl, RdL.cell (j := 6) (hS.rd (RdL.part hR0 hL0 0 i1)) hx5 rfl, trivial⟩ ?_
  refine gw (some 8) (.cells #[.string (⟨#[]⟩), vI 0, vI 0, vI 0, vI 0, vI 0, vI 0] 51) (fun b => pP b 0) hS fun b4 w11 hx6 hS34 => ?_
  refine gs b4 0 #[.string (⟨#[]⟩), vI 0, vI 0, vI 0, vI 0, vI 0, vI 0] 51 [.string e2.Name, vI e2.C, vI e2.T, vI e2.D, vI e2.J, vI e2.O, vI e2.P] hS34 fun w12 hS35 => ?_
  have hS36 : St w0 w12 [Own.blk b4 (.cells #[.string e2.Name, vI e2.C, vI e2.T, vI e2.D, vI e2.J, vI e2.O, vI e2.P] 51 (0, 0)), Own.blk b2 (.cells #[.string e1.Name, vI e1.C, vI e1.T, vI e1.D, vI e1.J, vI e1.O, vI e1.P] 51 (0, 0)), Own.blk b1 (.cells #[vI 0, vI 0] 39 (0, 0))] := hS35
  refine gn hK25 ?_
  refine ws fun K26 hK26 => ?_
  refine wr [(0, 0), (1, 0), (2, 0), (3, 0), (4, 0)] ?_
  refine gb [0, 1, 2, 3, 4] [(77, .bool (e2.Name.toList == e1.Name.toList)), (76, .string e1.Name), (75, pP b2 0), (74, .string e2.Name), (73, pP b4 0)] [.loaded ⟨b4, 0, none⟩ (.string e2.Name), .loaded ⟨b2, 0, none⟩ (.string e1.Name)] ⟨hS36.c 0, hS36.c 1, trivial⟩ ?_
  refine gn hK26 ?_
  by_cases hc12 : e2.Name.toList = e1.Name.toList
  ·rw [if_pos hc12] at h
   refine wk 77 (e2.Name.toList == e1.Name.toList) true (beq_iff_eq.2 hc12) ?_
   refine we_true (by kernel_rfl) ?_
   refine ws fun K27 hK27 => ?_
   refine wr [(0, 0), (1, 1), (2, 2)] ?_
   refine gb0 [0] [(78, vI (i1 : Int))] ?_
   refine ge_call (d := some 79) (f := 74) (args := #[vI 5, vI (i1 : Int)]) (by kernel_rfl) (punctualref_F_ok 5 (i1 : Int) _ _ rfl) ?_
   rintro _ w13 ⟨rfl, hS37⟩
   refine ⟨_, rfl, hS37.below, ?_⟩
   have hS38 := hS36.call hS37
   have hS39 := hS38.bring 2 rfl
   refine gs b1 0 #[vI 0, vI 0] 39 [vI ((punctualref_F.f 5 (i1 : Int)).Code), vI ((punctualref_F.f 5 (i1 : Int)).At)] hS39 fun w14 hS40 => ?_
   have hS41 : St w0 w14 [Own.blk b1 (.cells #[vI ((punctualref_F.f 5 (i1 : Int)).Code), vI ((punctualref_F.f 5 (i1 : Int)).At)] 39 (0, 0)), Own.blk b4 (.cells #[.string e2.Name, vI e2.C, vI e2.T, vI e2.D, vI e2.J, vI e2.O, vI e2.P] 51 (0, 0)), Own.blk b2 (.cells #[.string e1.Name, vI e1.C, vI e1.T, vI e1.D, vI e1.J, vI e1.O, vI e1.P] 51 (0, 0))] := hS40
   refine gn hK27 ?_
   have hS42 := hS41.takeN 0
   obtain rfl := si h
   exact we_ret fun a hF => hQ _ _ _ (Outs.out nofun (Exits.on ⟨rfl, (pr [.cell 2 39] [.agg #[vI ((punctualref_F.f 5 (i1 : Int)).Code), vI ((punctualref_F.f 5 (i1 : Int)).At)]] [.loaded ⟨b1, 0, none⟩ (vI ((punctualref_F.f 5 (i1 : Int)).Code)), .loaded ⟨b1, 1, none⟩ (vI ((punctualref_F.f 5 (i1 : Int)).At))] ⟨hS41.c 0, hS41.c 0, trivial⟩ ⟨rfl, hS42⟩) a hF⟩))
  ·rw [if_neg hc12] at h
   refine wk 77 (e2.Name.toList == e1.Name.toList) false (beq_eq_false_iff_ne.2 hc12) ?_
   refine we_false (by kernel_rfl) ?_
   refine we_skip fun a hF => hK24 _ _ ?_ a hF
   refine wr [(0, 0), (1, 0)] ?_
   refine ge_addn (d := 80) (ty := 3) (x := (.tmp 69)) (y := (.const (vI 1))) (t := 3) (t2 := 3) (k := .i64) (m := i2) (by kernel_rfl) (by kernel_rfl) (by kernel_rfl) (by have h0 := hR0.small; have h1 : ((l0.take i1).drop 0).length ≤ l0.length := (by simp only [List.length_drop, List.length_take]; omega); omega) ?_
   refine gb0 [1] [(69, vI ((i2 + 1 : Nat) : Int))] ?_
   have hS43 := hS36.bring 2 rfl
   have hS44 := hS43.bring 2 rfl
   have hS45 := hS44.takeN 2
   obtain rfl := si h
   exact ge_nil fun a hF => hQ _ _ _ (Outs.again ⟨hS45, hF.weaken ea⟩)
 ·rw [if_neg hc11] at h
  refine wk 70 (decide ((i2 : Int) < (((l0.take i1).drop 0).length : Int))) false (decide_eq_false hc11) ?_
  refine we_false (by kernel_rfl) ?_
  have hS46 := hS.bring 1 rfl
  have hS47 := hS46.bring 1 rfl
  obtain rfl := si h
  exact we_exit fun a hF => hQ _ _ _ (Outs.out nofun (Exits.here ⟨hS47, hF.weaken ea⟩))
abbrev punctualref_CheckSet.A5 (w0 : World) (l0 : List STask) (A0 : Option Addr) (c0 : Nat) (b1 : Nat) (i1 : Nat) (e1 : STask) (b2 : Nat) (b5 : Nat) (b6 : Nat) : Nat → Act → World → Prop := fun (s : Nat) a w => St w0 w [Own.blk b6 (.cells #[vI 10000, vI 10000, vI 10000, vI 10000, vI 10000, vI 1000] 221 (0, 0)), Own.blk b5 (.cells #[vI 1, vI 1, vI 1, vI 0, vI 0, vI 0] 221 (0, 0)), Own.blk b2 (.cells #[.string e1.Name, vI e1.C, vI e1.T, vI e1.D, vI e1.J, vI e1.O, vI e1.P] 51 (0, 0)), Own.blk b1 (.cells #[vI 0, vI 0] 39 (0, 0))] ∧ Frm 113 a [(0, .slice A0 l0.length c0), (2, pP b1 0), (3, vI (i1 : Int)), (4, pP b2 0), (9, pP b5 0), (10, pP b6 0), (22, .slice A0 l0.length c0), (23, vI (l0.length : Int)), (24, vI (i1 : Int)), (84, .agg #[vI ((punctualref_sixOf.f e1).a0), vI ((punctualref_sixOf.f e1).a1), vI ((punctualref_sixOf.f e1).a2), vI ((punctualref_sixOf.f e1).a3), vI ((punctualref_sixOf.f e1).a4), vI ((punctualref_sixOf.f e1).a5)]), (85, vI (s : Int))]
abbrev punctualref_CheckSet.B5 (w0 : World) (l0 : List STask) (A0 : Option Addr) (c0 : Nat) (b1 : Nat) (i1 : Nat) (e1 : STask) (b2 : Nat) : (Unit ⊕ SFault) → Exit → Act → World → Prop := Exits 6 (fun (s : Unit) a w => St w0 w [Own.blk b2 (.cells #[.string e1.Name, vI e1.C, vI e1.T, vI e1.D, vI e1.J, vI e1.O, vI e1.P] 51 (0, 0)), Own.blk b1 (.cells #[vI 0, vI 0] 39 (0, 0))] ∧ Frm 113 a [(0, .slice A0 l0.length c0), (2, pP b1 0), (3, vI (i1 : Int)), (4, pP b2 0), (22, .slice A0 l0.length c0), (23, vI (l0.length : Int)), (24, vI (i1 : Int))]) (Rets Tryd.prog Tryd.f178 (punctualref_CheckSet.Post w0))
theorem punctualref_CheckSet_r5 (K : Nat) (w0 : World) (l0 : List STask) (A0 : Option Addr) (c0 : Nat) (hR0 : RdL w0 A0 l0) (hL0 : l0.length ≤ c0) (b1 : Nat) (i1 : Nat) (hc3 : (i1 : Int) < (l0.length : Int)) (e1 : STask) (hx2 : l0[i1]? = some e1) (b2 : Nat) (q2 : Bool) (q5 : Bool) (hc9 : q5 = true) (hc10 : i1 ≤ l0.length) (b5 : Nat) (b6 : Nat) (s : Nat) (o : Nat ⊕ (Unit ⊕ SFault)) (h : punctualref_CheckSet.r5 i1 e1 s = some o) (a : Act) (w : World) (hA : punctualref_CheckSet.A5 w0 l0 A0 c0 b1 i1 e1 b2 b5 b6 s a w) (Q : Exit → Act → World → Prop) (hQ : ∀ x a w, Outs (punctualref_CheckSet.A5 w0 l0 A0 c0 b1 i1 e1 b2 b5 b6) (punctualref_CheckSet.B5 w0 l0 A0 c0 b1 i1 e1 b2) o x a w → Q x a w) : (subF Tryd.f178 [1, 1, 0, 1, 0, 0, 1, 1, 0, 0, 1, 1, 1, 1, 1, 1, 0, 1, 0, 0]).wp Tryd.prog Q a w := by
 obtain ⟨i3, hs⟩ : ∃ z, z = s := ⟨s, rfl⟩
 subst hs
 obtain ⟨hS, hF⟩ := hA
 replace hS : St w0 w [Own.blk b6 (.cells #[vI 10000, vI 10000, vI 10000, vI 10000, vI 10000, vI 1000] 221 (0, 0)), Own.blk b5 (.cells #[vI 1, vI 1, vI 1, vI 0, vI 0, vI 0] 221 (0, 0)), Own.blk b2 (.cells #[.string e1.Name, vI e1.C, vI e1.T, vI e1.D, vI e1.J, vI e1.O, vI e1.P] 51 (0, 0)), Own.blk b1 (.cells #[vI 0, vI 0] 39 (0, 0))] := hS
 simp only [punctualref_CheckSet.r5] at h
 refine (?_ : WE Tryd.prog 113 (subF Tryd.f178 [1, 1, 0, 1, 0, 0, 1, 1, 0, 0, 1, 1, 1, 1, 1, 1, 0, 1, 0, 0]) Q [(0, .slice A0 l0.length c0), (2, pP b1 0), (3, vI (i1 : Int)), (4, pP b2 0), (9, pP b5 0), (10, pP b6 0), (22, .slice A0 l0.length c0), (23, vI (l0.length : Int)), (24, vI (i1 : Int)), (84, .agg #[vI ((punctualref_sixOf.f e1).a0), vI ((punctualref_sixOf.f e1).a1), vI ((punctualref_sixOf.f e1).a2), vI ((punctualref_sixOf.f e1).a3), vI ((punctualref_sixOf.f e1).a4), vI ((punctualref_sixOf.f e1).a5)]), (85, vI (i3 : Int))] w) a hF
 clear hF a
 refine ws fun K31 hK31 => ?_
 refine wr [(0, 0)] ?_
 refine gb0 [0] [(86, .bool (decide ((i3 : Int) < 6)))] ?_
 refine gn hK31 ?_
 refine ws fun K32 hK32 => ?_
 by_cases hc13 : (i3 : Int) < 6
 ·rw [if_pos hc13] at h
  refine wk 86 (decide ((i3 : Int) < 6)) true (decide_eq_true hc13) ?_
  refine we_true (by kernel_rfl) ?_
  refine we_skip fun a hF => hK32 _ _ ?_ a hF
  refine ws fun K33 hK33 => ?_
  refine we_block ?_
  refine ws fun K34 hK34 => ?_
  refine wr [(0, 0), (1, 0), (2, 0), (3, 0)] ?_
  refine gb0 [0] [(87, vI (i3 : Int))] ?_
  rcases hx9 : ([(punctualref_sixOf.f e1).a0, (punctualref_sixOf.f e1).a1, (punctualref_sixOf.f e1).a2, (punctualref_sixOf.f e1).a3, (punctualref_sixOf.f e1).a4, (punctualref_sixOf.f e1).a5] : List Int)[i3]? with _ | e3
  ·rw [hx9] at h; cases h
  rw [hx9] at h
  simp only [] at h
  refine ge_arr2 (α := Int) (d := 88) (ty := 3) (t := 221) (len := 6) (el := 3) (x := (.tmp 84)) (y := (.tmp 85)) (k' := .i64) (j := (i3 : Int)) (jn := i3) (l := ([(punctualref_sixOf.f e1).a0, (punctualref_sixOf.f e1).a1, (punctualref_sixOf.f e1).a2, (punctualref_sixOf.f e1).a3, (punctualref_sixOf.f e1).a4, (punctualref_sixOf.f e1).a5] : List Int)) (u := e3) (cs := #[vI ((punctualref_sixOf.f e1).a0), vI ((punctualref_sixOf.f e1).a1), vI ((punctualref_sixOf.f e1).a2), vI ((punctualref_sixOf.f e1).a3), vI ((punctualref_sixOf.f e1).a4), vI ((punctualref_sixOf.f e1).a5)]) (v := vI e3) (by kernel_rfl) (by kernel_rfl) rfl (by kernel_rfl) (by kernel_rfl) (by kernel_rfl) rfl rfl rfl hx9 rfl (fun w' => by kernel_rfl) ?_
  refine gb0 [2, 3] [(12, vI e3), (11, vI (i3 : Int))] ?_
  refine gn hK34 ?_
  refine ws fun K35 hK35 => ?_
  refine wr [(0, 0), (1, 0), (2, 0), (3, 0), (4, 0), (5, 0), (6, 0), (7, 0), (8, 0), (9, 0), (10, 0), (11, 0)] ?_
  refine gb0 [0, 1] [(90, vI (i3 : Int)), (89, vI e3)] ?_
  rcases hx10 : ([1, 1, 1, 0, 0, 0] : List Int)[i3]? with _ | e4
  ·rw [hx10] at h; cases h
  rw [hx10] at h
  simp only [] at h
  refine ge_arrAddr (d := 91) (ty := 0) (t := 221) (len := 6) (el := 3) (b := b5) (o0 := 0) (sz := 1) (x := (.tmp 9)) (y := (.tmp 90)) (k' := .i64) (j := (i3 : Int)) (jn := i3) (by kernel_rfl) (by kernel_rfl) (by kernel_rfl) (by kernel_rfl) (by kernel_rfl) rfl (lt_of_get hx10) ?_
  refine gb [3, 4, 5] [(94, .bool (decide (e3 < e4))), (93, .bool (decide (e3 < e4))), (92, vI e4)] [.loaded ⟨b5, 0 + i3 * 1, none⟩ (vI e4)] ⟨hS.cellA 1 (pre := []) (post := []) (l := ([1, 1, 1, 0, 0, 0] : List Int)) rfl rfl rfl hx10 rfl rfl, trivial⟩ ?_
  by_cases hc14 : e3 < e4
  ·rw [if_pos hc14] at h
   refine gk 94 (decide (e3 < e4)) true (decide_eq_true hc14) ?_
   refine gb0 [6, 7, 8, 9, 10, 11] [(100, .bool true), (99, undef), (98, undef), (97, undef), (96, undef), (95, undef)] ?_
   refine gn hK35 ?_
   refine we_true (by kernel_rfl) ?_
   refine ws fun K36 hK36 => ?_
   refine wr [(0, 0), (1, 1), (2, 2)] ?_
   refine gb0 [0] [(101, vI (i1 : Int))] ?_
   refine ge_call (d := some 102) (f := 74) (args := #[vI 3, vI (i1 : Int)]) (by kernel_rfl) (punctualref_F_ok 3 (i1 : Int) _ _ rfl) ?_
   rintro _ w21 ⟨rfl, hS63⟩
   refine ⟨_, rfl, hS63.below, ?_⟩
   have hS64 := hS.call hS63
   have hS65 := hS64.bring 3 rfl
   refine gs b1 0 #[vI 0, vI 0] 39 [vI ((punctualref_F.f 3 (i1 : Int)).Code), vI ((punctualref_F.f 3 (i1 : Int)).At)] hS65 fun w22 hS66 => ?_
   have hS67 : St w0 w22 [Own.blk b1 (.cells #[vI ((punctualref_F.f 3 (i1 : Int)).Code), vI ((punctualref_F.f 3 (i1 : Int)).At)] 39 (0, 0)), Own.blk b6 (.cells #[vI 10000, vI 10000, vI 10000, vI 10000, vI 10000, vI 1000] 221 (0, 0)), Own.blk b5 (.cells #[vI 1, vI 1, vI 1, vI 0, vI 0, vI 0] 221 (0, 0)), Own.blk b2 (.cells #[.string e1.Name, vI e1.C, vI e1.T, vI e1.D, vI e1.J, vI e1.O, vI e1.P] 51 (0, 0))] := hS66
   refine gn hK36 ?_
   have hS68 := hS67.takeN 0
   obtain rfl := si h
   exact we_ret fun a hF => hQ _ _ _ (Outs.out nofun (Exits.on ⟨rfl, (pr [.cell 2 39] [.agg #[vI ((punctualref_F.f 3 (i1 : Int)).Code), vI ((punctualref_F.f 3 (i1 : Int)).At)]] [.loaded ⟨b1, 0, none⟩ (vI ((punctualref_F.f 3 (i1 : Int)).Code)), .loaded ⟨b1, 1, none⟩ (vI ((punctualref_F.f 3 (i1 : Int)).At))] ⟨hS67.c 0, hS67.c 0, trivial⟩ ⟨rfl, hS68⟩) a hF⟩))
  ·rw [if_neg hc14] at h
   refine gk 94 (decide (e3 < e4)) false (decide_eq_false hc14) ?_
   refine gb0 [6, 7] [(96, vI (i3 : Int)), (95, vI e3)] ?_
   rcases hx11 : ([10000, 10000, 10000, 10000, 10000, 1000] : List Int)[i3]? with _ | e5
   ·rw [hx11] at h; cases h
   rw [hx11] at h
   simp only [] at h
   refine ge_arrAddr (d := 97) (ty := 0) (t := 221) (len := 6) (el := 3) (b := b6) (o0 := 0) (sz := 1) (x := (.tmp 10)) (y := (.tmp 96)) (k' := .i64) (j := (i3 : Int)) (jn := i3) (by kernel_rfl) (by kernel_rfl) (by kernel_rfl) (by kernel_rfl) (by kernel_rfl) rfl (lt_of_get hx11) ?_
   refine gb [9, 10, 11] [(100, .bool (decide (e3 > e5))), (99, .bool (decide (e3 > e5))), (98, vI e5)] [.loaded ⟨b6, 0 + i3 * 1, none⟩ (vI e5)] ⟨hS.cellA 0 (pre := []) (post := []) (l := ([10000, 10000, 10000, 10000, 10000, 1000] : List Int)) rfl rfl rfl hx11 rfl rfl, trivial⟩ ?_
   refine gn hK35 ?_
   by_cases hc15 : e3 > e5
   ·rw [if_pos hc15] at h
    refine wk 100 (decide (e3 > e5)) true (decide_eq_true hc15) ?_
    refine we_true (by kernel_rfl) ?_
    refine ws fun K37 hK37 => ?_
    refine wr [(0, 0), (1, 1), (2, 2)] ?_
    refine gb0 [0] [(101, vI (i1 : Int))] ?_
    refine ge_call (d := some 102) (f := 74) (args := #[vI 3, vI (i1 : Int)]) (by kernel_rfl) (punctualref_F_ok 3 (i1 : Int) _ _ rfl) ?_
    rintro _ w23 ⟨rfl, hS69⟩
    refine ⟨_, rfl, hS69.below, ?_⟩
    have hS70 := hS.call hS69
    have hS71 := hS70.bring 3 rfl
    refine gs b1 0 #[vI 0, vI 0] 39 [vI ((punctualref_F.f 3 (i1 : Int)).Code), vI ((punctualref_F.f 3 (i1 : Int)).At)] hS71 fun w24 hS72 => ?_
    have hS73 : St w0 w24 [Own.blk b1 (.cells #[vI ((punctualref_F.f 3 (i1 : Int)).Code), vI ((punctualref_F.f 3 (i1 : Int)).At)] 39 (0, 0)), Own.blk b6 (.cells #[vI 10000, vI 10000, vI 10000, vI 10000, vI 10000, vI 1000] 221 (0, 0)), Own.blk b5 (.cells #[vI 1, vI 1, vI 1, vI 0, vI 0, vI 0] 221 (0, 0)), Own.blk b2 (.cells #[.string e1.Name, vI e1.C, vI e1.T, vI e1.D, vI e1.J, vI e1.O, vI e1.P] 51 (0, 0))] := hS72
    refine gn hK37 ?_
    have hS74 := hS73.takeN 0
    obtain rfl := si h
    exact we_ret fun a hF => hQ _ _ _ (Outs.out nofun (Exits.on ⟨rfl, (pr [.cell 2 39] [.agg #[vI ((punctualref_F.f 3 (i1 : Int)).Code), vI ((punctualref_F.f 3 (i1 : Int)).At)]] [.loaded ⟨b1, 0, none⟩ (vI ((punctualref_F.f 3 (i1 : Int)).Code)), .loaded ⟨b1, 1, none⟩ (vI ((punctualref_F.f 3 (i1 : Int)).At))] ⟨hS73.c 0, hS73.c 0, trivial⟩ ⟨rfl, hS74⟩) a hF⟩))
   ·rw [if_neg hc15] at h
    refine wk 100 (decide (e3 > e5)) false (decide_eq_false hc15) ?_
    refine we_false (by kernel_rfl) ?_
    refine we_skip fun a hF => hK33 _ _ ?_ a hF
    refine wr [(0, 0), (1, 0)] ?_
    refine ge_addn (d := 103) (ty := 3) (x := (.tmp 85)) (y := (.const (vI 1))) (t := 3) (t2 := 3) (k := .i64) (m := i3) (by kernel_rfl) (by kernel_rfl) (by kernel_rfl) (by omega) ?_
    refine gb0 [1] [(85, vI ((i3 + 1 : Nat) : Int))] ?_
    have hS75 := hS.bring 3 rfl
    have hS76 := hS75.bring 3 rfl
    have hS77 := hS76.bring 3 rfl
    have hS78 := hS77.bring 3 rfl
    obtain rfl := si h
    exact ge_nil fun a hF => hQ _ _ _ (Outs.again ⟨hS78, hF.weaken ea⟩)
 ·rw [if_neg hc13] at h
  refine wk 86 (decide ((i3 : Int) < 6)) false (decide_eq_false hc13) ?_
  refine we_false (by kernel_rfl) ?_
  have hS79 := hS.bring 3 rfl
  have hS80 := hS79.bring 3 rfl
  have hS81 := hS80.takeN 2
  obtain rfl := si h
  exact we_exit fun a hF => hQ _ _ _ (Outs.out nofun (Exits.here ⟨hS81, hF.weaken ea⟩))
abbrev punctualref_CheckSet.A1 (w0 : World) (l0 : List STask) (A0 : Option Addr) (c0 : Nat) (b1 : Nat) : Nat → Act → World → Prop := fun (s : Nat) a w => St w0 w [Own.blk b1 (.cells #[vI 0, vI 0] 39 (0, 0))] ∧ Frm 113 a [(0, .slice A0 l0.length c0), (2, pP b1 0), (22, .slice A0 l0.length c0), (23, vI (l0.length : Int)), (24, vI (s : Int))]
abbrev punctualref_CheckSet.B1 (w0 : World) (b1 : Nat) : (Unit ⊕ SFault) → Exit → Act → World → Prop := Exits 0 (fun (s : Unit) a w => St w0 w [Own.blk b1 (.cells #[vI 0, vI 0] 39 (0, 0))] ∧ Frm 113 a [(2, pP b1 0)]) (Rets Tryd.prog Tryd.f178 (punctualref_CheckSet.Post w0))
theorem punctualref_CheckSet_r1 (K : Nat) (w0 : World) (l0 : List STask) (A0 : Option Addr) (c0 : Nat) (hR0 : RdL w0 A0 l0) (hL0 : l0.length ≤ c0) (b1 : Nat) (s : Nat) (o : Nat ⊕ (Unit ⊕ SFault)) (h : punctualref_CheckSet.r1 K l0 s = some o) (a : Act) (w : World) (hA : punctualref_CheckSet.A1 w0 l0 A0 c0 b1 s a w) (Q : Exit → Act → World → Prop) (hQ : ∀ x a w, Outs (punctualref_CheckSet.A1 w0 l0 A0 c0 b1) (punctualref_CheckSet.B1 w0 b1) o x a w → Q x a w) : (subF Tryd.f178 [1, 1, 0, 1, 0, 0]).wp Tryd.prog Q a w := by
 obtain ⟨i1, hs⟩ : ∃ z, z = s := ⟨s, rfl⟩
 subst hs
 obtain ⟨hS, hF⟩ := hA
 replace hS : St w0 w [Own.blk b1 (.cells #[vI 0, vI 0] 39 (0, 0))] := hS
 simp only [punctualref_CheckSet.r1] at h
 refine (?_ : WE Tryd.prog 113 (subF Tryd.f178 [1, 1, 0, 1, 0, 0]) Q [(0, .slice A0 l0.length c0), (2, pP b1 0), (22, .slice A0 l0.length c0), (23, vI (l0.length : Int)), (24, vI (i1 : Int))] w) a hF
 clear hF a
 refine ws fun K8 hK8 => ?_
 refine wr [(0, 0)] ?_
 refine gb0 [0] [(25, .bool (decide ((i1 : Int) < (l0.length : Int))))] ?_
 refine gn hK8 ?_
 refine ws fun K9 hK9 => ?_
 by_cases hc3 : (i1 : Int) < (l0.length : Int)
 ·rw [if_pos hc3] at h
  refine wk 25 (decide ((i1 : Int) < (l0.length : Int))) true (decide_eq_true hc3) ?_
  refine we_true (by kernel_rfl) ?_
  refine we_skip fun a hF => hK9 _ _ ?_ a hF
  refine ws fun K10 hK10 => ?_
  refine we_block ?_
  refine ws fun K11 hK11 => ?_
  refine wr [(0, 0), (1, 0), (2, 0), (3, 1), (4, 0), (5, 2)] ?_
  refine gb0 [0] [(26, vI (i1 : Int))] ?_
  rcases hx2 : l0[i1]? with _ | e1
  ·rw [hx2] at h; cases h
  rw [hx2] at h
  simp only [] at h
  refine gi 27 0 47 51 7 l0.length c0 (.tmp 22) (.tmp 24) A0 .i64 (i1 : Int) i1 ((hS.rd hR0).eqSome (pos_of_get hx2)) rfl (lt_of_get hx2) ?_
  refine gb [2] [(28, .agg #[.string e1.Name, vI e1.C, vI e1.T, vI e1.D, vI e1.J, vI e1.O, vI e1.P])] [.loaded ⟨blkOf A0, offOf A0 + i1 * 7, none⟩ (.string e1.Name), .loaded ⟨blkOf A0, offOf A0 + i1 * 7 + 1, none⟩ (vI e1.C), .loaded ⟨blkOf A0, offOf A0 + i1 * 7 + 2, none⟩ (vI e1.T), .loaded ⟨blkOf A0, offOf A0 + i1 * 7 + 3, none⟩ (vI e1.D), .loaded ⟨blkOf A0, offOf A0 + i1 * 7 + 4, none⟩ (vI e1.J), .loaded ⟨blkOf A0, offOf A0 + i1 * 7 + 5, none⟩ (vI e1.O), .loaded ⟨blkOf A0, offOf A0 + i1 * 7 + 6, none⟩ (vI e1.P)] ⟨RdL.cell (j := 0) (hS.rd hR0) hx2 rfl, RdL.cell (j := 1) (hS.rd hR0) hx2 rfl, RdL.cell (j := 2) (hS.rd hR0) hx2 rfl, RdL.cell (j := 3) (hS.rd hR0) hx2 rfl, RdL.cell (j := 4) (hS.rd hR0) hx2 rfl, RdL.cell (j := 5) (hS.rd hR0) hx2 rfl, RdL.cell (j := 6) (hS.rd hR0) hx2 rfl, trivial⟩ ?_
  refine gw (some 4) (.cells #[.string (⟨#[]⟩), vI 0, vI 0, vI 0, vI 0, vI 0, vI 0] 51) (fun b => pP b 0) hS fun b2 w7 hx3 hS13 => ?_
  refine gb0 [4] [(3, vI (i1 : Int))] ?_
  refine gs b2 0 #[.string (⟨#[]⟩), vI 0, vI 0, vI 0, vI 0, vI 0, vI 0] 51 [.string e1.Name, vI e1.C, vI e1.T, vI e1.D, vI e1.J, vI e1.O, vI e1.P] hS13 fun w8 hS14 => ?_
  have hS15 : St w0 w8 [Own.blk b2 (.cells #[.string e1.Name, vI e1.C, vI e1.T, vI e1.D, vI e1.J, vI e1.O, vI e1.P] 51 (0, 0)), Own.blk b1 (.cells #[vI 0, vI 0] 39 (0, 0))] := hS14
  refine gn hK11 ?_
  refine ws fun K12 hK12 => ?_
  rcases hq4 : punctualref_CheckSet.p2 e1 with _ | (q2 | rr4)
  ·rw [hq4] at h; cases h
  ·rw [hq4] at h
   simp only [] at h
   refine we_keep (e' := [(0, .slice A0 l0.length c0), (2, pP b1 0), (3, vI (i1 : Int)), (4, pP b2 0), (22, .slice A0 l0.length c0), (23, vI (l0.length : Int)), (24, vI (i1 : Int)), (25, .bool true), (26, vI (i1 : Int)), (27, .pointer (some ⟨blkOf A0, offOf A0 + i1 * 7, none⟩)), (28, .agg #[.string e1.Name, vI e1.C, vI e1.T, vI e1.D, vI e1.J, vI e1.O, vI e1.P])]) ea (punctualref_CheckSet_p2 K w0 l0 A0 c0 hR0 hL0 b1 i1 hc3 e1 hx2 b2 _ hq4 _ hS15 _ ?_)
   rintro _ a w9 ⟨rfl, hS20, hF⟩
   replace hS20 : St w0 w9 [Own.blk b2 (.cells #[.string e1.Name, vI e1.C, vI e1.T, vI e1.D, vI e1.J, vI e1.O, vI e1.P] 51 (0, 0)), Own.blk b1 (.cells #[vI 0, vI 0] 39 (0, 0))] := hS20
   refine hK12 [(0, .slice A0 l0.length c0), (2, pP b1 0), (3, vI (i1 : Int)), (4, pP b2 0), (5, .bool q2), (22, .slice A0 l0.length c0), (23, vI (l0.length : Int)), (24, vI (i1 : Int))] w9 ?_ a hF
   refine ws fun K13 hK13 => ?_
   refine ws fun K14 hK14 => ?_
   refine wr [(0, 0)] ?_
   refine gb0 [0] [(6, vI 0)] ?_
   refine gn hK14 ?_
   refine we_block ?_
   have hS21 := hS20.bring 1 rfl
   have hS22 := hS21.bring 1 rfl
   rcases hq5 : iter (punctualref_CheckSet.r3 e1) K (q2, 0) with _ | (q5 | rr3)
   ·rw [hq5] at h; cases h
   ·rw [hq5] at h
    simp only [] at h
    refine we_iter (A := punctualref_CheckSet.A3 w0 l0 A0 c0 b1 i1 e1 b2) (B := punctualref_CheckSet.B3 w0 l0 A0 c0 b1 i1 e1 b2) hq5 (fun a hF => ⟨hS22, hF.weaken ea⟩) (fun s o hf a w hA Q hQ => punctualref_CheckSet_r3 K w0 l0 A0 c0 hR0 hL0 b1 i1 hc3 e1 hx2 b2 q2 s o hf a w hA Q hQ) ?_
    rintro _ a w10 _ ⟨rfl, hS31, hF⟩
    replace hS31 : St w0 w10 [Own.blk b2 (.cells #[.string e1.Name, vI e1.C, vI e1.T, vI e1.D, vI e1.J, vI e1.O, vI e1.P] 51 (0, 0)), Own.blk b1 (.cells #[vI 0, vI 0] 39 (0, 0))] := hS31
    refine hK13 [(0, .slice A0 l0.length c0), (2, pP b1 0), (3, vI (i1 : Int)), (4, pP b2 0), (5, .bool q5), (22, .slice A0 l0.length c0), (23, vI (l0.length : Int)), (24, vI (i1 : Int))] w10 ?_ a hF
    refine ws fun K18 hK18 => ?_
    refine ws fun K19 hK19 => ?_
    refine wr [(0, 0), (1, 0)] ?_
    refine gb0 [0, 1] [(62, .bool (!q5)), (61, .bool q5)] ?_
    refine gn hK19 ?_
    by_cases hc9 : q5 = true
    ·rw [if_pos hc9] at h
     refine wk 62 (!q5) false (congrArg (fun z => !z) hc9) ?_
     refine we_false (by kernel_rfl) ?_
     refine we_skip fun a hF => hK18 _ _ ?_ a hF
     refine ws fun K20 hK20 => ?_
     refine ws fun K21 hK21 => ?_
     refine wr [(0, 0), (1, 0), (2, 0), (3, 0), (4, 0)] ?_
     refine gb0 [0, 1] [(66, vI (i1 : Int)), (65, .slice A0 l0.length c0)] ?_
     by_cases hc10 : i1 ≤ l0.length
     ·rw [if_pos hc10] at h
      refine ge_part (d := 67) (ty := 47) (t := 47) (el := 51) (sz := 7) (m := l0.length) (c := c0) (lo := 0) (hi := i1) (x := (.tmp 65)) (xl := none) (xh := some (.tmp 66)) (A := A0) (by kernel_rfl) (by kernel_rfl) rfl ⟨.i64, (i1 : Int), by kernel_rfl, rfl⟩ (by kernel_rfl) (by kernel_rfl) (by have f0 := hc10; have f1 := hL0; omega) (by have f0 := hc10; have f1 := hL0; omega) ?_
      refine ge_same (t := 67) (v := .slice (subA A0 c0 0 7) (i1 - 0) (c0 - 0)) (v' := .slice (subA A0 c0 0 7) (((l0.take i1).drop 0).length) (c0 - 0)) (by kernel_rfl) (by have f0 := hc10; have f1 := hL0; rw [show i1 - 0 = ((l0.take i1).drop 0).length by simp only [List.length_drop, List.length_take]; omega]) ?_
      refine gb0 [3, 4] [(69, vI 0), (68, vI (((l0.take i1).drop 0).length : Int))] ?_
      refine gn hK21 ?_
      refine we_block ?_
      have hS32 := hS31.bring 1 rfl
      have hS33 := hS32.bring 1 rfl
      rcases hq7 : iter (punctualref_CheckSet.r4 l0 i1 e1) K 0 with _ | (_ | rr2)
      ·rw [hq7] at h; cases h
      ·rw [hq7] at h
       simp only [] at h
       refine we_iter (A := punctualref_CheckSet.A4 w0 l0 A0 c0 b1 i1 e1 b2) (B := punctualref_CheckSet.B4 w0 l0 A0 c0 b1 i1 e1 b2) hq7 (fun a hF => ⟨hS33, hF.weaken ea⟩) (fun s o hf a w hA Q hQ => punctualref_CheckSet_r4 K w0 l0 A0 c0 hR0 hL0 b1 i1 hc3 e1 hx2 b2 q2 q5 hc9 hc10 s o hf a w hA Q hQ) ?_
       rintro _ a w15 _ ⟨rfl, hS48, hF⟩
       replace hS48 : St w0 w15 [Own.blk b2 (.cells #[.string e1.Name, vI e1.C, vI e1.T, vI e1.D, vI e1.J, vI e1.O, vI e1.P] 51 (0, 0)), Own.blk b1 (.cells #[vI 0, vI 0] 39 (0, 0))] := hS48
       refine hK20 [(0, .slice A0 l0.length c0), (2, pP b1 0), (3, vI (i1 : Int)), (4, pP b2 0), (22, .slice A0 l0.length c0), (23, vI (l0.length : Int)), (24, vI (i1 : Int))] w15 ?_ a hF
       refine ws fun K28 hK28 => ?_
       refine wr [(0, 0), (1, 0), (2, 1), (3, 1), (4, 2), (5, 2)] ?_
       refine gb0 [0, 1] [(82, .agg #[vI 10000, vI 10000, vI 10000, vI 10000, vI 10000, vI 1000]), (81, .agg #[vI 1, vI 1, vI 1, vI 0, vI 0, vI 0])] ?_
       refine gw (some 9) (.cells #[vI 0, vI 0, vI 0, vI 0, vI 0, vI 0] 221) (fun b => pP b 0) hS48 fun b5 w16 hx7 hS49 => ?_
       refine gw (some 10) (.cells #[vI 0, vI 0, vI 0, vI 0, vI 0, vI 0] 221) (fun b => pP b 0) hS49 fun b6 w17 hx8 hS50 => ?_
       have hS51 := hS50.bring 1 rfl
       refine gs b5 0 #[vI 0, vI 0, vI 0, vI 0, vI 0, vI 0] 221 [vI 1, vI 1, vI 1, vI 0, vI 0, vI 0] hS51 fun w18 hS52 => ?_
       have hS53 : St w0 w18 [Own.blk b5 (.cells #[vI 1, vI 1, vI 1, vI 0, vI 0, vI 0] 221 (0, 0)), Own.blk b6 (.cells #[vI 0, vI 0, vI 0, vI 0, vI 0, vI 0] 221 (0, 0)), Own.blk b2 (.cells #[.string e1.Name, vI e1.C, vI e1.T, vI e1.D, vI e1.J, vI e1.O, vI e1.P] 51 (0, 0)), Own.blk b1 (.cells #[vI 0, vI 0] 39 (0, 0))] := hS52
       have hS54 := hS53.bring 1 rfl
       refine gs b6 0 #[vI 0, vI 0, vI 0, vI 0, vI 0, vI 0] 221 [vI 10000, vI 10000, vI 10000, vI 10000, vI 10000, vI 1000] hS54 fun w19 hS55 => ?_
       have hS56 : St w0 w19 [Own.blk b6 (.cells #[vI 10000, vI 10000, vI 10000, vI 10000, vI 10000, vI 1000] 221 (0, 0)), Own.blk b5 (.cells #[vI 1, vI 1, vI 1, vI 0, vI 0, vI 0] 221 (0, 0)), Own.blk b2 (.cells #[.string e1.Name, vI e1.C, vI e1.T, vI e1.D, vI e1.J, vI e1.O, vI e1.P] 51 (0, 0)), Own.blk b1 (.cells #[vI 0, vI 0] 39 (0, 0))] := hS55
       refine gn hK28 ?_
       refine ws fun K29 hK29 => ?_
       refine ws fun K30 hK30 => ?_
       refine wr [(0, 0), (1, 1), (2, 0)] ?_
       refine gb [0] [(83, .agg #[.string e1.Name, vI e1.C, vI e1.T, vI e1.D, vI e1.J, vI e1.O, vI e1.P])] [.loaded ⟨b2, 0, none⟩ (.string e1.Name), .loaded ⟨b2, 1, none⟩ (vI e1.C), .loaded ⟨b2, 2, none⟩ (vI e1.T), .loaded ⟨b2, 3, none⟩ (vI e1.D), .loaded ⟨b2, 4, none⟩ (vI e1.J), .loaded ⟨b2, 5, none⟩ (vI e1.O), .loaded ⟨b2, 6, none⟩ (vI e1.P)] ⟨hS56.c 2, hS56.c 2, hS56.c 2, hS56.c 2, hS56.c 2, hS56.c 2, hS56.c 2, trivial⟩ ?_
       refine ge_call (d := some 84) (f := 199) (args := #[.agg #[.string e1.Name, vI e1.C, vI e1.T, vI e1.D, vI e1.J, vI e1.O, vI e1.P]]) (by kernel_rfl) (punctualref_sixOf_ok e1 _ _ rfl) ?_
       rintro _ w20 ⟨rfl, hS57⟩
       refine ⟨_, rfl, hS57.below, ?_⟩
       have hS58 := hS56.call hS57
       refine gb0 [2] [(85, vI 0)] ?_
       refine gn hK30 ?_
       refine we_block ?_
       have hS59 := hS58.bring 3 rfl
       have hS60 := hS59.bring 3 rfl
       have hS61 := hS60.bring 3 rfl
       have hS62 := hS61.bring 3 rfl
       rcases hq11 : iter (punctualref_CheckSet.r5 i1 e1) K 0 with _ | (_ | rr1)
       ·rw [hq11] at h; cases h
       ·rw [hq11] at h
        simp only [] at h
        refine we_iter (A := punctualref_CheckSet.A5 w0 l0 A0 c0 b1 i1 e1 b2 b5 b6) (B := punctualref_CheckSet.B5 w0 l0 A0 c0 b1 i1 e1 b2) hq11 (fun a hF => ⟨hS62, hF.weaken ea⟩) (fun s o hf a w hA Q hQ => punctualref_CheckSet_r5 K w0 l0 A0 c0 hR0 hL0 b1 i1 hc3 e1 hx2 b2 q2 q5 hc9 hc10 b5 b6 s o hf a w hA Q hQ) ?_
        rintro _ a w25 _ ⟨rfl, hS82, hF⟩
        replace hS82 : St w0 w25 [Own.blk b2 (.cells #[.string e1.Name, vI e1.C, vI e1.T, vI e1.D, vI e1.J, vI e1.O, vI e1.P] 51 (0, 0)), Own.blk b1 (.cells #[vI 0, vI 0] 39 (0, 0))] := hS82
        refine hK29 [(0, .slice A0 l0.length c0), (2, pP b1 0), (3, vI (i1 : Int)), (4, pP b2 0), (22, .slice A0 l0.length c0), (23, vI (l0.length : Int)), (24, vI (i1 : Int))] w25 ?_ a hF
        refine ws fun K38 hK38 => ?_
        refine wr [(0, 0), (1, 0), (2, 0), (3, 0), (4, 0)] ?_
        refine gb [0, 1, 2, 3, 4] [(108, .bool (decide (e1.D < e1.C))), (107, vI e1.C), (106, pP b2 1), (105, vI e1.D), (104, pP b2 3)] [.loaded ⟨b2, 3, none⟩ (vI e1.D), .loaded ⟨b2, 1, none⟩ (vI e1.C)] ⟨hS82.c 0, hS82.c 0, trivial⟩ ?_
        refine gn hK38 ?_
        by_cases hc16 : e1.D < e1.C
        ·rw [if_pos hc16] at h
         refine wk 108 (decide (e1.D < e1.C)) true (decide_eq_true hc16) ?_
         refine we_true (by kernel_rfl) ?_
         refine ws fun K39 hK39 => ?_
         refine wr [(0, 0), (1, 1), (2, 2)] ?_
         refine gb0 [0] [(109, vI (i1 : Int))] ?_
         refine ge_call (d := some 110) (f := 74) (args := #[vI 12, vI (i1 : Int)]) (by kernel_rfl) (punctualref_F_ok 12 (i1 : Int) _ _ rfl) ?_
         rintro _ w26 ⟨rfl, hS83⟩
         refine ⟨_, rfl, hS83.below, ?_⟩
         have hS84 := hS82.call hS83
         have hS85 := hS84.bring 1 rfl
         refine gs b1 0 #[vI 0, vI 0] 39 [vI ((punctualref_F.f 12 (i1 : Int)).Code), vI ((punctualref_F.f 12 (i1 : Int)).At)] hS85 fun w27 hS86 => ?_
         have hS87 : St w0 w27 [Own.blk b1 (.cells #[vI ((punctualref_F.f 12 (i1 : Int)).Code), vI ((punctualref_F.f 12 (i1 : Int)).At)] 39 (0, 0)), Own.blk b2 (.cells #[.string e1.Name, vI e1.C, vI e1.T, vI e1.D, vI e1.J, vI e1.O, vI e1.P] 51 (0, 0))] := hS86
         refine gn hK39 ?_
         have hS88 := hS87.takeN 0
         obtain rfl := si h
         exact we_ret fun a hF => hQ _ _ _ (Outs.out nofun (Exits.on ⟨rfl, (pr [.cell 2 39] [.agg #[vI ((punctualref_F.f 12 (i1 : Int)).Code), vI ((punctualref_F.f 12 (i1 : Int)).At)]] [.loaded ⟨b1, 0, none⟩ (vI ((punctualref_F.f 12 (i1 : Int)).Code)), .loaded ⟨b1, 1, none⟩ (vI ((punctualref_F.f 12 (i1 : Int)).At))] ⟨hS87.c 0, hS87.c 0, trivial⟩ ⟨rfl, hS88⟩) a hF⟩))
        ·rw [if_neg hc16] at h
         refine wk 108 (decide (e1.D < e1.C)) false (decide_eq_false hc16) ?_
         refine we_false (by kernel_rfl) ?_
         refine we_skip fun a hF => hK10 _ _ ?_ a hF
         refine wr [(0, 0), (1, 0)] ?_
         refine ge_addn (d := 111) (ty := 3) (x := (.tmp 24)) (y := (.const (vI 1))) (t := 3) (t2 := 3) (k := .i64) (m := i1) (by kernel_rfl) (by kernel_rfl) (by kernel_rfl) (by have h0 := hR0.small; omega) ?_
         refine gb0 [1] [(24, vI ((i1 + 1 : Nat) : Int))] ?_
         have hS89 := hS82.bring 1 rfl
         have hS90 := hS89.takeN 1
         obtain rfl := si h
         exact ge_nil fun a hF => hQ _ _ _ (Outs.again ⟨hS90, hF.weaken ea⟩)
       ·rw [hq11] at h
        simp only [] at h
        refine we_iter (A := punctualref_CheckSet.A5 w0 l0 A0 c0 b1 i1 e1 b2 b5 b6) (B := punctualref_CheckSet.B5 w0 l0 A0 c0 b1 i1 e1 b2) hq11 (fun a hF => ⟨hS62, hF.weaken ea⟩) (fun s o hf a w hA Q hQ => punctualref_CheckSet_r5 K w0 l0 A0 c0 hR0 hL0 b1 i1 hc3 e1 hx2 b2 q2 q5 hc9 hc10 b5 b6 s o hf a w hA Q hQ) ?_
        rintro _ a w1 _ ⟨rfl, hb⟩
        obtain rfl := si h
        exact hQ _ _ _ (Outs.out nofun (Exits.on ⟨rfl, hb⟩))
      ·rw [hq7] at h
       simp only [] at h
       refine we_iter (A := punctualref_CheckSet.A4 w0 l0 A0 c0 b1 i1 e1 b2) (B := punctualref_CheckSet.B4 w0 l0 A0 c0 b1 i1 e1 b2) hq7 (fun a hF => ⟨hS33, hF.weaken ea⟩) (fun s o hf a w hA Q hQ => punctualref_CheckSet_r4 K w0 l0 A0 c0 hR0 hL0 b1 i1 hc3 e1 hx2 b2 q2 q5 hc9 hc10 s o hf a w hA Q hQ) ?_
       rintro _ a w1 _ ⟨rfl, hb⟩
       obtain rfl := si h
       exact hQ _ _ _ (Outs.out nofun (Exits.on ⟨rfl, hb⟩))
     ·rw [if_neg hc10] at h
      cases h
    ·rw [if_neg hc9] at h
     refine wk 62 (!q5) true (congrArg (fun z => !z) (Bool.eq_false_iff.2 hc9)) ?_
     refine we_true (by kernel_rfl) ?_
     refine ws fun K40 hK40 => ?_
     refine wr [(0, 0), (1, 1), (2, 2)] ?_
     refine gb0 [0] [(63, vI (i1 : Int))] ?_
     refine ge_call (d := some 64) (f := 74) (args := #[vI 4, vI (i1 : Int)]) (by kernel_rfl) (punctualref_F_ok 4 (i1 : Int) _ _ rfl) ?_
     rintro _ w28 ⟨rfl, hS91⟩
     refine ⟨_, rfl, hS91.below, ?_⟩
     have hS92 := hS31.call hS91
     have hS93 := hS92.bring 1 rfl
     refine gs b1 0 #[vI 0, vI 0] 39 [vI ((punctualref_F.f 4 (i1 : Int)).Code), vI ((punctualref_F.f 4 (i1 : Int)).At)] hS93 fun w29 hS94 => ?_
     have hS95 : St w0 w29 [Own.blk b1 (.cells #[vI ((punctualref_F.f 4 (i1 : Int)).Code), vI ((punctualref_F.f 4 (i1 : Int)).At)] 39 (0, 0)), Own.blk b2 (.cells #[.string e1.Name, vI e1.C, vI e1.T, vI e1.D, vI e1.J, vI e1.O, vI e1.P] 51 (0, 0))] := hS94
     refine gn hK40 ?_
     have hS96 := hS95.takeN 0
     obtain rfl := si h
     exact we_ret fun a hF => hQ _ _ _ (Outs.out nofun (Exits.on ⟨rfl, (pr [.cell 2 39] [.agg #[vI ((punctualref_F.f 4 (i1 : Int)).Code), vI ((punctualref_F.f 4 (i1 : Int)).At)]] [.loaded ⟨b1, 0, none⟩ (vI ((punctualref_F.f 4 (i1 : Int)).Code)), .loaded ⟨b1, 1, none⟩ (vI ((punctualref_F.f 4 (i1 : Int)).At))] ⟨hS95.c 0, hS95.c 0, trivial⟩ ⟨rfl, hS96⟩) a hF⟩))
   ·rw [hq5] at h
    simp only [] at h
    refine we_iter (A := punctualref_CheckSet.A3 w0 l0 A0 c0 b1 i1 e1 b2) (B := punctualref_CheckSet.B3 w0 l0 A0 c0 b1 i1 e1 b2) hq5 (fun a hF => ⟨hS22, hF.weaken ea⟩) (fun s o hf a w hA Q hQ => punctualref_CheckSet_r3 K w0 l0 A0 c0 hR0 hL0 b1 i1 hc3 e1 hx2 b2 q2 s o hf a w hA Q hQ) ?_
    rintro _ a w1 _ ⟨rfl, hb⟩
    obtain rfl := si h
    exact hQ _ _ _ (Outs.out nofun (Exits.on ⟨rfl, hb⟩))
  ·rw [hq4] at h
   simp only [] at h
   refine we_keep (e' := [(0, .slice A0 l0.length c0), (2, pP b1 0), (3, vI (i1 : Int)), (4, pP b2 0), (22, .slice A0 l0.length c0), (23, vI (l0.length : Int)), (24, vI (i1 : Int)), (25, .bool true), (26, vI (i1 : Int)), (27, .pointer (some ⟨blkOf A0, offOf A0 + i1 * 7, none⟩)), (28, .agg #[.string e1.Name, vI e1.C, vI e1.T, vI e1.D, vI e1.J, vI e1.O, vI e1.P])]) ea (punctualref_CheckSet_p2 K w0 l0 A0 c0 hR0 hL0 b1 i1 hc3 e1 hx2 b2 _ hq4 _ hS15 _ ?_)
   rintro _ a w1 ⟨_, rfl, hb⟩
   obtain rfl := si h
   exact hQ _ _ _ (Outs.out nofun (Exits.on ⟨rfl, hb⟩))
 ·rw [if_neg hc3] at h
  refine wk 25 (decide ((i1 : Int) < (l0.length : Int))) false (decide_eq_false hc3) ?_
  refine we_false (by kernel_rfl) ?_
  obtain rfl := si h
  exact we_exit fun a hF => hQ _ _ _ (Outs.out nofun (Exits.here ⟨hS, hF.weaken ea⟩))
theorem punctualref_CheckSet_ok (K : Nat) (l0 : List STask) (A0 : Option Addr) (c0 : Nat) (w0 : World) (hR0 : RdL w0 A0 l0) (hL0 : l0.length ≤ c0) (r : SFault) (h : punctualref_CheckSet.f K l0 = some r) :
  Calls Tryd.prog 178 #[.slice A0 l0.length c0] w0 (punctualref_CheckSet.Post w0 r) := by
 have hS := St.start w0
 unfold punctualref_CheckSet.f at h
 refine calls_enter (n := 113) (args := [.slice A0 l0.length c0]) (fn := Tryd.f178) rfl rfl rfl rfl ?_
 show WE _ _ _ _ [(0, .slice A0 l0.length c0)] _
 refine ws fun K1 hK1 => ?_
 refine wr [(0, 1)] ?_
 refine gw (some 2) (.cells #[vI 0, vI 0] 39) (fun b => pP b 0) hS fun b1 w1 hx1 hS1 => ?_
 refine gn hK1 ?_
 refine ws fun K2 hK2 => ?_
 rcases hq3 : punctualref_CheckSet.p0 l0 with _ | (_ | rr6)
 ·rw [hq3] at h; cases h
 ·rw [hq3] at h
  simp only [] at h
  refine we_keep (e' := [(0, .slice A0 l0.length c0), (2, pP b1 0)]) ea (punctualref_CheckSet_p0 K w0 l0 A0 c0 hR0 hL0 b1 _ hq3 _ hS1 _ ?_)
  rintro _ a w6 ⟨rfl, hS12, hF⟩
  replace hS12 : St w0 w6 [Own.blk b1 (.cells #[vI 0, vI 0] 39 (0, 0))] := hS12
  refine hK2 [(0, .slice A0 l0.length c0), (2, pP b1 0)] w6 ?_ a hF
  refine ws fun K6 hK6 => ?_
  refine ws fun K7 hK7 => ?_
  refine wr [(0, 0), (1, 0), (2, 0)] ?_
  refine gb0 [0, 1, 2] [(24, vI 0), (23, vI (l0.length : Int)), (22, .slice A0 l0.length c0)] ?_
  refine gn hK7 ?_
  refine we_block ?_
  rcases hq14 : iter (punctualref_CheckSet.r1 K l0) K 0 with _ | (_ | rr5)
  ·rw [hq14] at h; cases h
  ·rw [hq14] at h
   simp only [] at h
   refine we_iter (A := punctualref_CheckSet.A1 w0 l0 A0 c0 b1) (B := punctualref_CheckSet.B1 w0 b1) hq14 (fun a hF => ⟨hS12, hF.weaken ea⟩) (fun s o hf a w hA Q hQ => punctualref_CheckSet_r1 K w0 l0 A0 c0 hR0 hL0 b1 s o hf a w hA Q hQ) ?_
   rintro _ a w30 _ ⟨rfl, hS97, hF⟩
   replace hS97 : St w0 w30 [Own.blk b1 (.cells #[vI 0, vI 0] 39 (0, 0))] := hS97
   refine hK6 [(2, pP b1 0)] w30 ?_ a hF
   refine ws fun K41 hK41 => ?_
   refine wr [(0, 0), (1, 2)] ?_
   refine gb0 [0] [(112, .agg #[vI 0, vI 0])] ?_
   refine gs b1 0 #[vI 0, vI 0] 39 [vI 0, vI 0] hS97 fun w31 hS98 => ?_
   have hS99 : St w0 w31 [Own.blk b1 (.cells #[vI 0, vI 0] 39 (0, 0))] := hS98
   refine gn hK41 ?_
   have hS100 := hS99.takeN 0
   obtain rfl := si h
   exact we_ret (pr [.cell 2 39] [.agg #[vI 0, vI 0]] [.loaded ⟨b1, 0, none⟩ (vI 0), .loaded ⟨b1, 1, none⟩ (vI 0)] ⟨hS99.c 0, hS99.c 0, trivial⟩ ⟨rfl, hS100⟩)
  ·rw [hq14] at h
   simp only [] at h
   refine we_iter (A := punctualref_CheckSet.A1 w0 l0 A0 c0 b1) (B := punctualref_CheckSet.B1 w0 b1) hq14 (fun a hF => ⟨hS12, hF.weaken ea⟩) (fun s o hf a w hA Q hQ => punctualref_CheckSet_r1 K w0 l0 A0 c0 hR0 hL0 b1 s o hf a w hA Q hQ) ?_
   rintro _ a w1 _ ⟨rfl, hb⟩
   obtain rfl := si h
   exact hb
 ·rw [hq3] at h
  simp only [] at h
  refine we_keep (e' := [(0, .slice A0 l0.length c0), (2, pP b1 0)]) ea (punctualref_CheckSet_p0 K w0 l0 A0 c0 hR0 hL0 b1 _ hq3 _ hS1 _ ?_)
  rintro _ a w1 ⟨_, rfl, hb⟩
  obtain rfl := si h
  exact hb

/-! punctual/punctualref.CheckFixed -/
abbrev punctualref_CheckFixed.Post (w0 : World) (r : SFault) (e : Ending) (w : World) : Prop := e = .returned (.agg #[vI r.Code, vI r.At]) ∧ St w0 w []
def punctualref_CheckFixed.r0 (l0 : List STask) : Nat → Option (Nat ⊕ (Unit ⊕ SFault))
 | i1 =>
  if (i1 : Int) < (l0.length : Int) then
   match l0[i1]? with
   | none => none
   | some e1 =>
    if e1.D > e1.T then
     some (.inr (.inr (punctualref_F.f 12 (i1 : Int))))
    else
     some (.inl (i1 + 1))
  else
   some (.inr (.inl ()))
def punctualref_CheckFixed.f (K : Nat) (l0 : List STask) : Option SFault :=
 match punctualref_CheckSet.f K l0 with
 | none => none
 | some r1 =>
  if r1.Code = 0 then
   match iter (punctualref_CheckFixed.r0 l0) K 0 with
   | none => none
   | some (.inl _) =>
    some (⟨0, 0⟩ : SFault)
   | some (.inr rr1) =>
    some rr1
  else
   some r1
abbrev punctualref_CheckFixed.A0 (w0 : World) (l0 : List STask) (A0 : Option Addr) (c0 : Nat) (b1 : Nat) : Nat → Act → World → Prop := fun (s : Nat) a w => St w0 w [Own.blk b1 (.cells #[vI 0, vI 0] 39 (0, 0))] ∧ Frm 28 a [(2, pP b1 0), (12, .slice A0 l0.length c0), (13, vI (l0.length : Int)), (14, vI (s : Int))]
abbrev punctualref_CheckFixed.B0 (w0 : World) (b1 : Nat) : (Unit ⊕ SFault) → Exit → Act → World → Prop := Exits 0 (fun (s : Unit) a w => St w0 w [Own.blk b1 (.cells #[vI 0, vI 0] 39 (0, 0))] ∧ Frm 28 a [(2, pP b1 0)]) (Rets Tryd.prog Tryd.f140 (punctualref_CheckFixed.Post w0))
theorem punctualref_CheckFixed_r0 (K : Nat) (w0 : World) (l0 : List STask) (A0 : Option Addr) (c0 : Nat) (hR0 : RdL w0 A0 l0) (hL0 : l0.length ≤ c0) (b1 : Nat) (r1 : SFault) (b2 : Nat) (hc1 : r1.Code = 0) (s : Nat) (o : Nat ⊕ (Unit ⊕ SFault)) (h : punctualref_CheckFixed.r0 l0 s = some o) (a : Act) (w : World) (hA : punctualref_CheckFixed.A0 w0 l0 A0 c0 b1 s a w) (Q : Exit → Act → World → Prop) (hQ : ∀ x a w, Outs (punctualref_CheckFixed.A0 w0 l0 A0 c0 b1) (punctualref_CheckFixed.B0 w0 b1) o x a w → Q x a w) : (subF Tryd.f140 [1, 1, 0, 1, 0, 0]).wp Tryd.prog Q a w := by
 obtain ⟨i1, hs⟩ : ∃ z, z = s := ⟨s, rfl⟩
 subst hs
 obtain ⟨hS, hF⟩ := hA
 replace hS : St w0 w [Own.blk b1 (.cells #[vI 0, vI 0] 39 (0, 0))] := hS
 simp only [punctualref_CheckFixed.r0] at h
 refine (?_ : WE Tryd.prog 28 (subF Tryd.f140 [1, 1, 0, 1, 0, 0]) Q [(2, pP b1 0), (12, .slice A0 l0.length c0), (13, vI (l0.length : Int)), (14, vI (i1 : Int))] w) a hF
 clear hF a
 refine ws fun K7 hK7 => ?_
 refine wr [(0, 0)] ?_
 refine gb0 [0] [(15, .bool (decide ((i1 : Int) < (l0.length : Int))))] ?_
 refine gn hK7 ?_
 refine ws fun K8 hK8 => ?_
 by_cases hc2 : (i1 : Int) < (l0.length : Int)
 ·rw [if_pos hc2] at h
  refine wk 15 (decide ((i1 : Int) < (l0.length : Int))) true (decide_eq_true hc2) ?_
  refine we_true (by kernel_rfl) ?_
  refine we_skip fun a hF => hK8 _ _ ?_ a hF
  refine ws fun K9 hK9 => ?_
  refine we_block ?_
  refine ws fun K10 hK10 => ?_
  refine wr [(0, 0), (1, 0), (2, 0), (3, 1), (4, 0), (5, 2)] ?_
  refine gb0 [0] [(16, vI (i1 : Int))] ?_
  rcases hx3 : l0[i1]? with _ | e1
  ·rw [hx3] at h; cases h
  rw [hx3] at h
  simp only [] at h
  refine gi 17 0 47 51 7 l0.length c0 (.tmp 12) (.tmp 14) A0 .i64 (i1 : Int) i1 ((hS.rd hR0).eqSome (pos_of_get hx3)) rfl (lt_of_get hx3) ?_
  refine gb [2] [(18, .agg #[.string e1.Name, vI e1.C, vI e1.T, vI e1.D, vI e1.J, vI e1.O, vI e1.P])] [.loaded ⟨blkOf A0, offOf A0 + i1 * 7, none⟩ (.string e1.Name), .loaded ⟨blkOf A0, offOf A0 + i1 * 7 + 1, none⟩ (vI e1.C), .loaded ⟨blkOf A0, offOf A0 + i1 * 7 + 2, none⟩ (vI e1.T), .loaded ⟨blkOf A0, offOf A0 + i1 * 7 + 3, none⟩ (vI e1.D), .loaded ⟨blkOf A0, offOf A0 + i1 * 7 + 4, none⟩ (vI e1.J), .loaded ⟨blkOf A0, offOf A0 + i1 * 7 + 5, none⟩ (vI e1.O), .loaded ⟨blkOf A0, offOf A0 + i1 * 7 + 6, none⟩ (vI e1.P)] ⟨RdL.cell (j := 0) (hS.rd hR0) hx3 rfl, RdL.cell (j := 1) (hS.rd hR0) hx3 rfl, RdL.cell (j := 2) (hS.rd hR0) hx3 rfl, RdL.cell (j := 3) (hS.rd hR0) hx3 rfl, RdL.cell (j := 4) (hS.rd hR0) hx3 rfl, RdL.cell (j := 5) (hS.rd hR0) hx3 rfl, RdL.cell (j := 6) (hS.rd hR0) hx3 rfl, trivial⟩ ?_
  refine gw (some 5) (.cells #[.string (⟨#[]⟩), vI 0, vI 0, vI 0, vI 0, vI 0, vI 0] 51) (fun b => pP b 0) hS fun b3 w5 hx4 hS9 => ?_
  refine gb0 [4] [(4, vI (i1 : Int))] ?_
  refine gs b3 0 #[.string (⟨#[]⟩), vI 0, vI 0, vI 0, vI 0, vI 0, vI 0] 51 [.string e1.Name, vI e1.C, vI e1.T, vI e1.D, vI e1.J, vI e1.O, vI e1.P] hS9 fun w6 hS10 => ?_
  have hS11 : St w0 w6 [Own.blk b3 (.cells #[.string e1.Name, vI e1.C, vI e1.T, vI e1.D, vI e1.J, vI e1.O, vI e1.P] 51 (0, 0)), Own.blk b1 (.cells #[vI 0, vI 0] 39 (0, 0))] := hS10
  refine gn hK10 ?_
  refine ws fun K11 hK11 => ?_
  refine wr [(0, 0), (1, 0), (2, 0), (3, 0), (4, 0)] ?_
  refine gb [0, 1, 2, 3, 4] [(23, .bool (decide (e1.D > e1.T))), (22, vI e1.T), (21, pP b3 2), (20, vI e1.D), (19, pP b3 3)] [.loaded ⟨b3, 3, none⟩ (vI e1.D), .loaded ⟨b3, 2, none⟩ (vI e1.T)] ⟨hS11.c 0, hS11.c 0, trivial⟩ ?_
  refine gn hK11 ?_
  by_cases hc3 : e1.D > e1.T
  ·rw [if_pos hc3] at h
   refine wk 23 (decide (e1.D > e1.T)) true (decide_eq_true hc3) ?_
   refine we_true (by kernel_rfl) ?_
   refine ws fun K12 hK12 => ?_
   refine wr [(0, 0), (1, 1), (2, 2)] ?_
   refine gb0 [0] [(24, vI (i1 : Int))] ?_
   refine ge_call (d := some 25) (f := 74) (args := #[vI 12, vI (i1 : Int)]) (by kernel_rfl) (punctualref_F_ok 12 (i1 : Int) _ _ rfl) ?_
   rintro _ w7 ⟨rfl, hS12⟩
   refine ⟨_, rfl, hS12.below, ?_⟩
   have hS13 := hS11.call hS12
   have hS14 := hS13.bring 1 rfl
   refine gs b1 0 #[vI 0, vI 0] 39 [vI ((punctualref_F.f 12 (i1 : Int)).Code), vI ((punctualref_F.f 12 (i1 : Int)).At)] hS14 fun w8 hS15 => ?_
   have hS16 : St w0 w8 [Own.blk b1 (.cells #[vI ((punctualref_F.f 12 (i1 : Int)).Code), vI ((punctualref_F.f 12 (i1 : Int)).At)] 39 (0, 0)), Own.blk b3 (.cells #[.string e1.Name, vI e1.C, vI e1.T, vI e1.D, vI e1.J, vI e1.O, vI e1.P] 51 (0, 0))] := hS15
   refine gn hK12 ?_
   have hS17 := hS16.takeN 0
   obtain rfl := si h
   exact we_ret fun a hF => hQ _ _ _ (Outs.out nofun (Exits.on ⟨rfl, (pr [.cell 2 39] [.agg #[vI ((punctualref_F.f 12 (i1 : Int)).Code), vI ((punctualref_F.f 12 (i1 : Int)).At)]] [.loaded ⟨b1, 0, none⟩ (vI ((punctualref_F.f 12 (i1 : Int)).Code)), .loaded ⟨b1, 1, none⟩ (vI ((punctualref_F.f 12 (i1 : Int)).At))] ⟨hS16.c 0, hS16.c 0, trivial⟩ ⟨rfl, hS17⟩) a hF⟩))
  ·rw [if_neg hc3] at h
   refine wk 23 (decide (e1.D > e1.T)) false (decide_eq_false hc3) ?_
   refine we_false (by kernel_rfl) ?_
   refine we_skip fun a hF => hK9 _ _ ?_ a hF
   refine wr [(0, 0), (1, 0)] ?_
   refine ge_addn (d := 26) (ty := 3) (x := (.tmp 14)) (y := (.const (vI 1))) (t := 3) (t2 := 3) (k := .i64) (m := i1) (by kernel_rfl) (by kernel_rfl) (by kernel_rfl) (by have h0 := hR0.small; omega) ?_
   refine gb0 [1] [(14, vI ((i1 + 1 : Nat) : Int))] ?_
   have hS18 := hS11.bring 1 rfl
   have hS19 := hS18.takeN 1
   obtain rfl := si h
   exact ge_nil fun a hF => hQ _ _ _ (Outs.again ⟨hS19, hF.weaken ea⟩)
 ·rw [if_neg hc2] at h
  refine wk 15 (decide ((i1 : Int) < (l0.length : Int))) false (decide_eq_false hc2) ?_
  refine we_false (by kernel_rfl) ?_
  obtain rfl := si h
  exact we_exit fun a hF => hQ _ _ _ (Outs.out nofun (Exits.here ⟨hS, hF.weaken ea⟩))
theorem punctualref_CheckFixed_ok (K : Nat) (l0 : List STask) (A0 : Option Addr) (c0 : Nat) (w0 : World) (hR0 : RdL w0 A0 l0) (hL0 : l0.length ≤ c0) (r : SFault) (h : punctualref_CheckFixed.f K l0 = some r) :
  Calls Tryd.prog 140 #[.slice A0 l0.length c0] w0 (punctualref_CheckFixed.Post w0 r) := by
 have hS := St.start w0
 unfold punctualref_CheckFixed.f at h
 refine calls_enter (n := 28) (args := [.slice A0 l0.length c0]) (fn := Tryd.f140) rfl rfl rfl rfl ?_
 show WE _ _ _ _ [(0, .slice A0 l0.length c0)] _
 refine ws fun K1 hK1 => ?_
 refine wr [(0, 1)] ?_
 refine gw (some 2) (.cells #[vI 0, vI 0] 39) (fun b => pP b 0) hS fun b1 w1 hx1 hS1 => ?_
 refine gn hK1 ?_
 refine ws fun K2 hK2 => ?_
 refine ws fun K3 hK3 => ?_
 refine wr [(0, 0), (1, 1), (2, 1), (3, 2)] ?_
 rcases hq1 : punctualref_CheckSet.f K l0 with _ | r1
 ·rw [hq1] at h; cases h
 rw [hq1] at h
 simp only [] at h
 refine gb0 [0] [(6, .slice A0 l0.length c0)] ?_
 refine ge_call (d := some 7) (f := 178) (args := #[.slice A0 l0.length c0]) (by kernel_rfl) (punctualref_CheckSet_ok K l0 A0 c0 _ (hS1.rd hR0) hL0 _ hq1) ?_
 rintro _ w2 ⟨rfl, hS2⟩
 refine ⟨_, rfl, hS2.below, ?_⟩
 have hS3 := hS1.call hS2
 refine gw (some 3) (.cells #[vI 0, vI 0] 39) (fun b => pP b 0) hS3 fun b2 w3 hx2 hS4 => ?_
 refine gs b2 0 #[vI 0, vI 0] 39 [vI r1.Code, vI r1.At] hS4 fun w4 hS5 => ?_
 have hS6 : St w0 w4 [Own.blk b2 (.cells #[vI r1.Code, vI r1.At] 39 (0, 0)), Own.blk b1 (.cells #[vI 0, vI 0] 39 (0, 0))] := hS5
 refine gn hK3 ?_
 refine ws fun K4 hK4 => ?_
 refine wr [(0, 0), (1, 0), (2, 0)] ?_
 refine gb [0, 1, 2] [(10, .bool (r1.Code != 0)), (9, vI r1.Code), (8, pP b2 0)] [.loaded ⟨b2, 0, none⟩ (vI r1.Code)] ⟨hS6.c 0, trivial⟩ ?_
 refine gn hK4 ?_
 by_cases hc1 : r1.Code = 0
 ·rw [if_pos hc1] at h
  refine wk 10 (r1.Code != 0) false (bne_eq_false_iff_eq.2 hc1) ?_
  refine we_false (by kernel_rfl) ?_
  refine we_skip fun a hF => hK2 _ _ ?_ a hF
  refine ws fun K5 hK5 => ?_
  refine ws fun K6 hK6 => ?_
  refine wr [(0, 0), (1, 0), (2, 0)] ?_
  refine gb0 [0, 1, 2] [(14, vI 0), (13, vI (l0.length : Int)), (12, .slice A0 l0.length c0)] ?_
  refine gn hK6 ?_
  refine we_block ?_
  have hS7 := hS6.bring 1 rfl
  have hS8 := hS7.takeN 1
  rcases hq3 : iter (punctualref_CheckFixed.r0 l0) K 0 with _ | (_ | rr1)
  ·rw [hq3] at h; cases h
  ·rw [hq3] at h
   simp only [] at h
   refine we_iter (A := punctualref_CheckFixed.A0 w0 l0 A0 c0 b1) (B := punctualref_CheckFixed.B0 w0 b1) hq3 (fun a hF => ⟨hS8, hF.weaken ea⟩) (fun s o hf a w hA Q hQ => punctualref_CheckFixed_r0 K w0 l0 A0 c0 hR0 hL0 b1 r1 b2 hc1 s o hf a w hA Q hQ) ?_
   rintro _ a w9 _ ⟨rfl, hS20, hF⟩
   replace hS20 : St w0 w9 [Own.blk b1 (.cells #[vI 0, vI 0] 39 (0, 0))] := hS20
   refine hK5 [(2, pP b1 0)] w9 ?_ a hF
   refine ws fun K13 hK13 => ?_
   refine wr [(0, 0), (1, 2)] ?_
   refine gb0 [0] [(27, .agg #[vI 0, vI 0])] ?_
   refine gs b1 0 #[vI 0, vI 0] 39 [vI 0, vI 0] hS20 fun w10 hS21 => ?_
   have hS22 : St w0 w10 [Own.blk b1 (.cells #[vI 0, vI 0] 39 (0, 0))] := hS21
   refine gn hK13 ?_
   have hS23 := hS22.takeN 0
   obtain rfl := si h
   exact we_ret (pr [.cell 2 39] [.agg #[vI 0, vI 0]] [.loaded ⟨b1, 0, none⟩ (vI 0), .loaded ⟨b1, 1, none⟩ (vI 0)] ⟨hS22.c 0, hS22.c 0, trivial⟩ ⟨rfl, hS23⟩)
  ·rw [hq3] at h
   simp only [] at h
   refine we_iter (A := punctualref_CheckFixed.A0 w0 l0 A0 c0 b1) (B := punctualref_CheckFixed.B0 w0 b1) hq3 (fun a hF => ⟨hS8, hF.weaken ea⟩) (fun s o hf a w hA Q hQ => punctualref_CheckFixed_r0 K w0 l0 A0 c0 hR0 hL0 b1 r1 b2 hc1 s o hf a w hA Q hQ) ?_
   rintro _ a w1 _ ⟨rfl, hb⟩
   obtain rfl := si h
   exact hb
 ·rw [if_neg hc1] at h
  refine wk 10 (r1.Code != 0) true (bne_iff_ne.2 hc1) ?_
  refine we_true (by kernel_rfl) ?_
  refine ws fun K14 hK14 => ?_
  refine wr [(0, 0), (1, 2)] ?_
  refine gb [0] [(11, .agg #[vI r1.Code, vI r1.At])] [.loaded ⟨b2, 0, none⟩ (vI r1.Code), .loaded ⟨b2, 1, none⟩ (vI r1.At)] ⟨hS6.c 0, hS6.c 0, trivial⟩ ?_
  have hS24 := hS6.bring 1 rfl
  refine gs b1 0 #[vI 0, vI 0] 39 [vI r1.Code, vI r1.At] hS24 fun w11 hS25 => ?_
  have hS26 : St w0 w11 [Own.blk b1 (.cells #[vI r1.Code, vI r1.At] 39 (0, 0)), Own.blk b2 (.cells #[vI r1.Code, vI r1.At] 39 (0, 0))] := hS25
  refine gn hK14 ?_
  have hS27 := hS26.takeN 0
  obtain rfl := si h
  exact we_ret (pr [.cell 2 39] [.agg #[vI r1.Code, vI r1.At]] [.loaded ⟨b1, 0, none⟩ (vI r1.Code), .loaded ⟨b1, 1, none⟩ (vI r1.At)] ⟨hS26.c 0, hS26.c 0, trivial⟩ ⟨rfl, hS27⟩)

/-! punctual/punctualref.up -/
abbrev punctualref_up.Post (w0 : World) (r : Int) (e : Ending) (w : World) : Prop := e = .returned (vI r) ∧ St w0 w []
def punctualref_up.f (x0 : Int) (x1 : Int) : Option Int :=
 if x1 = 0 then
  none
 else
  if (IntKind.i64.wrap ((IntKind.i64.wrap (Int.tdiv x0 x1)) * x1)) < x0 then
   some (IntKind.i64.wrap ((IntKind.i64.wrap (Int.tdiv x0 x1)) + 1))
  else
   some (IntKind.i64.wrap (Int.tdiv x0 x1))
theorem punctualref_up_ok (x0 : Int) (x1 : Int) (w0 : World) (r : Int) (h : punctualref_up.f x0 x1 = some r) :
  Calls Tryd.prog 86 #[vI x0, vI x1] w0 (punctualref_up.Post w0 r) := by
 have hS := St.start w0
 unfold punctualref_up.f at h
 refine calls_enter (n := 17) (args := [vI x0, vI x1]) (fn := Tryd.f86) rfl rfl rfl rfl ?_
 show WE _ _ _ _ [(0, vI x0), (1, vI x1)] _
 refine ws fun K1 hK1 => ?_
 refine wr [(0, 0)] ?_
 refine gb0 [0] [(4, vI 0)] ?_
 refine gn hK1 ?_
 refine ws fun K2 hK2 => ?_
 refine wr [(0, 0), (1, 0), (2, 0), (3, 0)] ?_
 refine gb0 [0, 1] [(7, vI x1), (6, vI x0)] ?_
 by_cases hc1 : x1 = 0
 ·rw [if_pos hc1] at h
  cases h
 ·rw [if_neg hc1] at h
  refine ge_div (d := 8) (ty := 3) (op := .quo) (x := (.tmp 6)) (y := (.tmp 7)) (t := 3) (t2 := 3) (k := .i64) (p := x0) (q := x1) (v := vI (IntKind.i64.wrap (Int.tdiv x0 x1))) (by kernel_rfl) (by kernel_rfl) (by kernel_rfl) hc1 rfl ?_
  refine gb0 [3] [(5, vI (IntKind.i64.wrap (Int.tdiv x0 x1)))] ?_
  refine gn hK2 ?_
  refine ws fun K3 hK3 => ?_
  refine ws fun K4 hK4 => ?_
  refine wr [(0, 0), (1, 0), (2, 0), (3, 0), (4, 0)] ?_
  refine gb0 [0, 1, 2, 3, 4] [(13, .bool (decide ((IntKind.i64.wrap ((IntKind.i64.wrap (Int.tdiv x0 x1)) * x1)) < x0))), (12, vI x0), (11, vI (IntKind.i64.wrap ((IntKind.i64.wrap (Int.tdiv x0 x1)) * x1))), (10, vI x1), (9, vI (IntKind.i64.wrap (Int.tdiv x0 x1)))] ?_
  refine gn hK4 ?_
  by_cases hc2 : (IntKind.i64.wrap ((IntKind.i64.wrap (Int.tdiv x0 x1)) * x1)) < x0
  ·rw [if_pos hc2] at h
   refine wk 13 (decide ((IntKind.i64.wrap ((IntKind.i64.wrap (Int.tdiv x0 x1)) * x1)) < x0)) true (decide_eq_true hc2) ?_
   refine we_true (by kernel_rfl) ?_
   refine wr [(0, 0), (1, 0), (2, 0)] ?_
   refine gb0 [0, 1, 2] [(5, vI (IntKind.i64.wrap ((IntKind.i64.wrap (Int.tdiv x0 x1)) + 1))), (15, vI (IntKind.i64.wrap ((IntKind.i64.wrap (Int.tdiv x0 x1)) + 1))), (14, vI (IntKind.i64.wrap (Int.tdiv x0 x1)))] ?_
   refine gn hK3 ?_
   refine ws fun K5 hK5 => ?_
   refine wr [(0, 0), (1, 0)] ?_
   refine gb0 [0, 1] [(4, vI (IntKind.i64.wrap ((IntKind.i64.wrap (Int.tdiv x0 x1)) + 1))), (16, vI (IntKind.i64.wrap ((IntKind.i64.wrap (Int.tdiv x0 x1)) + 1)))] ?_
   refine gn hK5 ?_
   obtain rfl := si h
   exact we_ret (pr0 [.tmp 4] [vI (IntKind.i64.wrap ((IntKind.i64.wrap (Int.tdiv x0 x1)) + 1))] ⟨rfl, hS⟩)
  ·rw [if_neg hc2] at h
   refine wk 13 (decide ((IntKind.i64.wrap ((IntKind.i64.wrap (Int.tdiv x0 x1)) * x1)) < x0)) false (decide_eq_false hc2) ?_
   refine we_false (by kernel_rfl) ?_
   refine we_skip fun a hF => hK3 _ _ ?_ a hF
   refine ws fun K6 hK6 => ?_
   refine wr [(0, 0), (1, 0)] ?_
   refine gb0 [0, 1] [(4, vI (IntKind.i64.wrap (Int.tdiv x0 x1))), (16, vI (IntKind.i64.wrap (Int.tdiv x0 x1)))] ?_
   refine gn hK6 ?_
   obtain rfl := si h
   exact we_ret (pr0 [.tmp 4] [vI (IntKind.i64.wrap (Int.tdiv x0 x1))] ⟨rfl, hS⟩)

/-! punctual/punctualref.AtWorst -/
abbrev punctualref_AtWorst.Post (w0 : World) (r : Int) (e : Ending) (w : World) : Prop := e = .returned (vI r) ∧ St w0 w []
def punctualref_AtWorst.r1 (l1 : List STask) (z1 : Int) : Int × Nat → Option ((Int × Nat) ⊕ (Int ⊕ Int))
 | (z2, i1) =>
  if (i1 : Int) < (l1.length : Int) then
   match l1[i1]? with
   | none => none
   | some e1 =>
    match punctualref_up.f (IntKind.i64.wrap (z1 + e1.J)) e1.T with
    | none => none
    | some r1 =>
     some (.inl (IntKind.i64.wrap (z2 + (IntKind.i64.wrap (r1 * e1.C))), (i1 + 1)))
  else
   some (.inr (.inl z2))
def punctualref_AtWorst.r0 (K : Nat) (x0 : STask) (l1 : List STask) (x2 : Int) : Int → Option (Int ⊕ (Unit ⊕ Int))
 | z1 =>
  if (IntKind.i64.wrap (z1 + x0.J)) ≤ x0.D then
   match iter (punctualref_AtWorst.r1 l1 z1) K (IntKind.i64.wrap (x0.C + x2), 0) with
   | none => none
   | some (.inl z4) =>
    if z4 = z1 then
     some (.inr (.inr (IntKind.i64.wrap (z1 + x0.J))))
    else
     some (.inl (IntKind.i64.wrap (z1 + 1)))
   | some (.inr rr1) =>
    some (.inr (.inr rr1))
  else
   some (.inr (.inl ()))
def punctualref_AtWorst.f (K : Nat) (x0 : STask) (l1 : List STask) (x2 : Int) : Option Int :=
 match iter (punctualref_AtWorst.r0 K x0 l1 x2) K 1 with
 | none => none
 | some (.inl _) =>
  some 0
 | some (.inr rr2) =>
  some rr2
abbrev punctualref_AtWorst.A1 (w0 : World) (x0 : STask) (l1 : List STask) (A1 : Option Addr) (c1 : Nat) (x2 : Int) (b1 : Nat) (z1 : Int) : (Int × Nat) → Act → World → Prop := fun (s : Int × Nat) a w => St w0 w [Own.blk b1 (.cells #[.string x0.Name, vI x0.C, vI x0.T, vI x0.D, vI x0.J, vI x0.O, vI x0.P] 51 (0, 0))] ∧ Frm 50 a [(1, .slice A1 l1.length c1), (2, vI x2), (3, pP b1 0), (7, vI z1), (8, vI s.1), (24, .slice A1 l1.length c1), (25, vI (l1.length : Int)), (26, vI (s.2 : Int))]
abbrev punctualref_AtWorst.B1 (w0 : World) (x0 : STask) (l1 : List STask) (A1 : Option Addr) (c1 : Nat) (x2 : Int) (b1 : Nat) (z1 : Int) : (Int ⊕ Int) → Exit → Act → World → Prop := Exits 2 (fun (s : Int) a w => St w0 w [Own.blk b1 (.cells #[.string x0.Name, vI x0.C, vI x0.T, vI x0.D, vI x0.J, vI x0.O, vI x0.P] 51 (0, 0))] ∧ Frm 50 a [(1, .slice A1 l1.length c1), (2, vI x2), (3, pP b1 0), (7, vI z1), (8, vI s)]) (Rets Tryd.prog Tryd.f113 (punctualref_AtWorst.Post w0))
theorem punctualref_AtWorst_r1 (K : Nat) (w0 : World) (x0 : STask) (l1 : List STask) (A1 : Option Addr) (c1 : Nat) (x2 : Int) (hR1 : RdL w0 A1 l1) (hL1 : l1.length ≤ c1) (b1 : Nat) (z1 : Int) (hc1 : (IntKind.i64.wrap (z1 + x0.J)) ≤ x0.D) (s : Int × Nat) (o : (Int × Nat) ⊕ (Int ⊕ Int)) (h : punctualref_AtWorst.r1 l1 z1 s = some o) (a : Act) (w : World) (hA : punctualref_AtWorst.A1 w0 x0 l1 A1 c1 x2 b1 z1 s a w) (Q : Exit → Act → World → Prop) (hQ : ∀ x a w, Outs (punctualref_AtWorst.A1 w0 x0 l1 A1 c1 x2 b1 z1) (punctualref_AtWorst.B1 w0 x0 l1 A1 c1 x2 b1 z1) o x a w → Q x a w) : (subF Tryd.f113 [1, 0, 1, 0, 0, 1, 0, 0, 1, 0, 1, 0, 0]).wp Tryd.prog Q a w := by
 obtain ⟨z2, i1⟩ := s
 obtain ⟨hS, hF⟩ := hA
 replace hS : St w0 w [Own.blk b1 (.cells #[.string x0.Name, vI x0.C, vI x0.T, vI x0.D, vI x0.J, vI x0.O, vI x0.P] 51 (0, 0))] := hS
 simp only [punctualref_AtWorst.r1] at h
 refine (?_ : WE Tryd.prog 50 (subF Tryd.f113 [1, 0, 1, 0, 0, 1, 0, 0, 1, 0, 1, 0, 0]) Q [(1, .slice A1 l1.length c1), (2, vI x2), (3, pP b1 0), (7, vI z1), (8, vI z2), (24, .slice A1 l1.length c1), (25, vI (l1.length : Int)), (26, vI (i1 : Int))] w) a hF
 clear hF a
 refine ws fun K10 hK10 => ?_
 refine wr [(0, 0)] ?_
 refine gb0 [0] [(27, .bool (decide ((i1 : Int) < (l1.length : Int))))] ?_
 refine gn hK10 ?_
 refine ws fun K11 hK11 => ?_
 by_cases hc2 : (i1 : Int) < (l1.length : Int)
 ·rw [if_pos hc2] at h
  refine wk 27 (decide ((i1 : Int) < (l1.length : Int))) true (decide_eq_true hc2) ?_
  refine we_true (by kernel_rfl) ?_
  refine we_skip fun a hF => hK11 _ _ ?_ a hF
  refine ws fun K12 hK12 => ?_
  refine we_block ?_
  refine ws fun K13 hK13 => ?_
  refine wr [(0, 0), (1, 0), (2, 1), (3, 2)] ?_
  rcases hx2 : l1[i1]? with _ | e1
  ·rw [hx2] at h; cases h
  rw [hx2] at h
  simp only [] at h
  refine gi 28 0 47 51 7 l1.length c1 (.tmp 24) (.tmp 26) A1 .i64 (i1 : Int) i1 ((hS.rd hR1).eqSome (pos_of_get hx2)) rfl (lt_of_get hx2) ?_
  refine gb [1] [(29, .agg #[.string e1.Name, vI e1.C, vI e1.T, vI e1.D, vI e1.J, vI e1.O, vI e1.P])] [.loaded ⟨blkOf A1, offOf A1 + i1 * 7, none⟩ (.string e1.Name), .loaded ⟨blkOf A1, offOf A1 + i1 * 7 + 1, none⟩ (vI e1.C), .loaded ⟨blkOf A1, offOf A1 + i1 * 7 + 2, none⟩ (vI e1.T), .loaded ⟨blkOf A1, offOf A1 + i1 * 7 + 3, none⟩ (vI e1.D), .loaded ⟨blkOf A1, offOf A1 + i1 * 7 + 4, none⟩ (vI e1.J), .loaded ⟨blkOf A1, offOf A1 + i1 * 7 + 5, none⟩ (vI e1.O), .loaded ⟨blkOf A1, offOf A1 + i1 * 7 + 6, none⟩ (vI e1.P)] ⟨RdL.cell (j := 0) (hS.rd hR1) hx2 rfl, RdL.cell (j := 1) (hS.rd hR1) hx2 rfl, RdL.cell (j := 2) (hS.rd hR1) hx2 rfl, RdL.cell (j := 3) (hS.rd hR1) hx2 rfl, RdL.cell (j := 4) (hS.rd hR1) hx2 rfl, RdL.cell (j := 5) (hS.rd hR1) hx2 rfl, RdL.cell (j := 6) (hS.rd hR1) hx2 rfl, trivial⟩ ?_
  refine gw (some 10) (.cells #[.string (⟨#[]⟩), vI 0, vI 0, vI 0, vI 0, vI 0, vI 0] 51) (fun b => pP b 0) hS fun b2 w2 hx3 hS2 => ?_
  refine gs b2 0 #[.string (⟨#[]⟩), vI 0, vI 0, vI 0, vI 0, vI 0, vI 0] 51 [.string e1.Name, vI e1.C, vI e1.T, vI e1.D, vI e1.J, vI e1.O, vI e1.P] hS2 fun w3 hS3 => ?_
  have hS4 : St w0 w3 [Own.blk b2 (.cells #[.string e1.Name, vI e1.C, vI e1.T, vI e1.D, vI e1.J, vI e1.O, vI e1.P] 51 (0, 0)), Own.blk b1 (.cells #[.string x0.Name, vI x0.C, vI x0.T, vI x0.D, vI x0.J, vI x0.O, vI x0.P] 51 (0, 0))] := hS3
  refine gn hK13 ?_
  refine we_draws (by kernel_rfl) [(0, 0), (1, 0), (2, 0), (3, 0), (4, 0), (5, 0), (6, 0), (8, 0), (9, 0), (7, 1), (10, 0), (11, 0), (12, 0)] (by kernel_rfl) ?_
  have hS5 := hS4.drew
  rcases hq1 : punctualref_up.f (IntKind.i64.wrap (z1 + e1.J)) e1.T with _ | r1
  ·rw [hq1] at h; cases h
  rw [hq1] at h
  simp only [] at h
  refine gb [0, 1, 2, 3, 4, 5, 6, 8, 9] [(39, vI e1.C), (38, pP b2 1), (36, vI e1.T), (35, pP b2 2), (34, vI (IntKind.i64.wrap (z1 + e1.J))), (33, vI e1.J), (32, pP b2 4), (31, vI z1), (30, vI z2)] [.loaded ⟨b2, 4, none⟩ (vI e1.J), .loaded ⟨b2, 2, none⟩ (vI e1.T), .loaded ⟨b2, 1, none⟩ (vI e1.C)] ⟨hS5.c 0, hS5.c 0, hS5.c 0, trivial⟩ ?_
  refine ge_call (d := some 37) (f := 86) (args := #[vI (IntKind.i64.wrap (z1 + e1.J)), vI e1.T]) (by kernel_rfl) (punctualref_up_ok (IntKind.i64.wrap (z1 + e1.J)) e1.T _ _ hq1) ?_
  rintro _ w4 ⟨rfl, hS6⟩
  refine ⟨_, rfl, hS6.below, ?_⟩
  have hS7 := hS5.call hS6
  refine gb0 [10, 11, 12] [(8, vI (IntKind.i64.wrap (z2 + (IntKind.i64.wrap (r1 * e1.C))))), (41, vI (IntKind.i64.wrap (z2 + (IntKind.i64.wrap (r1 * e1.C))))), (40, vI (IntKind.i64.wrap (r1 * e1.C)))] ?_
  refine gn hK12 ?_
  refine wr [(0, 0), (1, 0)] ?_
  refine ge_addn (d := 42) (ty := 3) (x := (.tmp 26)) (y := (.const (vI 1))) (t := 3) (t2 := 3) (k := .i64) (m := i1) (by kernel_rfl) (by kernel_rfl) (by kernel_rfl) (by have h0 := hR1.small; omega) ?_
  refine gb0 [1] [(26, vI ((i1 + 1 : Nat) : Int))] ?_
  have hS8 := hS7.bring 1 rfl
  have hS9 := hS8.takeN 1
  obtain rfl := si h
  exact ge_nil fun a hF => hQ _ _ _ (Outs.again ⟨hS9, hF.weaken ea⟩)
 ·rw [if_neg hc2] at h
  refine wk 27 (decide ((i1 : Int) < (l1.length : Int))) false (decide_eq_false hc2) ?_
  refine we_false (by kernel_rfl) ?_
  obtain rfl := si h
  exact we_exit fun a hF => hQ _ _ _ (Outs.out nofun (Exits.here ⟨hS, hF.weaken ea⟩))
abbrev punctualref_AtWorst.A0 (w0 : World) (x0 : STask) (l1 : List STask) (A1 : Option Addr) (c1 : Nat) (x2 : Int) (b1 : Nat) : Int → Act → World → Prop := fun (s : Int) a w => St w0 w [Own.blk b1 (.cells #[.string x0.Name, vI x0.C, vI x0.T, vI x0.D, vI x0.J, vI x0.O, vI x0.P] 51 (0, 0))] ∧ Frm 50 a [(1, .slice A1 l1.length c1), (2, vI x2), (3, pP b1 0), (7, vI s)]
abbrev punctualref_AtWorst.B0 (w0 : World) : (Unit ⊕ Int) → Exit → Act → World → Prop := Exits 0 (fun (s : Unit) a w => St w0 w [] ∧ Frm 50 a []) (Rets Tryd.prog Tryd.f113 (punctualref_AtWorst.Post w0))
theorem punctualref_AtWorst_r0 (K : Nat) (w0 : World) (x0 : STask) (l1 : List STask) (A1 : Option Addr) (c1 : Nat) (x2 : Int) (hR1 : RdL w0 A1 l1) (hL1 : l1.length ≤ c1) (b1 : Nat) (s : Int) (o : Int ⊕ (Unit ⊕ Int)) (h : punctualref_AtWorst.r0 K x0 l1 x2 s = some o) (a : Act) (w : World) (hA : punctualref_AtWorst.A0 w0 x0 l1 A1 c1 x2 b1 s a w) (Q : Exit → Act → World → Prop) (hQ : ∀ x a w, Outs (punctualref_AtWorst.A0 w0 x0 l1 A1 c1 x2 b1) (punctualref_AtWorst.B0 w0) o x a w → Q x a w) : (subF Tryd.f113 [1, 0, 1, 0, 0]).wp Tryd.prog Q a w := by
 obtain ⟨z1, hs⟩ : ∃ z, z = s := ⟨s, rfl⟩
 subst hs
 obtain ⟨hS, hF⟩ := hA
 replace hS : St w0 w [Own.blk b1 (.cells #[.string x0.Name, vI x0.C, vI x0.T, vI x0.D, vI x0.J, vI x0.O, vI x0.P] 51 (0, 0))] := hS
 simp only [punctualref_AtWorst.r0] at h
 refine (?_ : WE Tryd.prog 50 (subF Tryd.f113 [1, 0, 1, 0, 0]) Q [(1, .slice A1 l1.length c1), (2, vI x2), (3, pP b1 0), (7, vI z1)] w) a hF
 clear hF a
 refine ws fun K4 hK4 => ?_
 refine ws fun K5 hK5 => ?_
 refine wr [(0, 0), (1, 0), (2, 0), (3, 0), (4, 0), (5, 0), (6, 0)] ?_
 refine gb [0, 1, 2, 3, 4, 5, 6] [(17, .bool (decide ((IntKind.i64.wrap (z1 + x0.J)) ≤ x0.D))), (16, vI x0.D), (15, pP b1 3), (14, vI (IntKind.i64.wrap (z1 + x0.J))), (13, vI x0.J), (12, pP b1 4), (11, vI z1)] [.loaded ⟨b1, 4, none⟩ (vI x0.J), .loaded ⟨b1, 3, none⟩ (vI x0.D)] ⟨hS.c 0, hS.c 0, trivial⟩ ?_
 refine gn hK5 ?_
 by_cases hc1 : (IntKind.i64.wrap (z1 + x0.J)) ≤ x0.D
 ·rw [if_pos hc1] at h
  refine wk 17 (decide ((IntKind.i64.wrap (z1 + x0.J)) ≤ x0.D)) true (decide_eq_true hc1) ?_
  refine we_true (by kernel_rfl) ?_
  refine we_skip fun a hF => hK4 _ _ ?_ a hF
  refine ws fun K6 hK6 => ?_
  refine we_block ?_
  refine ws fun K7 hK7 => ?_
  refine wr [(0, 0), (1, 0), (2, 0), (3, 0), (4, 0)] ?_
  refine gb [0, 1, 2, 3, 4] [(8, vI (IntKind.i64.wrap (x0.C + x2))), (23, vI (IntKind.i64.wrap (x0.C + x2))), (22, vI x2), (21, vI x0.C), (20, pP b1 1)] [.loaded ⟨b1, 1, none⟩ (vI x0.C)] ⟨hS.c 0, trivial⟩ ?_
  refine gn hK7 ?_
  refine ws fun K8 hK8 => ?_
  refine ws fun K9 hK9 => ?_
  refine wr [(0, 0), (1, 0), (2, 0)] ?_
  refine gb0 [0, 1, 2] [(26, vI 0), (25, vI (l1.length : Int)), (24, .slice A1 l1.length c1)] ?_
  refine gn hK9 ?_
  refine we_block ?_
  rcases hq2 : iter (punctualref_AtWorst.r1 l1 z1) K (IntKind.i64.wrap (x0.C + x2), 0) with _ | (z4 | rr1)
  ·rw [hq2] at h; cases h
  ·rw [hq2] at h
   simp only [] at h
   refine we_iter (A := punctualref_AtWorst.A1 w0 x0 l1 A1 c1 x2 b1 z1) (B := punctualref_AtWorst.B1 w0 x0 l1 A1 c1 x2 b1 z1) hq2 (fun a hF => ⟨hS, hF.weaken ea⟩) (fun s o hf a w hA Q hQ => punctualref_AtWorst_r1 K w0 x0 l1 A1 c1 x2 hR1 hL1 b1 z1 hc1 s o hf a w hA Q hQ) ?_
   rintro _ a w5 _ ⟨rfl, hS10, hF⟩
   replace hS10 : St w0 w5 [Own.blk b1 (.cells #[.string x0.Name, vI x0.C, vI x0.T, vI x0.D, vI x0.J, vI x0.O, vI x0.P] 51 (0, 0))] := hS10
   refine hK8 [(1, .slice A1 l1.length c1), (2, vI x2), (3, pP b1 0), (7, vI z1), (8, vI z4)] w5 ?_ a hF
   refine ws fun K14 hK14 => ?_
   refine wr [(0, 0), (1, 0), (2, 0)] ?_
   refine gb0 [0, 1, 2] [(45, .bool (z4 == z1)), (44, vI z1), (43, vI z4)] ?_
   refine gn hK14 ?_
   by_cases hc3 : z4 = z1
   ·rw [if_pos hc3] at h
    refine wk 45 (z4 == z1) true (beq_iff_eq.2 hc3) ?_
    refine we_true (by kernel_rfl) ?_
    refine ws fun K15 hK15 => ?_
    refine wr [(0, 0), (1, 0), (2, 0), (3, 0), (4, 0)] ?_
    refine gb [0, 1, 2, 3, 4] [(6, vI (IntKind.i64.wrap (z1 + x0.J))), (49, vI (IntKind.i64.wrap (z1 + x0.J))), (48, vI x0.J), (47, pP b1 4), (46, vI z1)] [.loaded ⟨b1, 4, none⟩ (vI x0.J)] ⟨hS10.c 0, trivial⟩ ?_
    refine gn hK15 ?_
    have hS11 := hS10.takeN 0
    obtain rfl := si h
    exact we_ret fun a hF => hQ _ _ _ (Outs.out nofun (Exits.on ⟨rfl, (pr0 [.tmp 6] [vI (IntKind.i64.wrap (z1 + x0.J))] ⟨rfl, hS11⟩) a hF⟩))
   ·rw [if_neg hc3] at h
    refine wk 45 (z4 == z1) false (beq_eq_false_iff_ne.2 hc3) ?_
    refine we_false (by kernel_rfl) ?_
    refine we_skip fun a hF => hK6 _ _ ?_ a hF
    refine wr [(0, 0), (1, 0), (2, 0)] ?_
    refine gb0 [0, 1, 2] [(7, vI (IntKind.i64.wrap (z1 + 1))), (19, vI (IntKind.i64.wrap (z1 + 1))), (18, vI z1)] ?_
    obtain rfl := si h
    exact ge_nil fun a hF => hQ _ _ _ (Outs.again ⟨hS10, hF.weaken ea⟩)
  ·rw [hq2] at h
   simp only [] at h
   refine we_iter (A := punctualref_AtWorst.A1 w0 x0 l1 A1 c1 x2 b1 z1) (B := punctualref_AtWorst.B1 w0 x0 l1 A1 c1 x2 b1 z1) hq2 (fun a hF => ⟨hS, hF.weaken ea⟩) (fun s o hf a w hA Q hQ => punctualref_AtWorst_r1 K w0 x0 l1 A1 c1 x2 hR1 hL1 b1 z1 hc1 s o hf a w hA Q hQ) ?_
   rintro _ a w1 _ ⟨rfl, hb⟩
   obtain rfl := si h
   exact hQ _ _ _ (Outs.out nofun (Exits.on ⟨rfl, hb⟩))
 ·rw [if_neg hc1] at h
  refine wk 17 (decide ((IntKind.i64.wrap (z1 + x0.J)) ≤ x0.D)) false (decide_eq_false hc1) ?_
  refine we_false (by kernel_rfl) ?_
  have hS12 := hS.takeN 0
  obtain rfl := si h
  exact we_exit fun a hF => hQ _ _ _ (Outs.out nofun (Exits.here ⟨hS12, hF.weaken trivial⟩))
theorem punctualref_AtWorst_ok (K : Nat) (x0 : STask) (l1 : List STask) (A1 : Option Addr) (c1 : Nat) (x2 : Int) (w0 : World) (hR1 : RdL w0 A1 l1) (hL1 : l1.length ≤ c1) (r : Int) (h : punctualref_AtWorst.f K x0 l1 x2 = some r) :
  Calls Tryd.prog 113 #[.agg #[.string x0.Name, vI x0.C, vI x0.T, vI x0.D, vI x0.J, vI x0.O, vI x0.P], .slice A1 l1.length c1, vI x2] w0 (punctualref_AtWorst.Post w0 r) := by
 have hS := St.start w0
 unfold punctualref_AtWorst.f at h
 refine calls_enter (n := 50) (args := [.agg #[.string x0.Name, vI x0.C, vI x0.T, vI x0.D, vI x0.J, vI x0.O, vI x0.P], .slice A1 l1.length c1, vI x2]) (fn := Tryd.f113) rfl rfl rfl rfl ?_
 show WE _ _ _ _ [(0, .agg #[.string x0.Name, vI x0.C, vI x0.T, vI x0.D, vI x0.J, vI x0.O, vI x0.P]), (1, .slice A1 l1.length c1), (2, vI x2)] _
 refine ws fun K1 hK1 => ?_
 refine wr [(0, 1), (1, 0)] ?_
 refine gw (some 3) (.cells #[.string x0.Name, vI x0.C, vI x0.T, vI x0.D, vI x0.J, vI x0.O, vI x0.P] 51) (fun b => pP b 0) hS fun b1 w1 hx1 hS1 => ?_
 refine gb0 [1] [(6, vI 0)] ?_
 refine gn hK1 ?_
 refine ws fun K2 hK2 => ?_
 refine ws fun K3 hK3 => ?_
 refine wr [(0, 0)] ?_
 refine gb0 [0] [(7, vI 1)] ?_
 refine gn hK3 ?_
 refine we_block ?_
 rcases hq3 : iter (punctualref_AtWorst.r0 K x0 l1 x2) K 1 with _ | (_ | rr2)
 ·rw [hq3] at h; cases h
 ·rw [hq3] at h
  simp only [] at h
  refine we_iter (A := punctualref_AtWorst.A0 w0 x0 l1 A1 c1 x2 b1) (B := punctualref_AtWorst.B0 w0) hq3 (fun a hF => ⟨hS1, hF.weaken ea⟩) (fun s o hf a w hA Q hQ => punctualref_AtWorst_r0 K w0 x0 l1 A1 c1 x2 hR1 hL1 b1 s o hf a w hA Q hQ) ?_
  rintro _ a w6 _ ⟨rfl, hS13, hF⟩
  replace hS13 : St w0 w6 [] := hS13
  refine hK2 [] w6 ?_ a hF
  refine ws fun K16 hK16 => ?_
  refine wr [(0, 0)] ?_
  refine gb0 [0] [(6, vI 0)] ?_
  refine gn hK16 ?_
  obtain rfl := si h
  exact we_ret (pr0 [.tmp 6] [vI 0] ⟨rfl, hS13⟩)
 ·rw [hq3] at h
  simp only [] at h
  refine we_iter (A := punctualref_AtWorst.A0 w0 x0 l1 A1 c1 x2 b1) (B := punctualref_AtWorst.B0 w0) hq3 (fun a hF => ⟨hS1, hF.weaken ea⟩) (fun s o hf a w hA Q hQ => punctualref_AtWorst_r0 K w0 x0 l1 A1 c1 x2 hR1 hL1 b1 s o hf a w hA Q hQ) ?_
  rintro _ a w1 _ ⟨rfl, hb⟩
  obtain rfl := si h
  exact hb

/-! punctual/punctualref.ResponseOf -/
abbrev punctualref_ResponseOf.Post (w0 : World) (r : Int × SFault) (e : Ending) (w : World) : Prop := e = .returned (.tuple #[vI r.1, .agg #[vI r.2.Code, vI r.2.At]]) ∧ St w0 w []
def punctualref_ResponseOf.p0 (l0 : List STask) (x1 : Int) (x2 : Int) : Option (Unit ⊕ (Int × SFault)) :=
  if x1 < 0 then
   some (.inr (0, (punctualref_F.f 3 0)))
  else
   if x1 ≥ (l0.length : Int) then
    some (.inr (0, (punctualref_F.f 3 0)))
   else
    if x2 < 0 then
     some (.inr (0, (punctualref_F.f 3 0)))
    else
     if x2 > 10000 then
      some (.inr (0, (punctualref_F.f 3 0)))
     else
      some (.inl ())
def punctualref_ResponseOf.r1 (l0 : List STask) (x1 : Int) : (List STask) × Nat → Option (((List STask) × Nat) ⊕ ((List STask) ⊕ (Int × SFault)))
 | (m1, i1) =>
  if (i1 : Int) < (l0.length : Int) then
   match l0[i1]? with
   | none => none
   | some e1 =>
    if (i1 : Int) = x1 then
     some (.inl (m1, (i1 + 1)))
    else
     if 0 ≤ x1 then
      match l0[(x1).toNat]? with
      | none => none
      | some e2 =>
       if e1.P ≥ e2.P then
        if m1.length < 2199023255552 then
         some (.inl ((m1 ++ [e1]), (i1 + 1)))
        else
         none
       else
        some (.inl (m1, (i1 + 1)))
     else
      none
  else
   some (.inr (.inl m1))
def punctualref_ResponseOf.f (K : Nat) (l0 : List STask) (x1 : Int) (x2 : Int) : Option (Int × SFault) :=
 match punctualref_CheckFixed.f K l0 with
 | none => none
 | some r1 =>
  if r1.Code = 0 then
   match punctualref_ResponseOf.p0 l0 x1 x2 with
   | none => none
   | some (.inl _) =>
    match iter (punctualref_ResponseOf.r1 l0 x1) K (([] : List STask), 0) with
    | none => none
    | some (.inl m3) =>
     if 0 ≤ x1 then
      match l0[(x1).toNat]? with
      | none => none
      | some e3 =>
       match punctualref_AtWorst.f K e3 m3 x2 with
       | none => none
       | some r2 =>
        if r2 = 0 then
         some (0, (punctualref_F.f 13 x1))
        else
         some (r2, (⟨0, 0⟩ : SFault))
     else
      none
    | some (.inr rr1) =>
     some rr1
   | some (.inr rr2) =>
    some rr2
  else
   some (0, r1)
abbrev punctualref_ResponseOf.A0 (w0 : World) (l0 : List STask) (A0 : Option Addr) (c0 : Nat) (x1 : Int) (x2 : Int) (b1 : Nat) : Unit → Act → World → Prop := fun (s : Unit) a w => St w0 w [Own.blk b1 (.cells #[vI 0, vI 0] 39 (0, 0))] ∧ Frm 74 a [(0, .slice A0 l0.length c0), (1, vI x1), (2, vI x2), (7, pP b1 0)]
abbrev punctualref_ResponseOf.B0 (w0 : World) : (Int × SFault) → Exit → Act → World → Prop := Rets Tryd.prog Tryd.f83 (punctualref_ResponseOf.Post w0)
theorem punctualref_ResponseOf_p0 (K : Nat) (w0 : World) (l0 : List STask) (A0 : Option Addr) (c0 : Nat) (x1 : Int) (x2 : Int) (hR0 : RdL w0 A0 l0) (hL0 : l0.length ≤ c0) (b1 : Nat) (r1 : SFault) (b2 : Nat) (hc1 : r1.Code = 0) (o : Unit ⊕ (Int × SFault)) (h : punctualref_ResponseOf.p0 l0 x1 x2 = some o) (w : World) (hS : St w0 w [Own.blk b2 (.cells #[vI r1.Code, vI r1.At] 39 (0, 0)), Own.blk b1 (.cells #[vI 0, vI 0] 39 (0, 0))]) (Q : Exit → Act → World → Prop) (hQ : ∀ x a w, Outs (punctualref_ResponseOf.A0 w0 l0 A0 c0 x1 x2 b1) (punctualref_ResponseOf.B0 w0) o x a w → Q x a w) : WE Tryd.prog 74 (subF Tryd.f83 [1, 1, 0]) Q [(0, .slice A0 l0.length c0), (1, vI x1), (2, vI x2), (6, vI 0), (7, pP b1 0), (8, pP b2 0), (13, .slice A0 l0.length c0), (14, .agg #[vI r1.Code, vI r1.At]), (15, pP b2 0), (16, vI r1.Code), (17, .bool false)] w := by
 simp only [punctualref_ResponseOf.p0] at h
 refine ws fun K6 hK6 => ?_
 refine wr [(0, 0), (1, 0), (2, 0), (3, 0), (4, 0), (5, 0), (6, 0), (7, 0), (8, 0), (9, 0), (10, 0), (11, 0), (12, 0), (13, 0), (14, 0), (15, 0)] ?_
 refine gb0 [0, 1, 2] [(21, .bool (decide (x1 < 0))), (20, .bool (decide (x1 < 0))), (19, vI x1)] ?_
 by_cases hc2 : x1 < 0
 ·rw [if_pos hc2] at h
  refine gk 21 (decide (x1 < 0)) true (decide_eq_true hc2) ?_
  refine gb0 [3, 4, 5, 6, 7, 8, 9, 10, 11, 12, 13, 14, 15] [(34, .bool true), (33, undef), (32, undef), (31, .bool true), (30, .bool true), (29, undef), (28, undef), (27, .bool true), (26, .bool true), (25, undef), (24, undef), (23, undef), (22, undef)] ?_
  refine gn hK6 ?_
  refine we_true (by kernel_rfl) ?_
  refine ws fun K7 hK7 => ?_
  refine wr [(0, 1), (1, 0), (2, 2)] ?_
  refine ge_call (d := some 35) (f := 74) (args := #[vI 3, vI 0]) (by kernel_rfl) (punctualref_F_ok 3 0 _ _ rfl) ?_
  rintro _ w5 ⟨rfl, hS7⟩
  refine ⟨_, rfl, hS7.below, ?_⟩
  have hS8 := hS.call hS7
  refine gb0 [1] [(6, vI 0)] ?_
  have hS9 := hS8.bring 1 rfl
  refine gs b1 0 #[vI 0, vI 0] 39 [vI ((punctualref_F.f 3 0).Code), vI ((punctualref_F.f 3 0).At)] hS9 fun w6 hS10 => ?_
  have hS11 : St w0 w6 [Own.blk b1 (.cells #[vI ((punctualref_F.f 3 0).Code), vI ((punctualref_F.f 3 0).At)] 39 (0, 0)), Own.blk b2 (.cells #[vI r1.Code, vI r1.At] 39 (0, 0))] := hS10
  refine gn hK7 ?_
  have hS12 := hS11.takeN 0
  obtain rfl := si h
  exact we_ret fun a hF => hQ _ _ _ (Outs.out nofun ⟨rfl, (pr [.tmp 6, .cell 7 39] [vI 0, .agg #[vI ((punctualref_F.f 3 0).Code), vI ((punctualref_F.f 3 0).At)]] [.loaded ⟨b1, 0, none⟩ (vI ((punctualref_F.f 3 0).Code)), .loaded ⟨b1, 1, none⟩ (vI ((punctualref_F.f 3 0).At))] ⟨hS11.c 0, hS11.c 0, trivial⟩ ⟨rfl, hS12⟩) a hF⟩)
 ·rw [if_neg hc2] at h
  refine gk 21 (decide (x1 < 0)) false (decide_eq_false hc2) ?_
  refine gb0 [3, 4, 5, 6, 7, 8] [(27, .bool (decide (x1 ≥ (l0.length : Int)))), (26, .bool (decide (x1 ≥ (l0.length : Int)))), (25, .bool (decide (x1 ≥ (l0.length : Int)))), (24, vI (l0.length : Int)), (23, .slice A0 l0.length c0), (22, vI x1)] ?_
  by_cases hc3 : x1 ≥ (l0.length : Int)
  ·rw [if_pos hc3] at h
   refine gk 27 (decide (x1 ≥ (l0.length : Int))) true (decide_eq_true hc3) ?_
   refine gb0 [9, 10, 11, 12, 13, 14, 15] [(34, .bool true), (33, undef), (32, undef), (31, .bool true), (30, .bool true), (29, undef), (28, undef)] ?_
   refine gn hK6 ?_
   refine we_true (by kernel_rfl) ?_
   refine ws fun K8 hK8 => ?_
   refine wr [(0, 1), (1, 0), (2, 2)] ?_
   refine ge_call (d := some 35) (f := 74) (args := #[vI 3, vI 0]) (by kernel_rfl) (punctualref_F_ok 3 0 _ _ rfl) ?_
   rintro _ w7 ⟨rfl, hS13⟩
   refine ⟨_, rfl, hS13.below, ?_⟩
   have hS14 := hS.call hS13
   refine gb0 [1] [(6, vI 0)] ?_
   have hS15 := hS14.bring 1 rfl
   refine gs b1 0 #[vI 0, vI 0] 39 [vI ((punctualref_F.f 3 0).Code), vI ((punctualref_F.f 3 0).At)] hS15 fun w8 hS16 => ?_
   have hS17 : St w0 w8 [Own.blk b1 (.cells #[vI ((punctualref_F.f 3 0).Code), vI ((punctualref_F.f 3 0).At)] 39 (0, 0)), Own.blk b2 (.cells #[vI r1.Code, vI r1.At] 39 (0, 0))] := hS16
   refine gn hK8 ?_
   have hS18 := hS17.takeN 0
   obtain rfl := si h
   exact we_ret fun a hF => hQ _ _ _ (Outs.out nofun ⟨rfl, (pr [.tmp 6, .cell 7 39] [vI 0, .agg #[vI ((punctualref_F.f 3 0).Code), vI ((punctualref_F.f 3 0).At)]] [.loaded ⟨b1, 0, none⟩ (vI ((punctualref_F.f 3 0).Code)), .loaded ⟨b1, 1, none⟩ (vI ((punctualref_F.f 3 0).At))] ⟨hS17.c 0, hS17.c 0, trivial⟩ ⟨rfl, hS18⟩) a hF⟩)
  ·rw [if_neg hc3] at h
   refine gk 27 (decide (x1 ≥ (l0.length : Int))) false (decide_eq_false hc3) ?_
   refine gb0 [9, 10, 11, 12] [(31, .bool (decide (x2 < 0))), (30, .bool (decide (x2 < 0))), (29, .bool (decide (x2 < 0))), (28, vI x2)] ?_
   by_cases hc4 : x2 < 0
   ·rw [if_pos hc4] at h
    refine gk 31 (decide (x2 < 0)) true (decide_eq_true hc4) ?_
    refine gb0 [13, 14, 15] [(34, .bool true), (33, undef), (32, undef)] ?_
    refine gn hK6 ?_
    refine we_true (by kernel_rfl) ?_
    refine ws fun K9 hK9 => ?_
    refine wr [(0, 1), (1, 0), (2, 2)] ?_
    refine ge_call (d := some 35) (f := 74) (args := #[vI 3, vI 0]) (by kernel_rfl) (punctualref_F_ok 3 0 _ _ rfl) ?_
    rintro _ w9 ⟨rfl, hS19⟩
    refine ⟨_, rfl, hS19.below, ?_⟩
    have hS20 := hS.call hS19
    refine gb0 [1] [(6, vI 0)] ?_
    have hS21 := hS20.bring 1 rfl
    refine gs b1 0 #[vI 0, vI 0] 39 [vI ((punctualref_F.f 3 0).Code), vI ((punctualref_F.f 3 0).At)] hS21 fun w10 hS22 => ?_
    have hS23 : St w0 w10 [Own.blk b1 (.cells #[vI ((punctualref_F.f 3 0).Code), vI ((punctualref_F.f 3 0).At)] 39 (0, 0)), Own.blk b2 (.cells #[vI r1.Code, vI r1.At] 39 (0, 0))] := hS22
    refine gn hK9 ?_
    have hS24 := hS23.takeN 0
    obtain rfl := si h
    exact we_ret fun a hF => hQ _ _ _ (Outs.out nofun ⟨rfl, (pr [.tmp 6, .cell 7 39] [vI 0, .agg #[vI ((punctualref_F.f 3 0).Code), vI ((punctualref_F.f 3 0).At)]] [.loaded ⟨b1, 0, none⟩ (vI ((punctualref_F.f 3 0).Code)), .loaded ⟨b1, 1, none⟩ (vI ((punctualref_F.f 3 0).At))] ⟨hS23.c 0, hS23.c 0, trivial⟩ ⟨rfl, hS24⟩) a hF⟩)
   ·rw [if_neg hc4] at h
    refine gk 31 (decide (x2 < 0)) false (decide_eq_false hc4) ?_
    refine gb0 [13, 14, 15] [(34, .bool (decide (x2 > 10000))), (33, .bool (decide (x2 > 10000))), (32, vI x2)] ?_
    refine gn hK6 ?_
    by_cases hc5 : x2 > 10000
    ·rw [if_pos hc5] at h
     refine wk 34 (decide (x2 > 10000)) true (decide_eq_true hc5) ?_
     refine we_true (by kernel_rfl) ?_
     refine ws fun K10 hK10 => ?_
     refine wr [(0, 1), (1, 0), (2, 2)] ?_
     refine ge_call (d := some 35) (f := 74) (args := #[vI 3, vI 0]) (by kernel_rfl) (punctualref_F_ok 3 0 _ _ rfl) ?_
     rintro _ w11 ⟨rfl, hS25⟩
     refine ⟨_, rfl, hS25.below, ?_⟩
     have hS26 := hS.call hS25
     refine gb0 [1] [(6, vI 0)] ?_
     have hS27 := hS26.bring 1 rfl
     refine gs b1 0 #[vI 0, vI 0] 39 [vI ((punctualref_F.f 3 0).Code), vI ((punctualref_F.f 3 0).At)] hS27 fun w12 hS28 => ?_
     have hS29 : St w0 w12 [Own.blk b1 (.cells #[vI ((punctualref_F.f 3 0).Code), vI ((punctualref_F.f 3 0).At)] 39 (0, 0)), Own.blk b2 (.cells #[vI r1.Code, vI r1.At] 39 (0, 0))] := hS28
     refine gn hK10 ?_
     have hS30 := hS29.takeN 0
     obtain rfl := si h
     exact we_ret fun a hF => hQ _ _ _ (Outs.out nofun ⟨rfl, (pr [.tmp 6, .cell 7 39] [vI 0, .agg #[vI ((punctualref_F.f 3 0).Code), vI ((punctualref_F.f 3 0).At)]] [.loaded ⟨b1, 0, none⟩ (vI ((punctualref_F.f 3 0).Code)), .loaded ⟨b1, 1, none⟩ (vI ((punctualref_F.f 3 0).At))] ⟨hS29.c 0, hS29.c 0, trivial⟩ ⟨rfl, hS30⟩) a hF⟩)
    ·rw [if_neg hc5] at h
     refine wk 34 (decide (x2 > 10000)) false (decide_eq_false hc5) ?_
     refine we_false (by kernel_rfl) ?_
     have hS31 := hS.bring 1 rfl
     have hS32 := hS31.takeN 1
     obtain rfl := si h
     exact we_skip fun a hF => hQ _ _ _ (Outs.again ⟨hS32, hF.weaken ea⟩)
abbrev punctualref_ResponseOf.A1 (w0 : World) (l0 : List STask) (A0 : Option Addr) (c0 : Nat) (x1 : Int) (x2 : Int) (b1 : Nat) : ((List STask) × Nat) → Act → World → Prop := fun (s : (List STask) × Nat) a w => ∃ (v1 : Value), St w0 w [Own.blk b1 (.cells #[vI 0, vI 0] 39 (0, 0)), Own.of v1 51 s.1] ∧ Frm 74 a [(0, .slice A0 l0.length c0), (1, vI x1), (2, vI x2), (7, pP b1 0), (9, v1), (36, .slice A0 l0.length c0), (37, vI (l0.length : Int)), (38, vI (s.2 : Int))]
abbrev punctualref_ResponseOf.B1 (w0 : World) (l0 : List STask) (A0 : Option Addr) (c0 : Nat) (x1 : Int) (x2 : Int) (b1 : Nat) : ((List STask) ⊕ (Int × SFault)) → Exit → Act → World → Prop := Exits 0 (fun (s : (List STask)) a w => ∃ (v2 : Value), St w0 w [Own.blk b1 (.cells #[vI 0, vI 0] 39 (0, 0)), Own.of v2 51 s] ∧ Frm 74 a [(0, .slice A0 l0.length c0), (1, vI x1), (2, vI x2), (7, pP b1 0), (9, v2)]) (Rets Tryd.prog Tryd.f83 (punctualref_ResponseOf.Post w0))
theorem punctualref_ResponseOf_r1 (K : Nat) (w0 : World) (l0 : List STask) (A0 : Option Addr) (c0 : Nat) (x1 : Int) (x2 : Int) (hR0 : RdL w0 A0 l0) (hL0 : l0.length ≤ c0) (b1 : Nat) (r1 : SFault) (b2 : Nat) (hc1 : r1.Code = 0) (s : (List STask) × Nat) (o : ((List STask) × Nat) ⊕ ((List STask) ⊕ (Int × SFault))) (h : punctualref_ResponseOf.r1 l0 x1 s = some o) (a : Act) (w : World) (hA : punctualref_ResponseOf.A1 w0 l0 A0 c0 x1 x2 b1 s a w) (Q : Exit → Act → World → Prop) (hQ : ∀ x a w, Outs (punctualref_ResponseOf.A1 w0 l0 A0 c0 x1 x2 b1) (punctualref_ResponseOf.B1 w0 l0 A0 c0 x1 x2 b1) o x a w → Q x a w) : (subF Tryd.f83 [1, 1, 1, 1, 0, 1, 0, 0]).wp Tryd.prog Q a w := by
 obtain ⟨m1, i1⟩ := s
 obtain ⟨v1, hS, hF⟩ := hA
 replace hS : St w0 w [Own.blk b1 (.cells #[vI 0, vI 0] 39 (0, 0)), Own.of v1 51 m1] := hS
 simp only [punctualref_ResponseOf.r1] at h
 refine (?_ : WE Tryd.prog 74 (subF Tryd.f83 [1, 1, 1, 1, 0, 1, 0, 0]) Q [(0, .slice A0 l0.length c0), (1, vI x1), (2, vI x2), (7, pP b1 0), (9, v1), (36, .slice A0 l0.length c0), (37, vI (l0.length : Int)), (38, vI (i1 : Int))] w) a hF
 clear hF a
 refine ws fun K14 hK14 => ?_
 refine wr [(0, 0)] ?_
 refine gb0 [0] [(39, .bool (decide ((i1 : Int) < (l0.length : Int))))] ?_
 refine gn hK14 ?_
 refine ws fun K15 hK15 => ?_
 by_cases hc6 : (i1 : Int) < (l0.length : Int)
 ·rw [if_pos hc6] at h
  refine wk 39 (decide ((i1 : Int) < (l0.length : Int))) true (decide_eq_true hc6) ?_
  refine we_true (by kernel_rfl) ?_
  refine we_skip fun a hF => hK15 _ _ ?_ a hF
  refine ws fun K16 hK16 => ?_
  refine we_block ?_
  refine ws fun K17 hK17 => ?_
  refine wr [(0, 0), (1, 0), (2, 0), (3, 1), (4, 0), (5, 2)] ?_
  refine gb0 [0] [(40, vI (i1 : Int))] ?_
  rcases hx3 : l0[i1]? with _ | e1
  ·rw [hx3] at h; cases h
  rw [hx3] at h
  simp only [] at h
  refine gi 41 0 47 51 7 l0.length c0 (.tmp 36) (.tmp 38) A0 .i64 (i1 : Int) i1 ((hS.rd hR0).eqSome (pos_of_get hx3)) rfl (lt_of_get hx3) ?_
  refine gb [2] [(42, .agg #[.string e1.Name, vI e1.C, vI e1.T, vI e1.D, vI e1.J, vI e1.O, vI e1.P])] [.loaded ⟨blkOf A0, offOf A0 + i1 * 7, none⟩ (.string e1.Name), .loaded ⟨blkOf A0, offOf A0 + i1 * 7 + 1, none⟩ (vI e1.C), .loaded ⟨blkOf A0, offOf A0 + i1 * 7 + 2, none⟩ (vI e1.T), .loaded ⟨blkOf A0, offOf A0 + i1 * 7 + 3, none⟩ (vI e1.D), .loaded ⟨blkOf A0, offOf A0 + i1 * 7 + 4, none⟩ (vI e1.J), .loaded ⟨blkOf A0, offOf A0 + i1 * 7 + 5, none⟩ (vI e1.O), .loaded ⟨blkOf A0, offOf A0 + i1 * 7 + 6, none⟩ (vI e1.P)] ⟨RdL.cell (j := 0) (hS.rd hR0) hx3 rfl, RdL.cell (j := 1) (hS.rd hR0) hx3 rfl, RdL.cell (j := 2) (hS.rd hR0) hx3 rfl, RdL.cell (j := 3) (hS.rd hR0) hx3 rfl, RdL.cell (j := 4) (hS.rd hR0) hx3 rfl, RdL.cell (j := 5) (hS.rd hR0) hx3 rfl, RdL.cell (j := 6) (hS.rd hR0) hx3 rfl, trivial⟩ ?_
  refine gw (some 11) (.cells #[.string (⟨#[]⟩), vI 0, vI 0, vI 0, vI 0, vI 0, vI 0] 51) (fun b => pP b 0) hS fun b3 w14 hx4 hS36 => ?_
  refine gb0 [4] [(10, vI (i1 : Int))] ?_
  refine gs b3 0 #[.string (⟨#[]⟩), vI 0, vI 0, vI 0, vI 0, vI 0, vI 0] 51 [.string e1.Name, vI e1.C, vI e1.T, vI e1.D, vI e1.J, vI e1.O, vI e1.P] hS36 fun w15 hS37 => ?_
  have hS38 : St w0 w15 [Own.blk b3 (.cells #[.string e1.Name, vI e1.C, vI e1.T, vI e1.D, vI e1.J, vI e1.O, vI e1.P] 51 (0, 0)), Own.blk b1 (.cells #[vI 0, vI 0] 39 (0, 0)), Own.of v1 51 m1] := hS37
  refine gn hK17 ?_
  refine ws fun K18 hK18 => ?_
  refine we_draws (by kernel_rfl) [(0, 0), (1, 0), (2, 0), (3, 0), (4, 0), (5, 0), (6, 0), (7, 0), (8, 0), (9, 0), (10, 0), (11, 0), (12, 0)] (by kernel_rfl) ?_
  have hS39 := hS38.drew
  refine gb0 [0, 1, 2, 3] [(46, .bool ((i1 : Int) != x1)), (45, .bool ((i1 : Int) != x1)), (44, vI x1), (43, vI (i1 : Int))] ?_
  by_cases hc7 : (i1 : Int) = x1
  ·rw [if_pos hc7] at h
   refine gk 46 ((i1 : Int) != x1) false (bne_eq_false_iff_eq.2 hc7) ?_
   refine gb0 [4, 5, 6, 7, 8, 9, 10, 11, 12] [(55, .bool false), (54, undef), (53, undef), (52, undef), (51, undef), (50, undef), (49, undef), (48, undef), (47, undef)] ?_
   refine gn hK18 ?_
   refine we_false (by kernel_rfl) ?_
   refine we_skip fun a hF => hK16 _ _ ?_ a hF
   refine wr [(0, 0), (1, 0)] ?_
   refine ge_addn (d := 60) (ty := 3) (x := (.tmp 38)) (y := (.const (vI 1))) (t := 3) (t2 := 3) (k := .i64) (m := i1) (by kernel_rfl) (by kernel_rfl) (by kernel_rfl) (by have h0 := hR0.small; omega) ?_
   refine gb0 [1] [(38, vI ((i1 + 1 : Nat) : Int))] ?_
   have hS40 := hS39.bring 2 rfl
   have hS41 := hS40.bring 2 rfl
   have hS42 := hS41.takeN 2
   obtain rfl := si h
   exact ge_nil fun a hF => hQ _ _ _ (Outs.again ⟨v1, hS42, hF.weaken ea⟩)
  ·rw [if_neg hc7] at h
   refine gk 46 ((i1 : Int) != x1) true (bne_iff_ne.2 hc7) ?_
   refine gb [4, 5, 6, 7] [(50, vI x1), (49, .slice A0 l0.length c0), (48, vI e1.P), (47, pP b3 6)] [.loaded ⟨b3, 6, none⟩ (vI e1.P)] ⟨hS39.c 0, trivial⟩ ?_
   by_cases hc8 : 0 ≤ x1
   ·rw [if_pos hc8] at h
    rcases hx5 : l0[(x1).toNat]? with _ | e2
    ·rw [hx5] at h; cases h
    rw [hx5] at h
    simp only [] at h
    refine gi 51 0 47 51 7 l0.length c0 (.tmp 49) (.tmp 50) A0 .i64 x1 ((x1).toNat) ((hS39.rd hR0).eqSome (pos_of_get hx5)) (Int.toNat_of_nonneg hc8).symm (lt_of_get hx5) ?_
    refine gb [9, 10, 11, 12] [(55, .bool (decide (e1.P ≥ e2.P))), (54, .bool (decide (e1.P ≥ e2.P))), (53, vI e2.P), (52, .pointer (some ⟨blkOf A0, offOf A0 + (x1).toNat * 7 + 6, none⟩))] [.loaded ⟨blkOf A0, offOf A0 + ((x1).toNat) * 7 + 6, none⟩ (vI e2.P)] ⟨RdL.cell (j := 6) (hS39.rd hR0) hx5 rfl, trivial⟩ ?_
    refine gn hK18 ?_
    by_cases hc9 : e1.P ≥ e2.P
    ·rw [if_pos hc9] at h
     refine wk 55 (decide (e1.P ≥ e2.P)) true (decide_eq_true hc9) ?_
     refine we_true (by kernel_rfl) ?_
     refine wr [(0, 0), (1, 0), (2, 1), (3, 2), (4, 0)] ?_
     refine gb [0, 1] [(57, .agg #[.string e1.Name, vI e1.C, vI e1.T, vI e1.D, vI e1.J, vI e1.O, vI e1.P]), (56, v1)] [.loaded ⟨b3, 0, none⟩ (.string e1.Name), .loaded ⟨b3, 1, none⟩ (vI e1.C), .loaded ⟨b3, 2, none⟩ (vI e1.T), .loaded ⟨b3, 3, none⟩ (vI e1.D), .loaded ⟨b3, 4, none⟩ (vI e1.J), .loaded ⟨b3, 5, none⟩ (vI e1.O), .loaded ⟨b3, 6, none⟩ (vI e1.P)] ⟨hS39.c 0, hS39.c 0, hS39.c 0, hS39.c 0, hS39.c 0, hS39.c 0, hS39.c 0, trivial⟩ ?_
     refine gw (some 58) (.cells #[.string e1.Name, vI e1.C, vI e1.T, vI e1.D, vI e1.J, vI e1.O, vI e1.P] 51) (fun b => .slice (some ⟨b, 0, none⟩) 1 1) hS39 fun b4 w16 hx6 hS43 => ?_
     have hS44 := hS43.bring 3 rfl
     by_cases hc10 : m1.length < 2199023255552
     ·rw [if_pos hc10] at h
      refine ge_append (α := STask) (m := 0) (d := 59) (t := 47) (el := 51) (bytes := 64) (c1 := 1) (b1 := b4) (x := (.tmp 56)) (y := (.tmp 58)) (ty := 47) (v := v1) (z := .agg #[.string (⟨#[]⟩), vI 0, vI 0, vI 0, vI 0, vI 0, vI 0]) (l := m1) (u := e1) (by kernel_rfl) (by kernel_rfl) (by kernel_rfl) (by kernel_rfl) (by kernel_rfl) rfl hS44 rfl (by omega) fun v3 w17 hS45 => ?_
      refine gb0 [4] [(9, v3)] ?_
      refine gn hK16 ?_
      refine wr [(0, 0), (1, 0)] ?_
      refine ge_addn (d := 60) (ty := 3) (x := (.tmp 38)) (y := (.const (vI 1))) (t := 3) (t2 := 3) (k := .i64) (m := i1) (by kernel_rfl) (by kernel_rfl) (by kernel_rfl) (by have h0 := hR0.small; omega) ?_
      refine gb0 [1] [(38, vI ((i1 + 1 : Nat) : Int))] ?_
      have hS46 := hS45.bring 2 rfl
      have hS47 := hS46.takeN 2
      obtain rfl := si h
      exact ge_nil fun a hF => hQ _ _ _ (Outs.again ⟨v3, hS47, hF.weaken ea⟩)
     ·rw [if_neg hc10] at h
      cases h
    ·rw [if_neg hc9] at h
     refine wk 55 (decide (e1.P ≥ e2.P)) false (decide_eq_false hc9) ?_
     refine we_false (by kernel_rfl) ?_
     refine we_skip fun a hF => hK16 _ _ ?_ a hF
     refine wr [(0, 0), (1, 0)] ?_
     refine ge_addn (d := 60) (ty := 3) (x := (.tmp 38)) (y := (.const (vI 1))) (t := 3) (t2 := 3) (k := .i64) (m := i1) (by kernel_rfl) (by kernel_rfl) (by kernel_rfl) (by have h0 := hR0.small; omega) ?_
     refine gb0 [1] [(38, vI ((i1 + 1 : Nat) : Int))] ?_
     have hS48 := hS39.bring 2 rfl
     have hS49 := hS48.bring 2 rfl
     have hS50 := hS49.takeN 2
     obtain rfl := si h
     exact ge_nil fun a hF => hQ _ _ _ (Outs.again ⟨v1, hS50, hF.weaken ea⟩)
   ·rw [if_neg hc8] at h
    cases h
 ·rw [if_neg hc6] at h
  refine wk 39 (decide ((i1 : Int) < (l0.length : Int))) false (decide_eq_false hc6) ?_
  refine we_false (by kernel_rfl) ?_
  have hS51 := hS.bring 1 rfl
  have hS52 := hS51.bring 1 rfl
  obtain rfl := si h
  exact we_exit fun a hF => hQ _ _ _ (Outs.out nofun (Exits.here ⟨v1, hS52, hF.weaken ea⟩))
theorem punctualref_ResponseOf_ok (K : Nat) (l0 : List STask) (A0 : Option Addr) (c0 : Nat) (x1 : Int) (x2 : Int) (w0 : World) (hR0 : RdL w0 A0 l0) (hL0 : l0.length ≤ c0) (r : Int × SFault) (h : punctualref_ResponseOf.f K l0 x1 x2 = some r) :
  Calls Tryd.prog 83 #[.slice A0 l0.length c0, vI x1, vI x2] w0 (punctualref_ResponseOf.Post w0 r) := by
 have hS := St.start w0
 unfold punctualref_ResponseOf.f at h
 refine calls_enter (n := 74) (args := [.slice A0 l0.length c0, vI x1, vI x2]) (fn := Tryd.f83) rfl rfl rfl rfl ?_
 show WE _ _ _ _ [(0, .slice A0 l0.length c0), (1, vI x1), (2, vI x2)] _
 refine ws fun K1 hK1 => ?_
 refine wr [(0, 0), (1, 1)] ?_
 refine gb0 [0] [(6, vI 0)] ?_
 refine gw (some 7) (.cells #[vI 0, vI 0] 39) (fun b => pP b 0) hS fun b1 w1 hx1 hS1 => ?_
 refine gn hK1 ?_
 refine ws fun K2 hK2 => ?_
 refine ws fun K3 hK3 => ?_
 refine wr [(0, 0), (1, 1), (2, 1), (3, 2)] ?_
 rcases hq1 : punctualref_CheckFixed.f K l0 with _ | r1
 ·rw [hq1] at h; cases h
 rw [hq1] at h
 simp only [] at h
 refine gb0 [0] [(13, .slice A0 l0.length c0)] ?_
 refine ge_call (d := some 14) (f := 140) (args := #[.slice A0 l0.length c0]) (by kernel_rfl) (punctualref_CheckFixed_ok K l0 A0 c0 _ (hS1.rd hR0) hL0 _ hq1) ?_
 rintro _ w2 ⟨rfl, hS2⟩
 refine ⟨_, rfl, hS2.below, ?_⟩
 have hS3 := hS1.call hS2
 refine gw (some 8) (.cells #[vI 0, vI 0] 39) (fun b => pP b 0) hS3 fun b2 w3 hx2 hS4 => ?_
 refine gs b2 0 #[vI 0, vI 0] 39 [vI r1.Code, vI r1.At] hS4 fun w4 hS5 => ?_
 have hS6 : St w0 w4 [Own.blk b2 (.cells #[vI r1.Code, vI r1.At] 39 (0, 0)), Own.blk b1 (.cells #[vI 0, vI 0] 39 (0, 0))] := hS5
 refine gn hK3 ?_
 refine ws fun K4 hK4 => ?_
 refine wr [(0, 0), (1, 0), (2, 0)] ?_
 refine gb [0, 1, 2] [(17, .bool (r1.Code != 0)), (16, vI r1.Code), (15, pP b2 0)] [.loaded ⟨b2, 0, none⟩ (vI r1.Code)] ⟨hS6.c 0, trivial⟩ ?_
 refine gn hK4 ?_
 by_cases hc1 : r1.Code = 0
 ·rw [if_pos hc1] at h
  refine wk 17 (r1.Code != 0) false (bne_eq_false_iff_eq.2 hc1) ?_
  refine we_false (by kernel_rfl) ?_
  refine we_skip fun a hF => hK2 _ _ ?_ a hF
  refine ws fun K5 hK5 => ?_
  rcases hq6 : punctualref_ResponseOf.p0 l0 x1 x2 with _ | (_ | rr2)
  ·rw [hq6] at h; cases h
  ·rw [hq6] at h
   simp only [] at h
   refine we_keep (e' := [(0, .slice A0 l0.length c0), (1, vI x1), (2, vI x2), (6, vI 0), (7, pP b1 0), (8, pP b2 0), (13, .slice A0 l0.length c0), (14, .agg #[vI r1.Code, vI r1.At]), (15, pP b2 0), (16, vI r1.Code), (17, .bool false)]) ea (punctualref_ResponseOf_p0 K w0 l0 A0 c0 x1 x2 hR0 hL0 b1 r1 b2 hc1 _ hq6 _ hS6 _ ?_)
   rintro _ a w13 ⟨rfl, hS33, hF⟩
   replace hS33 : St w0 w13 [Own.blk b1 (.cells #[vI 0, vI 0] 39 (0, 0))] := hS33
   refine hK5 [(0, .slice A0 l0.length c0), (1, vI x1), (2, vI x2), (7, pP b1 0)] w13 ?_ a hF
   refine ws fun K11 hK11 => ?_
   refine wr [(0, 0)] ?_
   refine gb0 [0] [(9, .slice none 0 0)] ?_
   refine gn hK11 ?_
   refine ws fun K12 hK12 => ?_
   refine ws fun K13 hK13 => ?_
   refine wr [(0, 0), (1, 0), (2, 0)] ?_
   refine gb0 [0, 1, 2] [(38, vI 0), (37, vI (l0.length : Int)), (36, .slice A0 l0.length c0)] ?_
   refine gn hK13 ?_
   refine we_block ?_
   have hS34 := hS33.nil (α := STask) 51
   have hS35 := hS34.bring 1 rfl
   rcases hq7 : iter (punctualref_ResponseOf.r1 l0 x1) K (([] : List STask), 0) with _ | (m3 | rr1)
   ·rw [hq7] at h; cases h
   ·rw [hq7] at h
    simp only [] at h
    refine we_iter (A := punctualref_ResponseOf.A1 w0 l0 A0 c0 x1 x2 b1) (B := punctualref_ResponseOf.B1 w0 l0 A0 c0 x1 x2 b1) hq7 (fun a hF => ⟨(.slice none 0 0), hS35, hF.weaken ea⟩) (fun s o hf a w hA Q hQ => punctualref_ResponseOf_r1 K w0 l0 A0 c0 x1 x2 hR0 hL0 b1 r1 b2 hc1 s o hf a w hA Q hQ) ?_
    rintro _ a w18 _ ⟨rfl, v4, hS53, hF⟩
    replace hS53 : St w0 w18 [Own.blk b1 (.cells #[vI 0, vI 0] 39 (0, 0)), Own.of v4 51 m3] := hS53
    refine hK12 [(0, .slice A0 l0.length c0), (1, vI x1), (2, vI x2), (7, pP b1 0), (9, v4)] w18 ?_ a hF
    refine ws fun K19 hK19 => ?_
    refine wr [(0, 0), (1, 0), (2, 0), (3, 0), (4, 0), (5, 0), (6, 1), (7, 0)] ?_
    refine gb0 [0, 1] [(62, vI x1), (61, .slice A0 l0.length c0)] ?_
    by_cases hc11 : 0 ≤ x1
    ·rw [if_pos hc11] at h
     rcases hx7 : l0[(x1).toNat]? with _ | e3
     ·rw [hx7] at h; cases h
     rw [hx7] at h
     simp only [] at h
     refine gi 63 0 47 51 7 l0.length c0 (.tmp 61) (.tmp 62) A0 .i64 x1 ((x1).toNat) ((hS53.rd hR0).eqSome (pos_of_get hx7)) (Int.toNat_of_nonneg hc11).symm (lt_of_get hx7) ?_
     refine gb [3, 4, 5] [(66, vI x2), (65, v4), (64, .agg #[.string e3.Name, vI e3.C, vI e3.T, vI e3.D, vI e3.J, vI e3.O, vI e3.P])] [.loaded ⟨blkOf A0, offOf A0 + ((x1).toNat) * 7, none⟩ (.string e3.Name), .loaded ⟨blkOf A0, offOf A0 + ((x1).toNat) * 7 + 1, none⟩ (vI e3.C), .loaded ⟨blkOf A0, offOf A0 + ((x1).toNat) * 7 + 2, none⟩ (vI e3.T), .loaded ⟨blkOf A0, offOf A0 + ((x1).toNat) * 7 + 3, none⟩ (vI e3.D), .loaded ⟨blkOf A0, offOf A0 + ((x1).toNat) * 7 + 4, none⟩ (vI e3.J), .loaded ⟨blkOf A0, offOf A0 + ((x1).toNat) * 7 + 5, none⟩ (vI e3.O), .loaded ⟨blkOf A0, offOf A0 + ((x1).toNat) * 7 + 6, none⟩ (vI e3.P)] ⟨RdL.cell (j := 0) (hS53.rd hR0) hx7 rfl, RdL.cell (j := 1) (hS53.rd hR0) hx7 rfl, RdL.cell (j := 2) (hS53.rd hR0) hx7 rfl, RdL.cell (j := 3) (hS53.rd hR0) hx7 rfl, RdL.cell (j := 4) (hS53.rd hR0) hx7 rfl, RdL.cell (j := 5) (hS53.rd hR0) hx7 rfl, RdL.cell (j := 6) (hS53.rd hR0) hx7 rfl, trivial⟩ ?_
     obtain ⟨Z1, cz1, rfl⟩ := hS53.open 1 rfl
     rcases hq8 : punctualref_AtWorst.f K e3 m3 x2 with _ | r2
     ·rw [hq8] at h; cases h
     rw [hq8] at h
     simp only [] at h
     refine ge_call (d := some 67) (f := 113) (args := #[.agg #[.string e3.Name, vI e3.C, vI e3.T, vI e3.D, vI e3.J, vI e3.O, vI e3.P], (.slice Z1 m3.length cz1), vI x2]) (by kernel_rfl) (punctualref_AtWorst_ok K e3 m3 Z1 cz1 x2 _ (hS53.rdAt 1 rfl) (hS53.capAt 1 rfl) _ hq8) ?_
     rintro _ w19 ⟨rfl, hS54⟩
     refine ⟨_, rfl, hS54.below, ?_⟩
     have hS55 := hS53.call hS54
     refine gb0 [7] [(12, vI r2)] ?_
     refine gn hK19 ?_
     refine ws fun K20 hK20 => ?_
     refine ws fun K21 hK21 => ?_
     refine wr [(0, 0), (1, 0)] ?_
     refine gb0 [0, 1] [(69, .bool (r2 == 0)), (68, vI r2)] ?_
     refine gn hK21 ?_
     by_cases hc12 : r2 = 0
     ·rw [if_pos hc12] at h
      refine wk 69 (r2 == 0) true (beq_iff_eq.2 hc12) ?_
      refine we_true (by kernel_rfl) ?_
      refine ws fun K22 hK22 => ?_
      refine wr [(0, 0), (1, 1), (2, 0), (3, 2)] ?_
      refine gb0 [0] [(70, vI x1)] ?_
      refine ge_call (d := some 71) (f := 74) (args := #[vI 13, vI x1]) (by kernel_rfl) (punctualref_F_ok 13 x1 _ _ rfl) ?_
      rintro _ w20 ⟨rfl, hS56⟩
      refine ⟨_, rfl, hS56.below, ?_⟩
      have hS57 := hS55.call hS56
      refine gb0 [2] [(6, vI 0)] ?_
      refine gs b1 0 #[vI 0, vI 0] 39 [vI ((punctualref_F.f 13 x1).Code), vI ((punctualref_F.f 13 x1).At)] hS57 fun w21 hS58 => ?_
      have hS59 : St w0 w21 [Own.blk b1 (.cells #[vI ((punctualref_F.f 13 x1).Code), vI ((punctualref_F.f 13 x1).At)] 39 (0, 0)), Own.of (.slice Z1 m3.length cz1) 51 m3] := hS58
      refine gn hK22 ?_
      have hS60 := hS59.takeN 0
      obtain rfl := si h
      exact we_ret (pr [.tmp 6, .cell 7 39] [vI 0, .agg #[vI ((punctualref_F.f 13 x1).Code), vI ((punctualref_F.f 13 x1).At)]] [.loaded ⟨b1, 0, none⟩ (vI ((punctualref_F.f 13 x1).Code)), .loaded ⟨b1, 1, none⟩ (vI ((punctualref_F.f 13 x1).At))] ⟨hS59.c 0, hS59.c 0, trivial⟩ ⟨rfl, hS60⟩)
     ·rw [if_neg hc12] at h
      refine wk 69 (r2 == 0) false (beq_eq_false_iff_ne.2 hc12) ?_
      refine we_false (by kernel_rfl) ?_
      refine we_skip fun a hF => hK20 _ _ ?_ a hF
      refine ws fun K23 hK23 => ?_
      refine wr [(0, 0), (1, 0), (2, 0), (3, 2)] ?_
      refine gb0 [0, 1, 2] [(6, vI r2), (73, .agg #[vI 0, vI 0]), (72, vI r2)] ?_
      refine gs b1 0 #[vI 0, vI 0] 39 [vI 0, vI 0] hS55 fun w22 hS61 => ?_
      have hS62 : St w0 w22 [Own.blk b1 (.cells #[vI 0, vI 0] 39 (0, 0)), Own.of (.slice Z1 m3.length cz1) 51 m3] := hS61
      refine gn hK23 ?_
      have hS63 := hS62.takeN 0
      obtain rfl := si h
      exact we_ret (pr [.tmp 6, .cell 7 39] [vI r2, .agg #[vI 0, vI 0]] [.loaded ⟨b1, 0, none⟩ (vI 0), .loaded ⟨b1, 1, none⟩ (vI 0)] ⟨hS62.c 0, hS62.c 0, trivial⟩ ⟨rfl, hS63⟩)
    ·rw [if_neg hc11] at h
     cases h
   ·rw [hq7] at h
    simp only [] at h
    refine we_iter (A := punctualref_ResponseOf.A1 w0 l0 A0 c0 x1 x2 b1) (B := punctualref_ResponseOf.B1 w0 l0 A0 c0 x1 x2 b1) hq7 (fun a hF => ⟨(.slice none 0 0), hS35, hF.weaken ea⟩) (fun s o hf a w hA Q hQ => punctualref_ResponseOf_r1 K w0 l0 A0 c0 x1 x2 hR0 hL0 b1 r1 b2 hc1 s o hf a w hA Q hQ) ?_
    rintro _ a w1 _ ⟨rfl, hb⟩
    obtain rfl := si h
    exact hb
  ·rw [hq6] at h
   simp only [] at h
   refine we_keep (e' := [(0, .slice A0 l0.length c0), (1, vI x1), (2, vI x2), (6, vI 0), (7, pP b1 0), (8, pP b2 0), (13, .slice A0 l0.length c0), (14, .agg #[vI r1.Code, vI r1.At]), (15, pP b2 0), (16, vI r1.Code), (17, .bool false)]) ea (punctualref_ResponseOf_p0 K w0 l0 A0 c0 x1 x2 hR0 hL0 b1 r1 b2 hc1 _ hq6 _ hS6 _ ?_)
   rintro _ a w1 ⟨_, rfl, hb⟩
   obtain rfl := si h
   exact hb
 ·rw [if_neg hc1] at h
  refine wk 17 (r1.Code != 0) true (bne_iff_ne.2 hc1) ?_
  refine we_true (by kernel_rfl) ?_
  refine ws fun K24 hK24 => ?_
  refine we_draws (by kernel_rfl) [(0, 0), (1, 0), (2, 2)] (by kernel_rfl) ?_
  have hS64 := hS6.drew
  refine gb [0, 1] [(6, vI 0), (18, .agg #[vI r1.Code, vI r1.At])] [.loaded ⟨b2, 0, none⟩ (vI r1.Code), .loaded ⟨b2, 1, none⟩ (vI r1.At)] ⟨hS64.c 0, hS64.c 0, trivial⟩ ?_
  have hS65 := hS64.bring 1 rfl
  refine gs b1 0 #[vI 0, vI 0] 39 [vI r1.Code, vI r1.At] hS65 fun w23 hS66 => ?_
  have hS67 : St w0 w23 [Own.blk b1 (.cells #[vI r1.Code, vI r1.At] 39 (0, 0)), Own.blk b2 (.cells #[vI r1.Code, vI r1.At] 39 (0, 0))] := hS66
  refine gn hK24 ?_
  have hS68 := hS67.takeN 0
  obtain rfl := si h
  exact we_ret (pr [.tmp 6, .cell 7 39] [vI 0, .agg #[vI r1.Code, vI r1.At]] [.loaded ⟨b1, 0, none⟩ (vI r1.Code), .loaded ⟨b1, 1, none⟩ (vI r1.At)] ⟨hS67.c 0, hS67.c 0, trivial⟩ ⟨rfl, hS68⟩)

/-! punctual/punctualref.CheckFrame -/
abbrev punctualref_CheckFrame.Post (w0 : World) (r : SFault) (e : Ending) (w : World) : Prop := e = .returned (.agg #[vI r.Code, vI r.At]) ∧ St w0 w []
def punctualref_CheckFrame.p0 (x0 : Int) : Option (Unit ⊕ SFault) :=
  if x0 < 1 then
   some (.inr (punctualref_F.f 3 0))
  else
   if x0 > 10000 then
    some (.inr (punctualref_F.f 3 0))
   else
    some (.inl ())
def punctualref_CheckFrame.p2 (x0 : Int) (i1 : Nat) (e1 : SWindow) : Option (Unit ⊕ SFault) :=
  if e1.At < 0 then
   some (.inr (punctualref_F.f 3 (i1 : Int)))
  else
   if e1.At > x0 then
    some (.inr (punctualref_F.f 3 (i1 : Int)))
   else
    if e1.Len < 1 then
     some (.inr (punctualref_F.f 3 (i1 : Int)))
    else
     if e1.Len > x0 then
      some (.inr (punctualref_F.f 3 (i1 : Int)))
     else
      if (IntKind.i64.wrap (e1.At + e1.Len)) > x0 then
       some (.inr (punctualref_F.f 3 (i1 : Int)))
      else
       some (.inl ())
def punctualref_CheckFrame.r1 (x0 : Int) (l1 : List SWindow) : Nat → Option (Nat ⊕ (Unit ⊕ SFault))
 | i1 =>
  if (i1 : Int) < (l1.length : Int) then
   match l1[i1]? with
   | none => none
   | some e1 =>
    match punctualref_CheckFrame.p2 x0 i1 e1 with
    | none => none
    | some (.inl _) =>
     if (i1 : Int) > 0 then
      if 0 ≤ (IntKind.i64.wrap ((i1 : Int) - 1)) then
       match l1[(IntKind.i64.wrap ((i1 : Int) - 1)).toNat]? with
       | none => none
       | some e2 =>
        if e1.At < (IntKind.i64.wrap (e2.At + e2.Len)) then
         some (.inr (.inr (punctualref_F.f 12 (i1 : Int))))
        else
         some (.inl (i1 + 1))
      else
       none
     else
      some (.inl (i1 + 1))
    | some (.inr rr1) =>
     some (.inr (.inr rr1))
  else
   some (.inr (.inl ()))
def punctualref_CheckFrame.f (K : Nat) (x0 : Int) (l1 : List SWindow) : Option SFault :=
 match punctualref_CheckFrame.p0 x0 with
 | none => none
 | some (.inl _) =>
  if (l1.length : Int) > 20 then
   some (punctualref_F.f 2 0)
  else
   match iter (punctualref_CheckFrame.r1 x0 l1) K 0 with
   | none => none
   | some (.inl _) =>
    some (⟨0, 0⟩ : SFault)
   | some (.inr rr2) =>
    some rr2
 | some (.inr rr3) =>
  some rr3
abbrev punctualref_CheckFrame.A0 (w0 : World) (x0 : Int) (l1 : List SWindow) (A1 : Option Addr) (c1 : Nat) (b1 : Nat) : Unit → Act → World → Prop := fun (s : Unit) a w => St w0 w [Own.blk b1 (.cells #[vI 0, vI 0] 39 (0, 0))] ∧ Frm 80 a [(0, vI x0), (1, .slice A1 l1.length c1), (4, pP b1 0)]
abbrev punctualref_CheckFrame.B0 (w0 : World) : SFault → Exit → Act → World → Prop := Rets Tryd.prog Tryd.f84 (punctualref_CheckFrame.Post w0)
theorem punctualref_CheckFrame_p0 (K : Nat) (w0 : World) (x0 : Int) (l1 : List SWindow) (A1 : Option Addr) (c1 : Nat) (hR1 : RdL w0 A1 l1) (hL1 : l1.length ≤ c1) (b1 : Nat) (o : Unit ⊕ SFault) (h : punctualref_CheckFrame.p0 x0 = some o) (w : World) (hS : St w0 w [Own.blk b1 (.cells #[vI 0, vI 0] 39 (0, 0))]) (Q : Exit → Act → World → Prop) (hQ : ∀ x a w, Outs (punctualref_CheckFrame.A0 w0 x0 l1 A1 c1 b1) (punctualref_CheckFrame.B0 w0) o x a w → Q x a w) : WE Tryd.prog 80 (subF Tryd.f84 [1, 0]) Q [(0, vI x0), (1, .slice A1 l1.length c1), (4, pP b1 0)] w := by
 simp only [punctualref_CheckFrame.p0] at h
 refine ws fun K3 hK3 => ?_
 refine wr [(0, 0), (1, 0), (2, 0), (3, 0), (4, 0), (5, 0)] ?_
 refine gb0 [0, 1, 2] [(9, .bool (decide (x0 < 1))), (8, .bool (decide (x0 < 1))), (7, vI x0)] ?_
 by_cases hc1 : x0 < 1
 ·rw [if_pos hc1] at h
  refine gk 9 (decide (x0 < 1)) true (decide_eq_true hc1) ?_
  refine gb0 [3, 4, 5] [(12, .bool true), (11, undef), (10, undef)] ?_
  refine gn hK3 ?_
  refine we_true (by kernel_rfl) ?_
  refine ws fun K4 hK4 => ?_
  refine wr [(0, 1), (1, 2)] ?_
  refine ge_call (d := some 13) (f := 74) (args := #[vI 3, vI 0]) (by kernel_rfl) (punctualref_F_ok 3 0 _ _ rfl) ?_
  rintro _ w2 ⟨rfl, hS2⟩
  refine ⟨_, rfl, hS2.below, ?_⟩
  have hS3 := hS.call hS2
  refine gs b1 0 #[vI 0, vI 0] 39 [vI ((punctualref_F.f 3 0).Code), vI ((punctualref_F.f 3 0).At)] hS3 fun w3 hS4 => ?_
  have hS5 : St w0 w3 [Own.blk b1 (.cells #[vI ((punctualref_F.f 3 0).Code), vI ((punctualref_F.f 3 0).At)] 39 (0, 0))] := hS4
  refine gn hK4 ?_
  have hS6 := hS5.takeN 0
  obtain rfl := si h
  exact we_ret fun a hF => hQ _ _ _ (Outs.out nofun ⟨rfl, (pr [.cell 4 39] [.agg #[vI ((punctualref_F.f 3 0).Code), vI ((punctualref_F.f 3 0).At)]] [.loaded ⟨b1, 0, none⟩ (vI ((punctualref_F.f 3 0).Code)), .loaded ⟨b1, 1, none⟩ (vI ((punctualref_F.f 3 0).At))] ⟨hS5.c 0, hS5.c 0, trivial⟩ ⟨rfl, hS6⟩) a hF⟩)
 ·rw [if_neg hc1] at h
  refine gk 9 (decide (x0 < 1)) false (decide_eq_false hc1) ?_
  refine gb0 [3, 4, 5] [(12, .bool (decide (x0 > 10000))), (11, .bool (decide (x0 > 10000))), (10, vI x0)] ?_
  refine gn hK3 ?_
  by_cases hc2 : x0 > 10000
  ·rw [if_pos hc2] at h
   refine wk 12 (decide (x0 > 10000)) true (decide_eq_true hc2) ?_
   refine we_true (by kernel_rfl) ?_
   refine ws fun K5 hK5 => ?_
   refine wr [(0, 1), (1, 2)] ?_
   refine ge_call (d := some 13) (f := 74) (args := #[vI 3, vI 0]) (by kernel_rfl) (punctualref_F_ok 3 0 _ _ rfl) ?_
   rintro _ w4 ⟨rfl, hS7⟩
   refine ⟨_, rfl, hS7.below, ?_⟩
   have hS8 := hS.call hS7
   refine gs b1 0 #[vI 0, vI 0] 39 [vI ((punctualref_F.f 3 0).Code), vI ((punctualref_F.f 3 0).At)] hS8 fun w5 hS9 => ?_
   have hS10 : St w0 w5 [Own.blk b1 (.cells #[vI ((punctualref_F.f 3 0).Code), vI ((punctualref_F.f 3 0).At)] 39 (0, 0))] := hS9
   refine gn hK5 ?_
   have hS11 := hS10.takeN 0
   obtain rfl := si h
   exact we_ret fun a hF => hQ _ _ _ (Outs.out nofun ⟨rfl, (pr [.cell 4 39] [.agg #[vI ((punctualref_F.f 3 0).Code), vI ((punctualref_F.f 3 0).At)]] [.loaded ⟨b1, 0, none⟩ (vI ((punctualref_F.f 3 0).Code)), .loaded ⟨b1, 1, none⟩ (vI ((punctualref_F.f 3 0).At))] ⟨hS10.c 0, hS10.c 0, trivial⟩ ⟨rfl, hS11⟩) a hF⟩)
  ·rw [if_neg hc2] at h
   refine wk 12 (decide (x0 > 10000)) false (decide_eq_false hc2) ?_
   refine we_false (by kernel_rfl) ?_
   obtain rfl := si h
   exact we_skip fun a hF => hQ _ _ _ (Outs.again ⟨hS, hF.weaken ea⟩)
abbrev punctualref_CheckFrame.A2 (w0 : World) (x0 : Int) (l1 : List SWindow) (A1 : Option Addr) (c1 : Nat) (b1 : Nat) (i1 : Nat) (e1 : SWindow) (b2 : Nat) : Unit → Act → World → Prop := fun (s : Unit) a w => St w0 w [Own.blk b2 (.cells #[vI e1.At, vI e1.Len] 55 (0, 0)), Own.blk b1 (.cells #[vI 0, vI 0] 39 (0, 0))] ∧ Frm 80 a [(0, vI x0), (1, .slice A1 l1.length c1), (4, pP b1 0), (5, vI (i1 : Int)), (6, pP b2 0), (18, .slice A1 l1.length c1), (19, vI (l1.length : Int)), (20, vI (i1 : Int))]
abbrev punctualref_CheckFrame.B2 (w0 : World) : SFault → Exit → Act → World → Prop := Rets Tryd.prog Tryd.f84 (punctualref_CheckFrame.Post w0)
theorem punctualref_CheckFrame_p2 (K : Nat) (w0 : World) (x0 : Int) (l1 : List SWindow) (A1 : Option Addr) (c1 : Nat) (hR1 : RdL w0 A1 l1) (hL1 : l1.length ≤ c1) (b1 : Nat) (hc3 : ¬ ((l1.length : Int) > 20)) (i1 : Nat) (hc4 : (i1 : Int) < (l1.length : Int)) (e1 : SWindow) (hx2 : l1[i1]? = some e1) (b2 : Nat) (o : Unit ⊕ SFault) (h : punctualref_CheckFrame.p2 x0 i1 e1 = some o) (w : World) (hS : St w0 w [Own.blk b2 (.cells #[vI e1.At, vI e1.Len] 55 (0, 0)), Own.blk b1 (.cells #[vI 0, vI 0] 39 (0, 0))]) (Q : Exit → Act → World → Prop) (hQ : ∀ x a w, Outs (punctualref_CheckFrame.A2 w0 x0 l1 A1 c1 b1 i1 e1 b2) (punctualref_CheckFrame.B2 w0) o x a w → Q x a w) : WE Tryd.prog 80 (subF Tryd.f84 [1, 1, 1, 0, 1, 0, 0, 1, 1, 0, 0, 1, 0]) Q [(0, vI x0), (1, .slice A1 l1.length c1), (4, pP b1 0), (5, vI (i1 : Int)), (6, pP b2 0), (18, .slice A1 l1.length c1), (19, vI (l1.length : Int)), (20, vI (i1 : Int)), (21, .bool true), (22, vI (i1 : Int)), (23, .pointer (some ⟨blkOf A1, offOf A1 + i1 * 2, none⟩)), (24, .agg #[vI e1.At, vI e1.Len])] w := by
 simp only [punctualref_CheckFrame.p2] at h
 refine ws fun K16 hK16 => ?_
 refine wr [(0, 0), (1, 0), (2, 0), (3, 0), (4, 0), (5, 0), (6, 0), (7, 0), (8, 0), (9, 0), (10, 0), (11, 0), (12, 0), (13, 0), (14, 0), (15, 0), (16, 0), (17, 0), (18, 0), (19, 0), (20, 0), (21, 0), (22, 0), (23, 0), (24, 0), (25, 0), (26, 0), (27, 0), (28, 0)] ?_
 refine gb [0, 1, 2, 3] [(28, .bool (decide (e1.At < 0))), (27, .bool (decide (e1.At < 0))), (26, vI e1.At), (25, pP b2 0)] [.loaded ⟨b2, 0, none⟩ (vI e1.At)] ⟨hS.c 0, trivial⟩ ?_
 by_cases hc5 : e1.At < 0
 ·rw [if_pos hc5] at h
  refine gk 28 (decide (e1.At < 0)) true (decide_eq_true hc5) ?_
  refine gb0 [4, 5, 6, 7, 8, 9, 10, 11, 12, 13, 14, 15, 16, 17, 18, 19, 20, 21, 22, 23, 24, 25, 26, 27, 28] [(53, .bool true), (52, undef), (51, undef), (50, undef), (49, undef), (48, undef), (47, undef), (46, undef), (45, .bool true), (44, .bool true), (43, undef), (42, undef), (41, undef), (40, undef), (39, .bool true), (38, .bool true), (37, undef), (36, undef), (35, undef), (34, .bool true), (33, .bool true), (32, undef), (31, undef), (30, undef), (29, undef)] ?_
  refine gn hK16 ?_
  refine we_true (by kernel_rfl) ?_
  refine ws fun K17 hK17 => ?_
  refine wr [(0, 0), (1, 1), (2, 2)] ?_
  refine gb0 [0] [(54, vI (i1 : Int))] ?_
  refine ge_call (d := some 55) (f := 74) (args := #[vI 3, vI (i1 : Int)]) (by kernel_rfl) (punctualref_F_ok 3 (i1 : Int) _ _ rfl) ?_
  rintro _ w11 ⟨rfl, hS21⟩
  refine ⟨_, rfl, hS21.below, ?_⟩
  have hS22 := hS.call hS21
  have hS23 := hS22.bring 1 rfl
  refine gs b1 0 #[vI 0, vI 0] 39 [vI ((punctualref_F.f 3 (i1 : Int)).Code), vI ((punctualref_F.f 3 (i1 : Int)).At)] hS23 fun w12 hS24 => ?_
  have hS25 : St w0 w12 [Own.blk b1 (.cells #[vI ((punctualref_F.f 3 (i1 : Int)).Code), vI ((punctualref_F.f 3 (i1 : Int)).At)] 39 (0, 0)), Own.blk b2 (.cells #[vI e1.At, vI e1.Len] 55 (0, 0))] := hS24
  refine gn hK17 ?_
  have hS26 := hS25.takeN 0
  obtain rfl := si h
  exact we_ret fun a hF => hQ _ _ _ (Outs.out nofun ⟨rfl, (pr [.cell 4 39] [.agg #[vI ((punctualref_F.f 3 (i1 : Int)).Code), vI ((punctualref_F.f 3 (i1 : Int)).At)]] [.loaded ⟨b1, 0, none⟩ (vI ((punctualref_F.f 3 (i1 : Int)).Code)), .loaded ⟨b1, 1, none⟩ (vI ((punctualref_F.f 3 (i1 : Int)).At))] ⟨hS25.c 0, hS25.c 0, trivial⟩ ⟨rfl, hS26⟩) a hF⟩)
 ·rw [if_neg hc5] at h
  refine gk 28 (decide (e1.At < 0)) false (decide_eq_false hc5) ?_
  refine gb [4, 5, 6, 7, 8, 9] [(34, .bool (decide (e1.At > x0))), (33, .bool (decide (e1.At > x0))), (32, .bool (decide (e1.At > x0))), (31, vI x0), (30, vI e1.At), (29, pP b2 0)] [.loaded ⟨b2, 0, none⟩ (vI e1.At)] ⟨hS.c 0, trivial⟩ ?_
  by_cases hc6 : e1.At > x0
  ·rw [if_pos hc6] at h
   refine gk 34 (decide (e1.At > x0)) true (decide_eq_true hc6) ?_
   refine gb0 [10, 11, 12, 13, 14, 15, 16, 17, 18, 19, 20, 21, 22, 23, 24, 25, 26, 27, 28] [(53, .bool true), (52, undef), (51, undef), (50, undef), (49, undef), (48, undef), (47, undef), (46, undef), (45, .bool true), (44, .bool true), (43, undef), (42, undef), (41, undef), (40, undef), (39, .bool true), (38, .bool true), (37, undef), (36, undef), (35, undef)] ?_
   refine gn hK16 ?_
   refine we_true (by kernel_rfl) ?_
   refine ws fun K18 hK18 => ?_
   refine wr [(0, 0), (1, 1), (2, 2)] ?_
   refine gb0 [0] [(54, vI (i1 : Int))] ?_
   refine ge_call (d := some 55) (f := 74) (args := #[vI 3, vI (i1 : Int)]) (by kernel_rfl) (punctualref_F_ok 3 (i1 : Int) _ _ rfl) ?_
   rintro _ w13 ⟨rfl, hS27⟩
   refine ⟨_, rfl, hS27.below, ?_⟩
   have hS28 := hS.call hS27
   have hS29 := hS28.bring 1 rfl
   refine gs b1 0 #[vI 0, vI 0] 39 [vI ((punctualref_F.f 3 (i1 : Int)).Code), vI ((punctualref_F.f 3 (i1 : Int)).At)] hS29 fun w14 hS30 => ?_
   have hS31 : St w0 w14 [Own.blk b1 (.cells #[vI ((punctualref_F.f 3 (i1 : Int)).Code), vI ((punctualref_F.f 3 (i1 : Int)).At)] 39 (0, 0)), Own.blk b2 (.cells #[vI e1.At, vI e1.Len] 55 (0, 0))] := hS30
   refine gn hK18 ?_
   have hS32 := hS31.takeN 0
   obtain rfl := si h
   exact we_ret fun a hF => hQ _ _ _ (Outs.out nofun ⟨rfl, (pr [.cell 4 39] [.agg #[vI ((punctualref_F.f 3 (i1 : Int)).Code), vI ((punctualref_F.f 3 (i1 : Int)).At)]] [.loaded ⟨b1, 0, none⟩ (vI ((punctualref_F.f 3 (i1 : Int)).Code)), .loaded ⟨b1, 1, none⟩ (vI ((punctualref_F.f 3 (i1 : Int)).At))] ⟨hS31.c 0, hS31.c 0, trivial⟩ ⟨rfl, hS32⟩) a hF⟩)
  ·rw [if_neg hc6] at h
   refine gk 34 (decide (e1.At > x0)) false (decide_eq_false hc6) ?_
   refine gb [10, 11, 12, 13, 14] [(39, .bool (decide (e1.Len < 1))), (38, .bool (decide (e1.Len < 1))), (37, .bool (decide (e1.Len < 1))), (36, vI e1.Len), (35, pP b2 1)] [.loaded ⟨b2, 1, none⟩ (vI e1.Len)] ⟨hS.c 0, trivial⟩ ?_
   by_cases hc7 : e1.Len < 1
   ·rw [if_pos hc7] at h
    refine gk 39 (decide (e1.Len < 1)) true (decide_eq_true hc7) ?_
    refine gb0 [15, 16, 17, 18, 19, 20, 21, 22, 23, 24, 25, 26, 27, 28] [(53, .bool true), (52, undef), (51, undef), (50, undef), (49, undef), (48, undef), (47, undef), (46, undef), (45, .bool true), (44, .bool true), (43, undef), (42, undef), (41, undef), (40, undef)] ?_
    refine gn hK16 ?_
    refine we_true (by kernel_rfl) ?_
    refine ws fun K19 hK19 => ?_
    refine wr [(0, 0), (1, 1), (2, 2)] ?_
    refine gb0 [0] [(54, vI (i1 : Int))] ?_
    refine ge_call (d := some 55) (f := 74) (args := #[vI 3, vI (i1 : Int)]) (by kernel_rfl) (punctualref_F_ok 3 (i1 : Int) _ _ rfl) ?_
    rintro _ w15 ⟨rfl, hS33⟩
    refine ⟨_, rfl, hS33.below, ?_⟩
    have hS34 := hS.call hS33
    have hS35 := hS34.bring 1 rfl
    refine gs b1 0 #[vI 0, vI 0] 39 [vI ((punctualref_F.f 3 (i1 : Int)).Code), vI ((punctualref_F.f 3 (i1 : Int)).At)] hS35 fun w16 hS36 => ?_
    have hS37 : St w0 w16 [Own.blk b1 (.cells #[vI ((punctualref_F.f 3 (i1 : Int)).Code), vI ((punctualref_F.f 3 (i1 : Int)).At)] 39 (0, 0)), Own.blk b2 (.cells #[vI e1.At, vI e1.Len] 55 (0, 0))] := hS36
    refine gn hK19 ?_
    have hS38 := hS37.takeN 0
    obtain rfl := si h
    exact we_ret fun a hF => hQ _ _ _ (Outs.out nofun ⟨rfl, (pr [.cell 4 39] [.agg #[vI ((punctualref_F.f 3 (i1 : Int)).Code), vI ((punctualref_F.f 3 (i1 : Int)).At)]] [.loaded ⟨b1, 0, none⟩ (vI ((punctualref_F.f 3 (i1 : Int)).Code)), .loaded ⟨b1, 1, none⟩ (vI ((punctualref_F.f 3 (i1 : Int)).At))] ⟨hS37.c 0, hS37.c 0, trivial⟩ ⟨rfl, hS38⟩) a hF⟩)
   ·rw [if_neg hc7] at h
    refine gk 39 (decide (e1.Len < 1)) false (decide_eq_false hc7) ?_
    refine gb [15, 16, 17, 18, 19, 20] [(45, .bool (decide (e1.Len > x0))), (44, .bool (decide (e1.Len > x0))), (43, .bool (decide (e1.Len > x0))), (42, vI x0), (41, vI e1.Len), (40, pP b2 1)] [.loaded ⟨b2, 1, none⟩ (vI e1.Len)] ⟨hS.c 0, trivial⟩ ?_
    by_cases hc8 : e1.Len > x0
    ·rw [if_pos hc8] at h
     refine gk 45 (decide (e1.Len > x0)) true (decide_eq_true hc8) ?_
     refine gb0 [21, 22, 23, 24, 25, 26, 27, 28] [(53, .bool true), (52, undef), (51, undef), (50, undef), (49, undef), (48, undef), (47, undef), (46, undef)] ?_
     refine gn hK16 ?_
     refine we_true (by kernel_rfl) ?_
     refine ws fun K20 hK20 => ?_
     refine wr [(0, 0), (1, 1), (2, 2)] ?_
     refine gb0 [0] [(54, vI (i1 : Int))] ?_
     refine ge_call (d := some 55) (f := 74) (args := #[vI 3, vI (i1 : Int)]) (by kernel_rfl) (punctualref_F_ok 3 (i1 : Int) _ _ rfl) ?_
     rintro _ w17 ⟨rfl, hS39⟩
     refine ⟨_, rfl, hS39.below, ?_⟩
     have hS40 := hS.call hS39
     have hS41 := hS40.bring 1 rfl
     refine gs b1 0 #[vI 0, vI 0] 39 [vI ((punctualref_F.f 3 (i1 : Int)).Code), vI ((punctualref_F.f 3 (i1 : Int)).At)] hS41 fun w18 hS42 => ?_
     have hS43 : St w0 w18 [Own.blk b1 (.cells #[vI ((punctualref_F.f 3 (i1 : Int)).Code), vI ((punctualref_F.f 3 (i1 : Int)).At)] 39 (0, 0)), Own.blk b2 (.cells #[vI e1.At, vI e1.Len] 55 (0, 0))] := hS42
     refine gn hK20 ?_
     have hS44 := hS43.takeN 0
     obtain rfl := si h
     exact we_ret fun a hF => hQ _ _ _ (Outs.out nofun ⟨rfl, (pr [.cell 4 39] [.agg #[vI ((punctualref_F.f 3 (i1 : Int)).Code), vI ((punctualref_F.f 3 (i1 : Int)).At)]] [.loaded ⟨b1, 0, none⟩ (vI ((punctualref_F.f 3 (i1 : Int)).Code)), .loaded ⟨b1, 1, none⟩ (vI ((punctualref_F.f 3 (i1 : Int)).At))] ⟨hS43.c 0, hS43.c 0, trivial⟩ ⟨rfl, hS44⟩) a hF⟩)
    ·rw [if_neg hc8] at h
     refine gk 45 (decide (e1.Len > x0)) false (decide_eq_false hc8) ?_
     refine gb [21, 22, 23, 24, 25, 26, 27, 28] [(53, .bool (decide ((IntKind.i64.wrap (e1.At + e1.Len)) > x0))), (52, .bool (decide ((IntKind.i64.wrap (e1.At + e1.Len)) > x0))), (51, vI x0), (50, vI (IntKind.i64.wrap (e1.At + e1.Len))), (49, vI e1.Len), (48, pP b2 1), (47, vI e1.At), (46, pP b2 0)] [.loaded ⟨b2, 0, none⟩ (vI e1.At), .loaded ⟨b2, 1, none⟩ (vI e1.Len)] ⟨hS.c 0, hS.c 0, trivial⟩ ?_
     refine gn hK16 ?_
     by_cases hc9 : (IntKind.i64.wrap (e1.At + e1.Len)) > x0
     ·rw [if_pos hc9] at h
      refine wk 53 (decide ((IntKind.i64.wrap (e1.At + e1.Len)) > x0)) true (decide_eq_true hc9) ?_
      refine we_true (by kernel_rfl) ?_
      refine ws fun K21 hK21 => ?_
      refine wr [(0, 0), (1, 1), (2, 2)] ?_
      refine gb0 [0] [(54, vI (i1 : Int))] ?_
      refine ge_call (d := some 55) (f := 74) (args := #[vI 3, vI (i1 : Int)]) (by kernel_rfl) (punctualref_F_ok 3 (i1 : Int) _ _ rfl) ?_
      rintro _ w19 ⟨rfl, hS45⟩
      refine ⟨_, rfl, hS45.below, ?_⟩
      have hS46 := hS.call hS45
      have hS47 := hS46.bring 1 rfl
      refine gs b1 0 #[vI 0, vI 0] 39 [vI ((punctualref_F.f 3 (i1 : Int)).Code), vI ((punctualref_F.f 3 (i1 : Int)).At)] hS47 fun w20 hS48 => ?_
      have hS49 : St w0 w20 [Own.blk b1 (.cells #[vI ((punctualref_F.f 3 (i1 : Int)).Code), vI ((punctualref_F.f 3 (i1 : Int)).At)] 39 (0, 0)), Own.blk b2 (.cells #[vI e1.At, vI e1.Len] 55 (0, 0))] := hS48
      refine gn hK21 ?_
      have hS50 := hS49.takeN 0
      obtain rfl := si h
      exact we_ret fun a hF => hQ _ _ _ (Outs.out nofun ⟨rfl, (pr [.cell 4 39] [.agg #[vI ((punctualref_F.f 3 (i1 : Int)).Code), vI ((punctualref_F.f 3 (i1 : Int)).At)]] [.loaded ⟨b1, 0, none⟩ (vI ((punctualref_F.f 3 (i1 : Int)).Code)), .loaded ⟨b1, 1, none⟩ (vI ((punctualref_F.f 3 (i1 : Int)).At))] ⟨hS49.c 0, hS49.c 0, trivial⟩ ⟨rfl, hS50⟩) a hF⟩)
     ·rw [if_neg hc9] at h
      refine wk 53 (decide ((IntKind.i64.wrap (e1.At + e1.Len)) > x0)) false (decide_eq_false hc9) ?_
      refine we_false (by kernel_rfl) ?_
      have hS51 := hS.bring 1 rfl
      have hS52 := hS51.bring 1 rfl
      obtain rfl := si h
      exact we_skip fun a hF => hQ _ _ _ (Outs.again ⟨hS52, hF.weaken ea⟩)
abbrev punctualref_CheckFrame.A1 (w0 : World) (x0 : Int) (l1 : List SWindow) (A1 : Option Addr) (c1 : Nat) (b1 : Nat) : Nat → Act → World → Prop := fun (s : Nat) a w => St w0 w [Own.blk b1 (.cells #[vI 0, vI 0] 39 (0, 0))] ∧ Frm 80 a [(0, vI x0), (1, .slice A1 l1.length c1), (4, pP b1 0), (18, .slice A1 l1.length c1), (19, vI (l1.length : Int)), (20, vI (s : Int))]
abbrev punctualref_CheckFrame.B1 (w0 : World) (b1 : Nat) : (Unit ⊕ SFault) → Exit → Act → World → Prop := Exits 0 (fun (s : Unit) a w => St w0 w [Own.blk b1 (.cells #[vI 0, vI 0] 39 (0, 0))] ∧ Frm 80 a [(4, pP b1 0)]) (Rets Tryd.prog Tryd.f84 (punctualref_CheckFrame.Post w0))
theorem punctualref_CheckFrame_r1 (K : Nat) (w0 : World) (x0 : Int) (l1 : List SWindow) (A1 : Option Addr) (c1 : Nat) (hR1 : RdL w0 A1 l1) (hL1 : l1.length ≤ c1) (b1 : Nat) (hc3 : ¬ ((l1.length : Int) > 20)) (s : Nat) (o : Nat ⊕ (Unit ⊕ SFault)) (h : punctualref_CheckFrame.r1 x0 l1 s = some o) (a : Act) (w : World) (hA : punctualref_CheckFrame.A1 w0 x0 l1 A1 c1 b1 s a w) (Q : Exit → Act → World → Prop) (hQ : ∀ x a w, Outs (punctualref_CheckFrame.A1 w0 x0 l1 A1 c1 b1) (punctualref_CheckFrame.B1 w0 b1) o x a w → Q x a w) : (subF Tryd.f84 [1, 1, 1, 0, 1, 0, 0]).wp Tryd.prog Q a w := by
 obtain ⟨i1, hs⟩ : ∃ z, z = s := ⟨s, rfl⟩
 subst hs
 obtain ⟨hS, hF⟩ := hA
 replace hS : St w0 w [Own.blk b1 (.cells #[vI 0, vI 0] 39 (0, 0))] := hS
 simp only [punctualref_CheckFrame.r1] at h
 refine (?_ : WE Tryd.prog 80 (subF Tryd.f84 [1, 1, 1, 0, 1, 0, 0]) Q [(0, vI x0), (1, .slice A1 l1.length c1), (4, pP b1 0), (18, .slice A1 l1.length c1), (19, vI (l1.length : Int)), (20, vI (i1 : Int))] w) a hF
 clear hF a
 refine ws fun K11 hK11 => ?_
 refine wr [(0, 0)] ?_
 refine gb0 [0] [(21, .bool (decide ((i1 : Int) < (l1.length : Int))))] ?_
 refine gn hK11 ?_
 refine ws fun K12 hK12 => ?_
 by_cases hc4 : (i1 : Int) < (l1.length : Int)
 ·rw [if_pos hc4] at h
  refine wk 21 (decide ((i1 : Int) < (l1.length : Int))) true (decide_eq_true hc4) ?_
  refine we_true (by kernel_rfl) ?_
  refine we_skip fun a hF => hK12 _ _ ?_ a hF
  refine ws fun K13 hK13 => ?_
  refine we_block ?_
  refine ws fun K14 hK14 => ?_
  refine wr [(0, 0), (1, 0), (2, 0), (3, 1), (4, 0), (5, 2)] ?_
  refine gb0 [0] [(22, vI (i1 : Int))] ?_
  rcases hx2 : l1[i1]? with _ | e1
  ·rw [hx2] at h; cases h
  rw [hx2] at h
  simp only [] at h
  refine gi 23 0 48 55 2 l1.length c1 (.tmp 18) (.tmp 20) A1 .i64 (i1 : Int) i1 ((hS.rd hR1).eqSome (pos_of_get hx2)) rfl (lt_of_get hx2) ?_
  refine gb [2] [(24, .agg #[vI e1.At, vI e1.Len])] [.loaded ⟨blkOf A1, offOf A1 + i1 * 2, none⟩ (vI e1.At), .loaded ⟨blkOf A1, offOf A1 + i1 * 2 + 1, none⟩ (vI e1.Len)] ⟨RdL.cell (j := 0) (hS.rd hR1) hx2 rfl, RdL.cell (j := 1) (hS.rd hR1) hx2 rfl, trivial⟩ ?_
  refine gw (some 6) (.cells #[vI 0, vI 0] 55) (fun b => pP b 0) hS fun b2 w9 hx3 hS18 => ?_
  refine gb0 [4] [(5, vI (i1 : Int))] ?_
  refine gs b2 0 #[vI 0, vI 0] 55 [vI e1.At, vI e1.Len] hS18 fun w10 hS19 => ?_
  have hS20 : St w0 w10 [Own.blk b2 (.cells #[vI e1.At, vI e1.Len] 55 (0, 0)), Own.blk b1 (.cells #[vI 0, vI 0] 39 (0, 0))] := hS19
  refine gn hK14 ?_
  refine ws fun K15 hK15 => ?_
  rcases hq10 : punctualref_CheckFrame.p2 x0 i1 e1 with _ | (_ | rr1)
  ·rw [hq10] at h; cases h
  ·rw [hq10] at h
   simp only [] at h
   refine we_keep (e' := [(0, vI x0), (1, .slice A1 l1.length c1), (4, pP b1 0), (5, vI (i1 : Int)), (6, pP b2 0), (18, .slice A1 l1.length c1), (19, vI (l1.length : Int)), (20, vI (i1 : Int)), (21, .bool true), (22, vI (i1 : Int)), (23, .pointer (some ⟨blkOf A1, offOf A1 + i1 * 2, none⟩)), (24, .agg #[vI e1.At, vI e1.Len])]) ea (punctualref_CheckFrame_p2 K w0 x0 l1 A1 c1 hR1 hL1 b1 hc3 i1 hc4 e1 hx2 b2 _ hq10 _ hS20 _ ?_)
   rintro _ a w21 ⟨rfl, hS53, hF⟩
   replace hS53 : St w0 w21 [Own.blk b2 (.cells #[vI e1.At, vI e1.Len] 55 (0, 0)), Own.blk b1 (.cells #[vI 0, vI 0] 39 (0, 0))] := hS53
   refine hK15 [(0, vI x0), (1, .slice A1 l1.length c1), (4, pP b1 0), (5, vI (i1 : Int)), (6, pP b2 0), (18, .slice A1 l1.length c1), (19, vI (l1.length : Int)), (20, vI (i1 : Int))] w21 ?_ a hF
   refine ws fun K22 hK22 => ?_
   refine we_draws (by kernel_rfl) [(0, 0), (1, 0), (2, 0), (3, 0), (4, 0), (5, 0), (6, 0), (7, 0), (8, 0), (9, 0), (10, 0), (11, 0), (12, 0), (13, 0), (14, 0), (15, 0), (16, 0), (17, 0), (18, 0), (19, 0)] (by kernel_rfl) ?_
   have hS54 := hS53.drew
   refine gb0 [0, 1, 2] [(58, .bool (decide ((i1 : Int) > 0))), (57, .bool (decide ((i1 : Int) > 0))), (56, vI (i1 : Int))] ?_
   by_cases hc10 : (i1 : Int) > 0
   ·rw [if_pos hc10] at h
    refine gk 58 (decide ((i1 : Int) > 0)) true (decide_eq_true hc10) ?_
    refine gb [3, 4, 5, 6, 7] [(63, vI (IntKind.i64.wrap ((i1 : Int) - 1))), (62, vI (i1 : Int)), (61, .slice A1 l1.length c1), (60, vI e1.At), (59, pP b2 0)] [.loaded ⟨b2, 0, none⟩ (vI e1.At)] ⟨hS54.c 0, trivial⟩ ?_
    by_cases hc11 : 0 ≤ (IntKind.i64.wrap ((i1 : Int) - 1))
    ·rw [if_pos hc11] at h
     rcases hx4 : l1[(IntKind.i64.wrap ((i1 : Int) - 1)).toNat]? with _ | e2
     ·rw [hx4] at h; cases h
     rw [hx4] at h
     simp only [] at h
     refine gi 64 0 48 55 2 l1.length c1 (.tmp 61) (.tmp 63) A1 .i64 (IntKind.i64.wrap ((i1 : Int) - 1)) ((IntKind.i64.wrap ((i1 : Int) - 1)).toNat) ((hS54.rd hR1).eqSome (pos_of_get hx4)) (Int.toNat_of_nonneg hc11).symm (lt_of_get hx4) ?_
     refine gb [9, 10, 11, 12, 13] [(69, vI (IntKind.i64.wrap ((i1 : Int) - 1))), (68, vI (i1 : Int)), (67, .slice A1 l1.length c1), (66, vI e2.At), (65, .pointer (some ⟨blkOf A1, offOf A1 + (IntKind.i64.wrap ((i1 : Int) - 1)).toNat * 2, none⟩))] [.loaded ⟨blkOf A1, offOf A1 + ((IntKind.i64.wrap ((i1 : Int) - 1)).toNat) * 2, none⟩ (vI e2.At)] ⟨RdL.cell (j := 0) (hS54.rd hR1) hx4 rfl, trivial⟩ ?_
     refine gi 70 0 48 55 2 l1.length c1 (.tmp 67) (.tmp 69) A1 .i64 (IntKind.i64.wrap ((i1 : Int) - 1)) ((IntKind.i64.wrap ((i1 : Int) - 1)).toNat) ((hS54.rd hR1).eqSome (pos_of_get hx4)) (Int.toNat_of_nonneg hc11).symm (lt_of_get hx4) ?_
     refine gb [15, 16, 17, 18, 19] [(75, .bool (decide (e1.At < (IntKind.i64.wrap (e2.At + e2.Len))))), (74, .bool (decide (e1.At < (IntKind.i64.wrap (e2.At + e2.Len))))), (73, vI (IntKind.i64.wrap (e2.At + e2.Len))), (72, vI e2.Len), (71, .pointer (some ⟨blkOf A1, offOf A1 + (IntKind.i64.wrap ((i1 : Int) - 1)).toNat * 2 + 1, none⟩))] [.loaded ⟨blkOf A1, offOf A1 + ((IntKind.i64.wrap ((i1 : Int) - 1)).toNat) * 2 + 1, none⟩ (vI e2.Len)] ⟨RdL.cell (j := 1) (hS54.rd hR1) hx4 rfl, trivial⟩ ?_
     refine gn hK22 ?_
     by_cases hc12 : e1.At < (IntKind.i64.wrap (e2.At + e2.Len))
     ·rw [if_pos hc12] at h
      refine wk 75 (decide (e1.At < (IntKind.i64.wrap (e2.At + e2.Len)))) true (decide_eq_true hc12) ?_
      refine we_true (by kernel_rfl) ?_
      refine ws fun K23 hK23 => ?_
      refine wr [(0, 0), (1, 1), (2, 2)] ?_
      refine gb0 [0] [(76, vI (i1 : Int))] ?_
      refine ge_call (d := some 77) (f := 74) (args := #[vI 12, vI (i1 : Int)]) (by kernel_rfl) (punctualref_F_ok 12 (i1 : Int) _ _ rfl) ?_
      rintro _ w22 ⟨rfl, hS55⟩
      refine ⟨_, rfl, hS55.below, ?_⟩
      have hS56 := hS54.call hS55
      have hS57 := hS56.bring 1 rfl
      refine gs b1 0 #[vI 0, vI 0] 39 [vI ((punctualref_F.f 12 (i1 : Int)).Code), vI ((punctualref_F.f 12 (i1 : Int)).At)] hS57 fun w23 hS58 => ?_
      have hS59 : St w0 w23 [Own.blk b1 (.cells #[vI ((punctualref_F.f 12 (i1 : Int)).Code), vI ((punctualref_F.f 12 (i1 : Int)).At)] 39 (0, 0)), Own.blk b2 (.cells #[vI e1.At, vI e1.Len] 55 (0, 0))] := hS58
      refine gn hK23 ?_
      have hS60 := hS59.takeN 0
      obtain rfl := si h
      exact we_ret fun a hF => hQ _ _ _ (Outs.out nofun (Exits.on ⟨rfl, (pr [.cell 4 39] [.agg #[vI ((punctualref_F.f 12 (i1 : Int)).Code), vI ((punctualref_F.f 12 (i1 : Int)).At)]] [.loaded ⟨b1, 0, none⟩ (vI ((punctualref_F.f 12 (i1 : Int)).Code)), .loaded ⟨b1, 1, none⟩ (vI ((punctualref_F.f 12 (i1 : Int)).At))] ⟨hS59.c 0, hS59.c 0, trivial⟩ ⟨rfl, hS60⟩) a hF⟩))
     ·rw [if_neg hc12] at h
      refine wk 75 (decide (e1.At < (IntKind.i64.wrap (e2.At + e2.Len)))) false (decide_eq_false hc12) ?_
      refine we_false (by kernel_rfl) ?_
      refine we_skip fun a hF => hK13 _ _ ?_ a hF
      refine wr [(0, 0), (1, 0)] ?_
      refine ge_addn (d := 78) (ty := 3) (x := (.tmp 20)) (y := (.const (vI 1))) (t := 3) (t2 := 3) (k := .i64) (m := i1) (by kernel_rfl) (by kernel_rfl) (by kernel_rfl) (by have h0 := hR1.small; omega) ?_
      refine gb0 [1] [(20, vI ((i1 + 1 : Nat) : Int))] ?_
      have hS61 := hS54.bring 1 rfl
      have hS62 := hS61.takeN 1
      obtain rfl := si h
      exact ge_nil fun a hF => hQ _ _ _ (Outs.again ⟨hS62, hF.weaken ea⟩)
    ·rw [if_neg hc11] at h
     cases h
   ·rw [if_neg hc10] at h
    refine gk 58 (decide ((i1 : Int) > 0)) false (decide_eq_false hc10) ?_
    refine gb0 [3, 4, 5, 6, 7, 8, 9, 10, 11, 12, 13, 14, 15, 16, 17, 18, 19] [(75, .bool false), (74, undef), (73, undef), (72, undef), (71, undef), (70, undef), (69, undef), (68, undef), (67, undef), (66, undef), (65, undef), (64, undef), (63, undef), (62, undef), (61, undef), (60, undef), (59, undef)] ?_
    refine gn hK22 ?_
    refine we_false (by kernel_rfl) ?_
    refine we_skip fun a hF => hK13 _ _ ?_ a hF
    refine wr [(0, 0), (1, 0)] ?_
    refine ge_addn (d := 78) (ty := 3) (x := (.tmp 20)) (y := (.const (vI 1))) (t := 3) (t2 := 3) (k := .i64) (m := i1) (by kernel_rfl) (by kernel_rfl) (by kernel_rfl) (by have h0 := hR1.small; omega) ?_
    refine gb0 [1] [(20, vI ((i1 + 1 : Nat) : Int))] ?_
    have hS63 := hS54.bring 1 rfl
    have hS64 := hS63.takeN 1
    obtain rfl := si h
    exact ge_nil fun a hF => hQ _ _ _ (Outs.again ⟨hS64, hF.weaken ea⟩)
  ·rw [hq10] at h
   simp only [] at h
   refine we_keep (e' := [(0, vI x0), (1, .slice A1 l1.length c1), (4, pP b1 0), (5, vI (i1 : Int)), (6, pP b2 0), (18, .slice A1 l1.length c1), (19, vI (l1.length : Int)), (20, vI (i1 : Int)), (21, .bool true), (22, vI (i1 : Int)), (23, .pointer (some ⟨blkOf A1, offOf A1 + i1 * 2, none⟩)), (24, .agg #[vI e1.At, vI e1.Len])]) ea (punctualref_CheckFrame_p2 K w0 x0 l1 A1 c1 hR1 hL1 b1 hc3 i1 hc4 e1 hx2 b2 _ hq10 _ hS20 _ ?_)
   rintro _ a w1 ⟨_, rfl, hb⟩
   obtain rfl := si h
   exact hQ _ _ _ (Outs.out nofun (Exits.on ⟨rfl, hb⟩))
 ·rw [if_neg hc4] at h
  refine wk 21 (decide ((i1 : Int) < (l1.length : Int))) false (decide_eq_false hc4) ?_
  refine we_false (by kernel_rfl) ?_
  obtain rfl := si h
  exact we_exit fun a hF => hQ _ _ _ (Outs.out nofun (Exits.here ⟨hS, hF.weaken ea⟩))
theorem punctualref_CheckFrame_ok (K : Nat) (x0 : Int) (l1 : List SWindow) (A1 : Option Addr) (c1 : Nat) (w0 : World) (hR1 : RdL w0 A1 l1) (hL1 : l1.length ≤ c1) (r : SFault) (h : punctualref_CheckFrame.f K x0 l1 = some r) :
  Calls Tryd.prog 84 #[vI x0, .slice A1 l1.length c1] w0 (punctualref_CheckFrame.Post w0 r) := by
 have hS := St.start w0
 unfold punctualref_CheckFrame.f at h
 refine calls_enter (n := 80) (args := [vI x0, .slice A1 l1.length c1]) (fn := Tryd.f84) rfl rfl rfl rfl ?_
 show WE _ _ _ _ [(0, vI x0), (1, .slice A1 l1.length c1)] _
 refine ws fun K1 hK1 => ?_
 refine wr [(0, 1)] ?_
 refine gw (some 4) (.cells #[vI 0, vI 0] 39) (fun b => pP b 0) hS fun b1 w1 hx1 hS1 => ?_
 refine gn hK1 ?_
 refine ws fun K2 hK2 => ?_
 rcases hq3 : punctualref_CheckFrame.p0 x0 with _ | (_ | rr3)
 ·rw [hq3] at h; cases h
 ·rw [hq3] at h
  simp only [] at h
  refine we_keep (e' := [(0, vI x0), (1, .slice A1 l1.length c1), (4, pP b1 0)]) ea (punctualref_CheckFrame_p0 K w0 x0 l1 A1 c1 hR1 hL1 b1 _ hq3 _ hS1 _ ?_)
  rintro _ a w6 ⟨rfl, hS12, hF⟩
  replace hS12 : St w0 w6 [Own.blk b1 (.cells #[vI 0, vI 0] 39 (0, 0))] := hS12
  refine hK2 [(0, vI x0), (1, .slice A1 l1.length c1), (4, pP b1 0)] w6 ?_ a hF
  refine ws fun K6 hK6 => ?_
  refine ws fun K7 hK7 => ?_
  refine wr [(0, 0), (1, 0), (2, 0)] ?_
  refine gb0 [0, 1, 2] [(16, .bool (decide ((l1.length : Int) > 20))), (15, vI (l1.length : Int)), (14, .slice A1 l1.length c1)] ?_
  refine gn hK7 ?_
  by_cases hc3 : (l1.length : Int) > 20
  ·rw [if_pos hc3] at h
   refine wk 16 (decide ((l1.length : Int) > 20)) true (decide_eq_true hc3) ?_
   refine we_true (by kernel_rfl) ?_
   refine ws fun K8 hK8 => ?_
   refine wr [(0, 1), (1, 2)] ?_
   refine ge_call (d := some 17) (f := 74) (args := #[vI 2, vI 0]) (by kernel_rfl) (punctualref_F_ok 2 0 _ _ rfl) ?_
   rintro _ w7 ⟨rfl, hS13⟩
   refine ⟨_, rfl, hS13.below, ?_⟩
   have hS14 := hS12.call hS13
   refine gs b1 0 #[vI 0, vI 0] 39 [vI ((punctualref_F.f 2 0).Code), vI ((punctualref_F.f 2 0).At)] hS14 fun w8 hS15 => ?_
   have hS16 : St w0 w8 [Own.blk b1 (.cells #[vI ((punctualref_F.f 2 0).Code), vI ((punctualref_F.f 2 0).At)] 39 (0, 0))] := hS15
   refine gn hK8 ?_
   have hS17 := hS16.takeN 0
   obtain rfl := si h
   exact we_ret (pr [.cell 4 39] [.agg #[vI ((punctualref_F.f 2 0).Code), vI ((punctualref_F.f 2 0).At)]] [.loaded ⟨b1, 0, none⟩ (vI ((punctualref_F.f 2 0).Code)), .loaded ⟨b1, 1, none⟩ (vI ((punctualref_F.f 2 0).At))] ⟨hS16.c 0, hS16.c 0, trivial⟩ ⟨rfl, hS17⟩)
  ·rw [if_neg hc3] at h
   refine wk 16 (decide ((l1.length : Int) > 20)) false (decide_eq_false hc3) ?_
   refine we_false (by kernel_rfl) ?_
   refine we_skip fun a hF => hK6 _ _ ?_ a hF
   refine ws fun K9 hK9 => ?_
   refine ws fun K10 hK10 => ?_
   refine wr [(0, 0), (1, 0), (2, 0)] ?_
   refine gb0 [0, 1, 2] [(20, vI 0), (19, vI (l1.length : Int)), (18, .slice A1 l1.length c1)] ?_
   refine gn hK10 ?_
   refine we_block ?_
   rcases hq12 : iter (punctualref_CheckFrame.r1 x0 l1) K 0 with _ | (_ | rr2)
   ·rw [hq12] at h; cases h
   ·rw [hq12] at h
    simp only [] at h
    refine we_iter (A := punctualref_CheckFrame.A1 w0 x0 l1 A1 c1 b1) (B := punctualref_CheckFrame.B1 w0 b1) hq12 (fun a hF => ⟨hS12, hF.weaken ea⟩) (fun s o hf a w hA Q hQ => punctualref_CheckFrame_r1 K w0 x0 l1 A1 c1 hR1 hL1 b1 hc3 s o hf a w hA Q hQ) ?_
    rintro _ a w24 _ ⟨rfl, hS65, hF⟩
    replace hS65 : St w0 w24 [Own.blk b1 (.cells #[vI 0, vI 0] 39 (0, 0))] := hS65
    refine hK9 [(4, pP b1 0)] w24 ?_ a hF
    refine ws fun K24 hK24 => ?_
    refine wr [(0, 0), (1, 2)] ?_
    refine gb0 [0] [(79, .agg #[vI 0, vI 0])] ?_
    refine gs b1 0 #[vI 0, vI 0] 39 [vI 0, vI 0] hS65 fun w25 hS66 => ?_
    have hS67 : St w0 w25 [Own.blk b1 (.cells #[vI 0, vI 0] 39 (0, 0))] := hS66
    refine gn hK24 ?_
    have hS68 := hS67.takeN 0
    obtain rfl := si h
    exact we_ret (pr [.cell 4 39] [.agg #[vI 0, vI 0]] [.loaded ⟨b1, 0, none⟩ (vI 0), .loaded ⟨b1, 1, none⟩ (vI 0)] ⟨hS67.c 0, hS67.c 0, trivial⟩ ⟨rfl, hS68⟩)
   ·rw [hq12] at h
    simp only [] at h
    refine we_iter (A := punctualref_CheckFrame.A1 w0 x0 l1 A1 c1 b1) (B := punctualref_CheckFrame.B1 w0 b1) hq12 (fun a hF => ⟨hS12, hF.weaken ea⟩) (fun s o hf a w hA Q hQ => punctualref_CheckFrame_r1 K w0 x0 l1 A1 c1 hR1 hL1 b1 hc3 s o hf a w hA Q hQ) ?_
    rintro _ a w1 _ ⟨rfl, hb⟩
    obtain rfl := si h
    exact hb
 ·rw [hq3] at h
  simp only [] at h
  refine we_keep (e' := [(0, vI x0), (1, .slice A1 l1.length c1), (4, pP b1 0)]) ea (punctualref_CheckFrame_p0 K w0 x0 l1 A1 c1 hR1 hL1 b1 _ hq3 _ hS1 _ ?_)
  rintro _ a w1 ⟨_, rfl, hb⟩
  obtain rfl := si h
  exact hb
end Go.Proofs.YtcogbnkioobmkaaDoor.GV
