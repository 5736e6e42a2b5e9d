/- Walks of single functions, written by a program of this work. -/
import Derived.Test.YtlipdmblinjjaaaDoorGWTasksComes2
namespace Go.Proofs.YtlipdmblinjjaaaDoor.GV
open Go Go.RowKit
set_option linter.unusedVariables false
set_option linter.unusedSimpArgs false
set_option maxRecDepth 100000

/-! punctual/punctualsame.Lend[punctual/api.Task] -/
abbrev punctualsame_Lend_api_Task.Post (w0 : World) (n : Nat) (r : List STask) (e : Ending) (w : World) : Prop := ∃ (A : Option Addr) (c : Nat), e = .returned (.slice A n c) ∧ r.length ≤ c ∧ St w0 w [Own.of (.slice A r.length c) 46 r]
def punctualsame_Lend_api_Task.f (l0 : List STask) (x1 : STask) : Option (List STask) :=
  if 0 ≤ (IntKind.i64.wrap ((l0.length : Int) + 3)) then
    if ((IntKind.i64.wrap ((l0.length : Int) + 3)).toNat) ≤ 2199023255552 then
      if (List.replicate 0 (⟨⟨#[]⟩, 0, 0, 0, 0, 0, 0⟩ : STask)).length + l0.length ≤ 2199023255552 then
        if ((List.replicate 0 (⟨⟨#[]⟩, 0, 0, 0, 0, 0, 0⟩ : STask)) ++ l0).length + 3 ≤ 2199023255552 then
          some (((List.replicate 0 (⟨⟨#[]⟩, 0, 0, 0, 0, 0, 0⟩ : STask)) ++ l0) ++ ([x1, x1, x1] : List STask))
        else
          none
      else
        none
    else
      none
  else
    none
theorem punctualsame_Lend_api_Task_ok (l0 : List STask) (A0 : Option Addr) (c0 : Nat) (x1 : STask) (w0 : World) (hR0 : RdL w0 A0 l0) (hL0 : l0.length ≤ c0) (r : List STask) (h : punctualsame_Lend_api_Task.f l0 x1 = some r) :
    Calls Tryd.prog 22 #[.slice A0 l0.length c0, .agg #[.string x1.Name, .int .i64 x1.C, .int .i64 x1.T, .int .i64 x1.D, .int .i64 x1.J, .int .i64 x1.O, .int .i64 x1.P]] w0 (punctualsame_Lend_api_Task.Post w0 l0.length r) := by
  have hS := St.start w0
  unfold punctualsame_Lend_api_Task.f at h
  refine calls_enter (n := 21) (args := [.slice A0 l0.length c0, .agg #[.string x1.Name, .int .i64 x1.C, .int .i64 x1.T, .int .i64 x1.D, .int .i64 x1.J, .int .i64 x1.O, .int .i64 x1.P]]) (fn := Tryd.f22) rfl rfl rfl rfl ?_
  show WE _ _ _ _ [(0, .slice A0 l0.length c0), (1, .agg #[.string x1.Name, .int .i64 x1.C, .int .i64 x1.T, .int .i64 x1.D, .int .i64 x1.J, .int .i64 x1.O, .int .i64 x1.P])] _
  refine we_seq fun K1 hK1 => ?_
  refine we_region [(0, 1), (1, 0)] rfl ?_
  refine ge_new (d := some 3) (o := .cells #[.string x1.Name, .int .i64 x1.C, .int .i64 x1.T, .int .i64 x1.D, .int .i64 x1.J, .int .i64 x1.O, .int .i64 x1.P] 46) (v := fun b => .pointer (some ⟨b, 0, none⟩)) hS (fun b => by kernel_rfl) fun b1 w1 hx1 hS1 => ?_
  refine ge_batch [1] (ans := []) (vs := [(4, .slice none 0 0)]) (l := []) (by kernel_rfl) trivial ?_
  refine ge_nil fun a hF => hK1 _ _ ?_ a hF
  refine we_seq fun K2 hK2 => ?_
  refine we_orders2 (by kernel_rfl) [(6, [⟨b1, 0, none⟩, ⟨b1, 1, none⟩, ⟨b1, 2, none⟩, ⟨b1, 3, none⟩, ⟨b1, 4, none⟩, ⟨b1, 5, none⟩, ⟨b1, 6, none⟩]), (7, [⟨b1, 0, none⟩, ⟨b1, 1, none⟩, ⟨b1, 2, none⟩, ⟨b1, 3, none⟩, ⟨b1, 4, none⟩, ⟨b1, 5, none⟩, ⟨b1, 6, none⟩]), (8, [⟨b1, 0, none⟩, ⟨b1, 1, none⟩, ⟨b1, 2, none⟩, ⟨b1, 3, none⟩, ⟨b1, 4, none⟩, ⟨b1, 5, none⟩, ⟨b1, 6, none⟩])] (.vals [0] (.vals [1] (.vals [2] (.vals [4] (.vals [6] (.vals [7] (.vals [8] (.alt 3 1 (.alt 5 2 (.alt 9 1 (.alt 10 2 (.vals [11] .fin) .nomore) .nomore) (.alt 9 1 (.alt 5 2 (.alt 10 2 (.vals [11] .fin) .nomore) .nomore) .nomore)) (.alt 9 1 (.alt 3 1 (.alt 5 2 (.alt 10 2 (.vals [11] .fin) .nomore) .nomore) .nomore) .nomore))))))))) (by kernel_rfl) ?_
  have hS2 := hS1.drew
  refine go2_batch [0, 1, 2, 4] (ans := []) (vs := [(10, .slice A0 l0.length c0), (8, .int .i64 (IntKind.i64.wrap ((l0.length : Int) + 3))), (7, .int .i64 (l0.length : Int)), (6, .slice A0 l0.length c0)]) (l := []) (by kernel_rfl) trivial mem_nil ?_
  refine go2_batch [6] (ans := [.val (.string x1.Name), .val (.int .i64 x1.C), .val (.int .i64 x1.T), .val (.int .i64 x1.D), .val (.int .i64 x1.J), .val (.int .i64 x1.O), .val (.int .i64 x1.P)]) (vs := [(12, .agg #[.string x1.Name, .int .i64 x1.C, .int .i64 x1.T, .int .i64 x1.D, .int .i64 x1.J, .int .i64 x1.O, .int .i64 x1.P])]) (l := [.loaded ⟨b1, 0, none⟩ (.string x1.Name), .loaded ⟨b1, 1, none⟩ (.int .i64 x1.C), .loaded ⟨b1, 2, none⟩ (.int .i64 x1.T), .loaded ⟨b1, 3, none⟩ (.int .i64 x1.D), .loaded ⟨b1, 4, none⟩ (.int .i64 x1.J), .loaded ⟨b1, 5, none⟩ (.int .i64 x1.O), .loaded ⟨b1, 6, none⟩ (.int .i64 x1.P)]) (by kernel_rfl) ⟨hS2.cell 0 rfl rfl, hS2.cell 0 rfl rfl, hS2.cell 0 rfl rfl, hS2.cell 0 rfl rfl, hS2.cell 0 rfl rfl, hS2.cell 0 rfl rfl, hS2.cell 0 rfl rfl, trivial⟩ (mem_one (by kernel_rfl)) ?_
  refine go2_batch [7] (ans := [.val (.string x1.Name), .val (.int .i64 x1.C), .val (.int .i64 x1.T), .val (.int .i64 x1.D), .val (.int .i64 x1.J), .val (.int .i64 x1.O), .val (.int .i64 x1.P)]) (vs := [(13, .agg #[.string x1.Name, .int .i64 x1.C, .int .i64 x1.T, .int .i64 x1.D, .int .i64 x1.J, .int .i64 x1.O, .int .i64 x1.P])]) (l := [.loaded ⟨b1, 0, none⟩ (.string x1.Name), .loaded ⟨b1, 1, none⟩ (.int .i64 x1.C), .loaded ⟨b1, 2, none⟩ (.int .i64 x1.T), .loaded ⟨b1, 3, none⟩ (.int .i64 x1.D), .loaded ⟨b1, 4, none⟩ (.int .i64 x1.J), .loaded ⟨b1, 5, none⟩ (.int .i64 x1.O), .loaded ⟨b1, 6, none⟩ (.int .i64 x1.P)]) (by kernel_rfl) ⟨hS2.cell 0 rfl rfl, hS2.cell 0 rfl rfl, hS2.cell 0 rfl rfl, hS2.cell 0 rfl rfl, hS2.cell 0 rfl rfl, hS2.cell 0 rfl rfl, hS2.cell 0 rfl rfl, trivial⟩ (mem_one (by kernel_rfl)) ?_
  refine go2_batch [8] (ans := [.val (.string x1.Name), .val (.int .i64 x1.C), .val (.int .i64 x1.T), .val (.int .i64 x1.D), .val (.int .i64 x1.J), .val (.int .i64 x1.O), .val (.int .i64 x1.P)]) (vs := [(14, .agg #[.string x1.Name, .int .i64 x1.C, .int .i64 x1.T, .int .i64 x1.D, .int .i64 x1.J, .int .i64 x1.O, .int .i64 x1.P])]) (l := [.loaded ⟨b1, 0, none⟩ (.string x1.Name), .loaded ⟨b1, 1, none⟩ (.int .i64 x1.C), .loaded ⟨b1, 2, none⟩ (.int .i64 x1.T), .loaded ⟨b1, 3, none⟩ (.int .i64 x1.D), .loaded ⟨b1, 4, none⟩ (.int .i64 x1.J), .loaded ⟨b1, 5, none⟩ (.int .i64 x1.O), .loaded ⟨b1, 6, none⟩ (.int .i64 x1.P)]) (by kernel_rfl) ⟨hS2.cell 0 rfl rfl, hS2.cell 0 rfl rfl, hS2.cell 0 rfl rfl, hS2.cell 0 rfl rfl, hS2.cell 0 rfl rfl, hS2.cell 0 rfl rfl, hS2.cell 0 rfl rfl, trivial⟩ (mem_one (by kernel_rfl)) ?_
  by_cases hc1 : 0 ≤ (IntKind.i64.wrap ((l0.length : Int) + 3))
  · rw [if_pos hc1] at h
    by_cases hc2 : ((IntKind.i64.wrap ((l0.length : Int) + 3)).toNat) ≤ 2199023255552
    · rw [if_pos hc2] at h
      refine go_alt2 (fun KK hKK => ?_) ?_
      · refine ge_one2 ?_
        refine ge_make (α := STask) (d := 9) (t := 40) (el := 46) (bytes := 64) (l := 0) (c := ((IntKind.i64.wrap ((l0.length : Int) + 3)).toNat)) (x := (.const (.int .i64 0))) (y := (.tmp 8)) (ty := 40) (k1 := .i64) (k2 := .i64) (li := 0) (ci := (IntKind.i64.wrap ((l0.length : Int) + 3))) (z := .agg #[.string (⟨#[]⟩), .int .i64 0, .int .i64 0, .int .i64 0, .int .i64 0, .int .i64 0, .int .i64 0]) (z' := (⟨⟨#[]⟩, 0, 0, 0, 0, 0, 0⟩ : STask)) (by kernel_rfl) (by kernel_rfl) (by kernel_rfl) rfl (Int.toNat_of_nonneg hc1).symm (by kernel_rfl) (by kernel_rfl) rfl hS2 (Nat.zero_le _) rfl (by omega) fun v1 w2 _ hS3 => ?_
        refine ge_nil fun a hF => hKK _ _ (RS.of2 (l := [.loaded ⟨b1, 0, none⟩ (.string x1.Name), .loaded ⟨b1, 1, none⟩ (.int .i64 x1.C), .loaded ⟨b1, 2, none⟩ (.int .i64 x1.T), .loaded ⟨b1, 3, none⟩ (.int .i64 x1.D), .loaded ⟨b1, 4, none⟩ (.int .i64 x1.J), .loaded ⟨b1, 5, none⟩ (.int .i64 x1.O), .loaded ⟨b1, 6, none⟩ (.int .i64 x1.P), .loaded ⟨b1, 0, none⟩ (.string x1.Name), .loaded ⟨b1, 1, none⟩ (.int .i64 x1.C), .loaded ⟨b1, 2, none⟩ (.int .i64 x1.T), .loaded ⟨b1, 3, none⟩ (.int .i64 x1.D), .loaded ⟨b1, 4, none⟩ (.int .i64 x1.J), .loaded ⟨b1, 5, none⟩ (.int .i64 x1.O), .loaded ⟨b1, 6, none⟩ (.int .i64 x1.P), .loaded ⟨b1, 0, none⟩ (.string x1.Name), .loaded ⟨b1, 1, none⟩ (.int .i64 x1.C), .loaded ⟨b1, 2, none⟩ (.int .i64 x1.T), .loaded ⟨b1, 3, none⟩ (.int .i64 x1.D), .loaded ⟨b1, 4, none⟩ (.int .i64 x1.J), .loaded ⟨b1, 5, none⟩ (.int .i64 x1.O), .loaded ⟨b1, 6, none⟩ (.int .i64 x1.P)]) (by kernel_rfl) ⟨hS2.cell 0 rfl rfl, hS2.cell 0 rfl rfl, hS2.cell 0 rfl rfl, hS2.cell 0 rfl rfl, hS2.cell 0 rfl rfl, hS2.cell 0 rfl rfl, hS2.cell 0 rfl rfl, hS2.cell 0 rfl rfl, hS2.cell 0 rfl rfl, hS2.cell 0 rfl rfl, hS2.cell 0 rfl rfl, hS2.cell 0 rfl rfl, hS2.cell 0 rfl rfl, hS2.cell 0 rfl rfl, hS2.cell 0 rfl rfl, hS2.cell 0 rfl rfl, hS2.cell 0 rfl rfl, hS2.cell 0 rfl rfl, hS2.cell 0 rfl rfl, hS2.cell 0 rfl rfl, hS2.cell 0 rfl rfl, trivial⟩ ⟨hS3.cell 1 rfl rfl, hS3.cell 1 rfl rfl, hS3.cell 1 rfl rfl, hS3.cell 1 rfl rfl, hS3.cell 1 rfl rfl, hS3.cell 1 rfl rfl, hS3.cell 1 rfl rfl, hS3.cell 1 rfl rfl, hS3.cell 1 rfl rfl, hS3.cell 1 rfl rfl, hS3.cell 1 rfl rfl, hS3.cell 1 rfl rfl, hS3.cell 1 rfl rfl, hS3.cell 1 rfl rfl, hS3.cell 1 rfl rfl, hS3.cell 1 rfl rfl, hS3.cell 1 rfl rfl, hS3.cell 1 rfl rfl, hS3.cell 1 rfl rfl, hS3.cell 1 rfl rfl, hS3.cell 1 rfl rfl, trivial⟩) ?_ a hF
        refine go_alt2 (fun KK hKK => ?_) ?_
        · by_cases hc3 : (List.replicate 0 (⟨⟨#[]⟩, 0, 0, 0, 0, 0, 0⟩ : STask)).length + l0.length ≤ 2199023255552
          · rw [if_pos hc3] at h
            refine ge_appendL (α := STask) (m := 0) (d := 11) (t := 40) (el := 46) (bytes := 64) (c1 := c0) (A1 := A0) (x := (.tmp 9)) (y := (.tmp 10)) (ty := 40) (v := v1) (z := .agg #[.string (⟨#[]⟩), .int .i64 0, .int .i64 0, .int .i64 0, .int .i64 0, .int .i64 0, .int .i64 0]) (l := (List.replicate 0 (⟨⟨#[]⟩, 0, 0, 0, 0, 0, 0⟩ : STask))) (us := l0) (by kernel_rfl) (by kernel_rfl) (by kernel_rfl) (by kernel_rfl) (by kernel_rfl) rfl hS3 (hS3.rd hR0) rfl (Nat.mul_le_of_le_div _ _ _ hc3) fun v2 w3 hS4 => ?_
            have hS5 : St w0 w3 [Own.of v2 46 ((List.replicate 0 (⟨⟨#[]⟩, 0, 0, 0, 0, 0, 0⟩ : STask)) ++ l0), Own.blk b1 (.cells #[.string x1.Name, .int .i64 x1.C, .int .i64 x1.T, .int .i64 x1.D, .int .i64 x1.J, .int .i64 x1.O, .int .i64 x1.P] 46 (0, 0))] := hS4
            refine ge_nil fun a hF => hKK _ _ (RS.of2 (l := [.loaded ⟨b1, 0, none⟩ (.string x1.Name), .loaded ⟨b1, 1, none⟩ (.int .i64 x1.C), .loaded ⟨b1, 2, none⟩ (.int .i64 x1.T), .loaded ⟨b1, 3, none⟩ (.int .i64 x1.D), .loaded ⟨b1, 4, none⟩ (.int .i64 x1.J), .loaded ⟨b1, 5, none⟩ (.int .i64 x1.O), .loaded ⟨b1, 6, none⟩ (.int .i64 x1.P), .loaded ⟨b1, 0, none⟩ (.string x1.Name), .loaded ⟨b1, 1, none⟩ (.int .i64 x1.C), .loaded ⟨b1, 2, none⟩ (.int .i64 x1.T), .loaded ⟨b1, 3, none⟩ (.int .i64 x1.D), .loaded ⟨b1, 4, none⟩ (.int .i64 x1.J), .loaded ⟨b1, 5, none⟩ (.int .i64 x1.O), .loaded ⟨b1, 6, none⟩ (.int .i64 x1.P), .loaded ⟨b1, 0, none⟩ (.string x1.Name), .loaded ⟨b1, 1, none⟩ (.int .i64 x1.C), .loaded ⟨b1, 2, none⟩ (.int .i64 x1.T), .loaded ⟨b1, 3, none⟩ (.int .i64 x1.D), .loaded ⟨b1, 4, none⟩ (.int .i64 x1.J), .loaded ⟨b1, 5, none⟩ (.int .i64 x1.O), .loaded ⟨b1, 6, none⟩ (.int .i64 x1.P)]) (by kernel_rfl) ⟨hS3.cell 1 rfl rfl, hS3.cell 1 rfl rfl, hS3.cell 1 rfl rfl, hS3.cell 1 rfl rfl, hS3.cell 1 rfl rfl, hS3.cell 1 rfl rfl, hS3.cell 1 rfl rfl, hS3.cell 1 rfl rfl, hS3.cell 1 rfl rfl, hS3.cell 1 rfl rfl, hS3.cell 1 rfl rfl, hS3.cell 1 rfl rfl, hS3.cell 1 rfl rfl, hS3.cell 1 rfl rfl, hS3.cell 1 rfl rfl, hS3.cell 1 rfl rfl, hS3.cell 1 rfl rfl, hS3.cell 1 rfl rfl, hS3.cell 1 rfl rfl, hS3.cell 1 rfl rfl, hS3.cell 1 rfl rfl, trivial⟩ ⟨hS5.cell 1 rfl rfl, hS5.cell 1 rfl rfl, hS5.cell 1 rfl rfl, hS5.cell 1 rfl rfl, hS5.cell 1 rfl rfl, hS5.cell 1 rfl rfl, hS5.cell 1 rfl rfl, hS5.cell 1 rfl rfl, hS5.cell 1 rfl rfl, hS5.cell 1 rfl rfl, hS5.cell 1 rfl rfl, hS5.cell 1 rfl rfl, hS5.cell 1 rfl rfl, hS5.cell 1 rfl rfl, hS5.cell 1 rfl rfl, hS5.cell 1 rfl rfl, hS5.cell 1 rfl rfl, hS5.cell 1 rfl rfl, hS5.cell 1 rfl rfl, hS5.cell 1 rfl rfl, hS5.cell 1 rfl rfl, trivial⟩) ?_ a hF
            refine go_alt2 (fun KK hKK => ?_) ?_
            · refine ge_one2 ?_
              refine ge_new (d := some 15) (o := .cells #[.string x1.Name, .int .i64 x1.C, .int .i64 x1.T, .int .i64 x1.D, .int .i64 x1.J, .int .i64 x1.O, .int .i64 x1.P, .string x1.Name, .int .i64 x1.C, .int .i64 x1.T, .int .i64 x1.D, .int .i64 x1.J, .int .i64 x1.O, .int .i64 x1.P, .string x1.Name, .int .i64 x1.C, .int .i64 x1.T, .int .i64 x1.D, .int .i64 x1.J, .int .i64 x1.O, .int .i64 x1.P] 46) (v := fun b => .slice (some ⟨b, 0, none⟩) 3 3) hS5 (fun b => by kernel_rfl) fun b2 w4 hx2 hS6 => ?_
              refine ge_nil fun a hF => hKK _ _ (RS.of2 (l := []) (by kernel_rfl) trivial trivial) ?_ a hF
              refine go_alt2 (fun KK hKK => ?_) ?_
              · have hS7 := hS6.bring 1 rfl
                by_cases hc4 : ((List.replicate 0 (⟨⟨#[]⟩, 0, 0, 0, 0, 0, 0⟩ : STask)) ++ l0).length + 3 ≤ 2199023255552
                · rw [if_pos hc4] at h
                  refine ge_appendL (α := STask) (m := 0) (d := 16) (t := 40) (el := 46) (bytes := 64) (c1 := 3) (A1 := (some ⟨b2, 0, none⟩)) (x := (.tmp 11)) (y := (.tmp 15)) (ty := 40) (v := v2) (z := .agg #[.string (⟨#[]⟩), .int .i64 0, .int .i64 0, .int .i64 0, .int .i64 0, .int .i64 0, .int .i64 0]) (l := ((List.replicate 0 (⟨⟨#[]⟩, 0, 0, 0, 0, 0, 0⟩ : STask)) ++ l0)) (us := ([x1, x1, x1] : List STask)) (by kernel_rfl) (by kernel_rfl) (by kernel_rfl) (by kernel_rfl) (by kernel_rfl) rfl hS7 (hS7.rdBlk 1 ([x1, x1, x1] : List STask) rfl rfl rfl) rfl (Nat.mul_le_of_le_div _ _ _ hc4) fun v3 w5 hS8 => ?_
                  have hS9 : St w0 w5 [Own.of v3 46 (((List.replicate 0 (⟨⟨#[]⟩, 0, 0, 0, 0, 0, 0⟩ : STask)) ++ l0) ++ ([x1, x1, x1] : List STask)), Own.blk b2 (.cells #[.string x1.Name, .int .i64 x1.C, .int .i64 x1.T, .int .i64 x1.D, .int .i64 x1.J, .int .i64 x1.O, .int .i64 x1.P, .string x1.Name, .int .i64 x1.C, .int .i64 x1.T, .int .i64 x1.D, .int .i64 x1.J, .int .i64 x1.O, .int .i64 x1.P, .string x1.Name, .int .i64 x1.C, .int .i64 x1.T, .int .i64 x1.D, .int .i64 x1.J, .int .i64 x1.O, .int .i64 x1.P] 46 (0, 0)), Own.blk b1 (.cells #[.string x1.Name, .int .i64 x1.C, .int .i64 x1.T, .int .i64 x1.D, .int .i64 x1.J, .int .i64 x1.O, .int .i64 x1.P] 46 (0, 0))] := hS8
                  refine ge_nil fun a hF => hKK _ _ (RS.of2 (l := [.loaded ⟨b1, 0, none⟩ (.string x1.Name), .loaded ⟨b1, 1, none⟩ (.int .i64 x1.C), .loaded ⟨b1, 2, none⟩ (.int .i64 x1.T), .loaded ⟨b1, 3, none⟩ (.int .i64 x1.D), .loaded ⟨b1, 4, none⟩ (.int .i64 x1.J), .loaded ⟨b1, 5, none⟩ (.int .i64 x1.O), .loaded ⟨b1, 6, none⟩ (.int .i64 x1.P), .loaded ⟨b1, 0, none⟩ (.string x1.Name), .loaded ⟨b1, 1, none⟩ (.int .i64 x1.C), .loaded ⟨b1, 2, none⟩ (.int .i64 x1.T), .loaded ⟨b1, 3, none⟩ (.int .i64 x1.D), .loaded ⟨b1, 4, none⟩ (.int .i64 x1.J), .loaded ⟨b1, 5, none⟩ (.int .i64 x1.O), .loaded ⟨b1, 6, none⟩ (.int .i64 x1.P), .loaded ⟨b1, 0, none⟩ (.string x1.Name), .loaded ⟨b1, 1, none⟩ (.int .i64 x1.C), .loaded ⟨b1, 2, none⟩ (.int .i64 x1.T), .loaded ⟨b1, 3, none⟩ (.int .i64 x1.D), .loaded ⟨b1, 4, none⟩ (.int .i64 x1.J), .loaded ⟨b1, 5, none⟩ (.int .i64 x1.O), .loaded ⟨b1, 6, none⟩ (.int .i64 x1.P)]) (by kernel_rfl) ⟨hS6.cell 2 rfl rfl, hS6.cell 2 rfl rfl, hS6.cell 2 rfl rfl, hS6.cell 2 rfl rfl, hS6.cell 2 rfl rfl, hS6.cell 2 rfl rfl, hS6.cell 2 rfl rfl, hS6.cell 2 rfl rfl, hS6.cell 2 rfl rfl, hS6.cell 2 rfl rfl, hS6.cell 2 rfl rfl, hS6.cell 2 rfl rfl, hS6.cell 2 rfl rfl, hS6.cell 2 rfl rfl, hS6.cell 2 rfl rfl, hS6.cell 2 rfl rfl, hS6.cell 2 rfl rfl, hS6.cell 2 rfl rfl, hS6.cell 2 rfl rfl, hS6.cell 2 rfl rfl, hS6.cell 2 rfl rfl, trivial⟩ ⟨hS9.cell 2 rfl rfl, hS9.cell 2 rfl rfl, hS9.cell 2 rfl rfl, hS9.cell 2 rfl rfl, hS9.cell 2 rfl rfl, hS9.cell 2 rfl rfl, hS9.cell 2 rfl rfl, hS9.cell 2 rfl rfl, hS9.cell 2 rfl rfl, hS9.cell 2 rfl rfl, hS9.cell 2 rfl rfl, hS9.cell 2 rfl rfl, hS9.cell 2 rfl rfl, hS9.cell 2 rfl rfl, hS9.cell 2 rfl rfl, hS9.cell 2 rfl rfl, hS9.cell 2 rfl rfl, hS9.cell 2 rfl rfl, hS9.cell 2 rfl rfl, hS9.cell 2 rfl rfl, hS9.cell 2 rfl rfl, trivial⟩) ?_ a hF
                  refine go2_batch [11] (ans := []) (vs := [(5, v3)]) (l := []) (by kernel_rfl) trivial mem_nil ?_
                  refine go_fin2 fun a hF => hK2 _ _ ?_ a hF
                  refine we_seq fun K3 hK3 => ?_
                  refine we_region [(0, 0), (1, 0), (2, 0), (3, 0), (4, 0)] rfl ?_
                  refine ge_batch [0, 1, 2] (ans := []) (vs := [(19, .int .i64 (l0.length : Int)), (18, .slice A0 l0.length c0), (17, v3)]) (l := []) (by kernel_rfl) trivial ?_
                  obtain ⟨Z1, cz1, rfl, hcp1⟩ := hS9.open2 0 rfl
                  refine ge_sliceHi (d := 20) (ty := 40) (t := 40) (el := 46) (sz := 7) (m := ((((List.replicate 0 (⟨⟨#[]⟩, 0, 0, 0, 0, 0, 0⟩ : STask)) ++ l0) ++ ([x1, x1, x1] : List STask)).length)) (c := cz1) (hn := l0.length) (x := (.tmp 17)) (y := (.tmp 19)) (A := Z1) (k' := .i64) (hi := (l0.length : Int)) (by kernel_rfl) (by kernel_rfl) (by kernel_rfl) rfl (by kernel_rfl) (by kernel_rfl) (by have h0 := hcp1; simp only [List.length_append, List.length_cons, List.length_nil] at h0; omega) ?_
                  refine ge_batch [4] (ans := []) (vs := [(4, .slice Z1 l0.length cz1)]) (l := []) (by kernel_rfl) trivial ?_
                  refine ge_nil fun a hF => hK3 _ _ ?_ a hF
                  have hS10 := hS9.takeN 1
                  obtain rfl := Option.some.inj h
                  exact we_ret (post_ret (rs := [.tmp 4]) (ans := []) (vs := [.slice Z1 l0.length cz1]) (l := []) rfl (by kernel_rfl) trivial ⟨Z1, cz1, rfl, hcp1, hS10⟩)
                · rw [if_neg hc4] at h
                  cases h
              exact go_nomore2
            exact go_nomore2
          · rw [if_neg hc3] at h
            cases h
        refine go_alt2 (fun KK hKK => ?_) ?_
        · refine ge_one2 ?_
          refine ge_new (d := some 15) (o := .cells #[.string x1.Name, .int .i64 x1.C, .int .i64 x1.T, .int .i64 x1.D, .int .i64 x1.J, .int .i64 x1.O, .int .i64 x1.P, .string x1.Name, .int .i64 x1.C, .int .i64 x1.T, .int .i64 x1.D, .int .i64 x1.J, .int .i64 x1.O, .int .i64 x1.P, .string x1.Name, .int .i64 x1.C, .int .i64 x1.T, .int .i64 x1.D, .int .i64 x1.J, .int .i64 x1.O, .int .i64 x1.P] 46) (v := fun b => .slice (some ⟨b, 0, none⟩) 3 3) hS3 (fun b => by kernel_rfl) fun b2 w3 hx2 hS4 => ?_
          refine ge_nil fun a hF => hKK _ _ (RS.of2 (l := []) (by kernel_rfl) trivial trivial) ?_ a hF
          refine go_alt2 (fun KK hKK => ?_) ?_
          · have hS5 := hS4.bring 1 rfl
            by_cases hc3 : (List.replicate 0 (⟨⟨#[]⟩, 0, 0, 0, 0, 0, 0⟩ : STask)).length + l0.length ≤ 2199023255552
            · rw [if_pos hc3] at h
              refine ge_appendL (α := STask) (m := 0) (d := 11) (t := 40) (el := 46) (bytes := 64) (c1 := c0) (A1 := A0) (x := (.tmp 9)) (y := (.tmp 10)) (ty := 40) (v := v1) (z := .agg #[.string (⟨#[]⟩), .int .i64 0, .int .i64 0, .int .i64 0, .int .i64 0, .int .i64 0, .int .i64 0]) (l := (List.replicate 0 (⟨⟨#[]⟩, 0, 0, 0, 0, 0, 0⟩ : STask))) (us := l0) (by kernel_rfl) (by kernel_rfl) (by kernel_rfl) (by kernel_rfl) (by kernel_rfl) rfl hS5 (hS5.rd hR0) rfl (Nat.mul_le_of_le_div _ _ _ hc3) fun v2 w4 hS6 => ?_
              have hS7 : St w0 w4 [Own.of v2 46 ((List.replicate 0 (⟨⟨#[]⟩, 0, 0, 0, 0, 0, 0⟩ : STask)) ++ l0), Own.blk b2 (.cells #[.string x1.Name, .int .i64 x1.C, .int .i64 x1.T, .int .i64 x1.D, .int .i64 x1.J, .int .i64 x1.O, .int .i64 x1.P, .string x1.Name, .int .i64 x1.C, .int .i64 x1.T, .int .i64 x1.D, .int .i64 x1.J, .int .i64 x1.O, .int .i64 x1.P, .string x1.Name, .int .i64 x1.C, .int .i64 x1.T, .int .i64 x1.D, .int .i64 x1.J, .int .i64 x1.O, .int .i64 x1.P] 46 (0, 0)), Own.blk b1 (.cells #[.string x1.Name, .int .i64 x1.C, .int .i64 x1.T, .int .i64 x1.D, .int .i64 x1.J, .int .i64 x1.O, .int .i64 x1.P] 46 (0, 0))] := hS6
              refine ge_nil fun a hF => hKK _ _ (RS.of2 (l := [.loaded ⟨b1, 0, none⟩ (.string x1.Name), .loaded ⟨b1, 1, none⟩ (.int .i64 x1.C), .loaded ⟨b1, 2, none⟩ (.int .i64 x1.T), .loaded ⟨b1, 3, none⟩ (.int .i64 x1.D), .loaded ⟨b1, 4, none⟩ (.int .i64 x1.J), .loaded ⟨b1, 5, none⟩ (.int .i64 x1.O), .loaded ⟨b1, 6, none⟩ (.int .i64 x1.P), .loaded ⟨b1, 0, none⟩ (.string x1.Name), .loaded ⟨b1, 1, none⟩ (.int .i64 x1.C), .loaded ⟨b1, 2, none⟩ (.int .i64 x1.T), .loaded ⟨b1, 3, none⟩ (.int .i64 x1.D), .loaded ⟨b1, 4, none⟩ (.int .i64 x1.J), .loaded ⟨b1, 5, none⟩ (.int .i64 x1.O), .loaded ⟨b1, 6, none⟩ (.int .i64 x1.P), .loaded ⟨b1, 0, none⟩ (.string x1.Name), .loaded ⟨b1, 1, none⟩ (.int .i64 x1.C), .loaded ⟨b1, 2, none⟩ (.int .i64 x1.T), .loaded ⟨b1, 3, none⟩ (.int .i64 x1.D), .loaded ⟨b1, 4, none⟩ (.int .i64 x1.J), .loaded ⟨b1, 5, none⟩ (.int .i64 x1.O), .loaded ⟨b1, 6, none⟩ (.int .i64 x1.P)]) (by kernel_rfl) ⟨hS4.cell 2 rfl rfl, hS4.cell 2 rfl rfl, hS4.cell 2 rfl rfl, hS4.cell 2 rfl rfl, hS4.cell 2 rfl rfl, hS4.cell 2 rfl rfl, hS4.cell 2 rfl rfl, hS4.cell 2 rfl rfl, hS4.cell 2 rfl rfl, hS4.cell 2 rfl rfl, hS4.cell 2 rfl rfl, hS4.cell 2 rfl rfl, hS4.cell 2 rfl rfl, hS4.cell 2 rfl rfl, hS4.cell 2 rfl rfl, hS4.cell 2 rfl rfl, hS4.cell 2 rfl rfl, hS4.cell 2 rfl rfl, hS4.cell 2 rfl rfl, hS4.cell 2 rfl rfl, hS4.cell 2 rfl rfl, trivial⟩ ⟨hS7.cell 2 rfl rfl, hS7.cell 2 rfl rfl, hS7.cell 2 rfl rfl, hS7.cell 2 rfl rfl, hS7.cell 2 rfl rfl, hS7.cell 2 rfl rfl, hS7.cell 2 rfl rfl, hS7.cell 2 rfl rfl, hS7.cell 2 rfl rfl, hS7.cell 2 rfl rfl, hS7.cell 2 rfl rfl, hS7.cell 2 rfl rfl, hS7.cell 2 rfl rfl, hS7.cell 2 rfl rfl, hS7.cell 2 rfl rfl, hS7.cell 2 rfl rfl, hS7.cell 2 rfl rfl, hS7.cell 2 rfl rfl, hS7.cell 2 rfl rfl, hS7.cell 2 rfl rfl, hS7.cell 2 rfl rfl, trivial⟩) ?_ a hF
              refine go_alt2 (fun KK hKK => ?_) ?_
              · by_cases hc4 : ((List.replicate 0 (⟨⟨#[]⟩, 0, 0, 0, 0, 0, 0⟩ : STask)) ++ l0).length + 3 ≤ 2199023255552
                · rw [if_pos hc4] at h
                  refine ge_appendL (α := STask) (m := 0) (d := 16) (t := 40) (el := 46) (bytes := 64) (c1 := 3) (A1 := (some ⟨b2, 0, none⟩)) (x := (.tmp 11)) (y := (.tmp 15)) (ty := 40) (v := v2) (z := .agg #[.string (⟨#[]⟩), .int .i64 0, .int .i64 0, .int .i64 0, .int .i64 0, .int .i64 0, .int .i64 0]) (l := ((List.replicate 0 (⟨⟨#[]⟩, 0, 0, 0, 0, 0, 0⟩ : STask)) ++ l0)) (us := ([x1, x1, x1] : List STask)) (by kernel_rfl) (by kernel_rfl) (by kernel_rfl) (by kernel_rfl) (by kernel_rfl) rfl hS7 (hS7.rdBlk 1 ([x1, x1, x1] : List STask) rfl rfl rfl) rfl (Nat.mul_le_of_le_div _ _ _ hc4) fun v3 w5 hS8 => ?_
                  have hS9 : St w0 w5 [Own.of v3 46 (((List.replicate 0 (⟨⟨#[]⟩, 0, 0, 0, 0, 0, 0⟩ : STask)) ++ l0) ++ ([x1, x1, x1] : List STask)), Own.blk b2 (.cells #[.string x1.Name, .int .i64 x1.C, .int .i64 x1.T, .int .i64 x1.D, .int .i64 x1.J, .int .i64 x1.O, .int .i64 x1.P, .string x1.Name, .int .i64 x1.C, .int .i64 x1.T, .int .i64 x1.D, .int .i64 x1.J, .int .i64 x1.O, .int .i64 x1.P, .string x1.Name, .int .i64 x1.C, .int .i64 x1.T, .int .i64 x1.D, .int .i64 x1.J, .int .i64 x1.O, .int .i64 x1.P] 46 (0, 0)), Own.blk b1 (.cells #[.string x1.Name, .int .i64 x1.C, .int .i64 x1.T, .int .i64 x1.D, .int .i64 x1.J, .int .i64 x1.O, .int .i64 x1.P] 46 (0, 0))] := hS8
                  refine ge_nil fun a hF => hKK _ _ (RS.of2 (l := [.loaded ⟨b1, 0, none⟩ (.string x1.Name), .loaded ⟨b1, 1, none⟩ (.int .i64 x1.C), .loaded ⟨b1, 2, none⟩ (.int .i64 x1.T), .loaded ⟨b1, 3, none⟩ (.int .i64 x1.D), .loaded ⟨b1, 4, none⟩ (.int .i64 x1.J), .loaded ⟨b1, 5, none⟩ (.int .i64 x1.O), .loaded ⟨b1, 6, none⟩ (.int .i64 x1.P), .loaded ⟨b1, 0, none⟩ (.string x1.Name), .loaded ⟨b1, 1, none⟩ (.int .i64 x1.C), .loaded ⟨b1, 2, none⟩ (.int .i64 x1.T), .loaded ⟨b1, 3, none⟩ (.int .i64 x1.D), .loaded ⟨b1, 4, none⟩ (.int .i64 x1.J), .loaded ⟨b1, 5, none⟩ (.int .i64 x1.O), .loaded ⟨b1, 6, none⟩ (.int .i64 x1.P), .loaded ⟨b1, 0, none⟩ (.string x1.Name), .loaded ⟨b1, 1, none⟩ (.int .i64 x1.C), .loaded ⟨b1, 2, none⟩ (.int .i64 x1.T), .loaded ⟨b1, 3, none⟩ (.int .i64 x1.D), .loaded ⟨b1, 4, none⟩ (.int .i64 x1.J), .loaded ⟨b1, 5, none⟩ (.int .i64 x1.O), .loaded ⟨b1, 6, none⟩ (.int .i64 x1.P)]) (by kernel_rfl) ⟨hS7.cell 2 rfl rfl, hS7.cell 2 rfl rfl, hS7.cell 2 rfl rfl, hS7.cell 2 rfl rfl, hS7.cell 2 rfl rfl, hS7.cell 2 rfl rfl, hS7.cell 2 rfl rfl, hS7.cell 2 rfl rfl, hS7.cell 2 rfl rfl, hS7.cell 2 rfl rfl, hS7.cell 2 rfl rfl, hS7.cell 2 rfl rfl, hS7.cell 2 rfl rfl, hS7.cell 2 rfl rfl, hS7.cell 2 rfl rfl, hS7.cell 2 rfl rfl, hS7.cell 2 rfl rfl, hS7.cell 2 rfl rfl, hS7.cell 2 rfl rfl, hS7.cell 2 rfl rfl, hS7.cell 2 rfl rfl, trivial⟩ ⟨hS9.cell 2 rfl rfl, hS9.cell 2 rfl rfl, hS9.cell 2 rfl rfl, hS9.cell 2 rfl rfl, hS9.cell 2 rfl rfl, hS9.cell 2 rfl rfl, hS9.cell 2 rfl rfl, hS9.cell 2 rfl rfl, hS9.cell 2 rfl rfl, hS9.cell 2 rfl rfl, hS9.cell 2 rfl rfl, hS9.cell 2 rfl rfl, hS9.cell 2 rfl rfl, hS9.cell 2 rfl rfl, hS9.cell 2 rfl rfl, hS9.cell 2 rfl rfl, hS9.cell 2 rfl rfl, hS9.cell 2 rfl rfl, hS9.cell 2 rfl rfl, hS9.cell 2 rfl rfl, hS9.cell 2 rfl rfl, trivial⟩) ?_ a hF
                  refine go2_batch [11] (ans := []) (vs := [(5, v3)]) (l := []) (by kernel_rfl) trivial mem_nil ?_
                  refine go_fin2 fun a hF => hK2 _ _ ?_ a hF
                  refine we_seq fun K3 hK3 => ?_
                  refine we_region [(0, 0), (1, 0), (2, 0), (3, 0), (4, 0)] rfl ?_
                  refine ge_batch [0, 1, 2] (ans := []) (vs := [(19, .int .i64 (l0.length : Int)), (18, .slice A0 l0.length c0), (17, v3)]) (l := []) (by kernel_rfl) trivial ?_
                  obtain ⟨Z1, cz1, rfl, hcp1⟩ := hS9.open2 0 rfl
                  refine ge_sliceHi (d := 20) (ty := 40) (t := 40) (el := 46) (sz := 7) (m := ((((List.replicate 0 (⟨⟨#[]⟩, 0, 0, 0, 0, 0, 0⟩ : STask)) ++ l0) ++ ([x1, x1, x1] : List STask)).length)) (c := cz1) (hn := l0.length) (x := (.tmp 17)) (y := (.tmp 19)) (A := Z1) (k' := .i64) (hi := (l0.length : Int)) (by kernel_rfl) (by kernel_rfl) (by kernel_rfl) rfl (by kernel_rfl) (by kernel_rfl) (by have h0 := hcp1; simp only [List.length_append, List.length_cons, List.length_nil] at h0; omega) ?_
                  refine ge_batch [4] (ans := []) (vs := [(4, .slice Z1 l0.length cz1)]) (l := []) (by kernel_rfl) trivial ?_
                  refine ge_nil fun a hF => hK3 _ _ ?_ a hF
                  have hS10 := hS9.takeN 1
                  obtain rfl := Option.some.inj h
                  exact we_ret (post_ret (rs := [.tmp 4]) (ans := []) (vs := [.slice Z1 l0.length cz1]) (l := []) rfl (by kernel_rfl) trivial ⟨Z1, cz1, rfl, hcp1, hS10⟩)
                · rw [if_neg hc4] at h
                  cases h
              exact go_nomore2
            · rw [if_neg hc3] at h
              cases h
          exact go_nomore2
        exact go_nomore2
      refine go_alt2 (fun KK hKK => ?_) ?_
      · refine ge_one2 ?_
        refine ge_new (d := some 15) (o := .cells #[.string x1.Name, .int .i64 x1.C, .int .i64 x1.T, .int .i64 x1.D, .int .i64 x1.J, .int .i64 x1.O, .int .i64 x1.P, .string x1.Name, .int .i64 x1.C, .int .i64 x1.T, .int .i64 x1.D, .int .i64 x1.J, .int .i64 x1.O, .int .i64 x1.P, .string x1.Name, .int .i64 x1.C, .int .i64 x1.T, .int .i64 x1.D, .int .i64 x1.J, .int .i64 x1.O, .int .i64 x1.P] 46) (v := fun b => .slice (some ⟨b, 0, none⟩) 3 3) hS2 (fun b => by kernel_rfl) fun b2 w2 hx2 hS3 => ?_
        refine ge_nil fun a hF => hKK _ _ (RS.of2 (l := []) (by kernel_rfl) trivial trivial) ?_ a hF
        refine go_alt2 (fun KK hKK => ?_) ?_
        · refine ge_one2 ?_
          refine ge_make (α := STask) (d := 9) (t := 40) (el := 46) (bytes := 64) (l := 0) (c := ((IntKind.i64.wrap ((l0.length : Int) + 3)).toNat)) (x := (.const (.int .i64 0))) (y := (.tmp 8)) (ty := 40) (k1 := .i64) (k2 := .i64) (li := 0) (ci := (IntKind.i64.wrap ((l0.length : Int) + 3))) (z := .agg #[.string (⟨#[]⟩), .int .i64 0, .int .i64 0, .int .i64 0, .int .i64 0, .int .i64 0, .int .i64 0]) (z' := (⟨⟨#[]⟩, 0, 0, 0, 0, 0, 0⟩ : STask)) (by kernel_rfl) (by kernel_rfl) (by kernel_rfl) rfl (Int.toNat_of_nonneg hc1).symm (by kernel_rfl) (by kernel_rfl) rfl hS3 (Nat.zero_le _) rfl (by omega) fun v1 w3 _ hS4 => ?_
          refine ge_nil fun a hF => hKK _ _ (RS.of2 (l := [.loaded ⟨b1, 0, none⟩ (.string x1.Name), .loaded ⟨b1, 1, none⟩ (.int .i64 x1.C), .loaded ⟨b1, 2, none⟩ (.int .i64 x1.T), .loaded ⟨b1, 3, none⟩ (.int .i64 x1.D), .loaded ⟨b1, 4, none⟩ (.int .i64 x1.J), .loaded ⟨b1, 5, none⟩ (.int .i64 x1.O), .loaded ⟨b1, 6, none⟩ (.int .i64 x1.P), .loaded ⟨b1, 0, none⟩ (.string x1.Name), .loaded ⟨b1, 1, none⟩ (.int .i64 x1.C), .loaded ⟨b1, 2, none⟩ (.int .i64 x1.T), .loaded ⟨b1, 3, none⟩ (.int .i64 x1.D), .loaded ⟨b1, 4, none⟩ (.int .i64 x1.J), .loaded ⟨b1, 5, none⟩ (.int .i64 x1.O), .loaded ⟨b1, 6, none⟩ (.int .i64 x1.P), .loaded ⟨b1, 0, none⟩ (.string x1.Name), .loaded ⟨b1, 1, none⟩ (.int .i64 x1.C), .loaded ⟨b1, 2, none⟩ (.int .i64 x1.T), .loaded ⟨b1, 3, none⟩ (.int .i64 x1.D), .loaded ⟨b1, 4, none⟩ (.int .i64 x1.J), .loaded ⟨b1, 5, none⟩ (.int .i64 x1.O), .loaded ⟨b1, 6, none⟩ (.int .i64 x1.P)]) (by kernel_rfl) ⟨hS3.cell 1 rfl rfl, hS3.cell 1 rfl rfl, hS3.cell 1 rfl rfl, hS3.cell 1 rfl rfl, hS3.cell 1 rfl rfl, hS3.cell 1 rfl rfl, hS3.cell 1 rfl rfl, hS3.cell 1 rfl rfl, hS3.cell 1 rfl rfl, hS3.cell 1 rfl rfl, hS3.cell 1 rfl rfl, hS3.cell 1 rfl rfl, hS3.cell 1 rfl rfl, hS3.cell 1 rfl rfl, hS3.cell 1 rfl rfl, hS3.cell 1 rfl rfl, hS3.cell 1 rfl rfl, hS3.cell 1 rfl rfl, hS3.cell 1 rfl rfl, hS3.cell 1 rfl rfl, hS3.cell 1 rfl rfl, trivial⟩ ⟨hS4.cell 2 rfl rfl, hS4.cell 2 rfl rfl, hS4.cell 2 rfl rfl, hS4.cell 2 rfl rfl, hS4.cell 2 rfl rfl, hS4.cell 2 rfl rfl, hS4.cell 2 rfl rfl, hS4.cell 2 rfl rfl, hS4.cell 2 rfl rfl, hS4.cell 2 rfl rfl, hS4.cell 2 rfl rfl, hS4.cell 2 rfl rfl, hS4.cell 2 rfl rfl, hS4.cell 2 rfl rfl, hS4.cell 2 rfl rfl, hS4.cell 2 rfl rfl, hS4.cell 2 rfl rfl, hS4.cell 2 rfl rfl, hS4.cell 2 rfl rfl, hS4.cell 2 rfl rfl, hS4.cell 2 rfl rfl, trivial⟩) ?_ a hF
          refine go_alt2 (fun KK hKK => ?_) ?_
          · by_cases hc3 : (List.replicate 0 (⟨⟨#[]⟩, 0, 0, 0, 0, 0, 0⟩ : STask)).length + l0.length ≤ 2199023255552
            · rw [if_pos hc3] at h
              refine ge_appendL (α := STask) (m := 0) (d := 11) (t := 40) (el := 46) (bytes := 64) (c1 := c0) (A1 := A0) (x := (.tmp 9)) (y := (.tmp 10)) (ty := 40) (v := v1) (z := .agg #[.string (⟨#[]⟩), .int .i64 0, .int .i64 0, .int .i64 0, .int .i64 0, .int .i64 0, .int .i64 0]) (l := (List.replicate 0 (⟨⟨#[]⟩, 0, 0, 0, 0, 0, 0⟩ : STask))) (us := l0) (by kernel_rfl) (by kernel_rfl) (by kernel_rfl) (by kernel_rfl) (by kernel_rfl) rfl hS4 (hS4.rd hR0) rfl (Nat.mul_le_of_le_div _ _ _ hc3) fun v2 w4 hS5 => ?_
              have hS6 : St w0 w4 [Own.of v2 46 ((List.replicate 0 (⟨⟨#[]⟩, 0, 0, 0, 0, 0, 0⟩ : STask)) ++ l0), Own.blk b2 (.cells #[.string x1.Name, .int .i64 x1.C, .int .i64 x1.T, .int .i64 x1.D, .int .i64 x1.J, .int .i64 x1.O, .int .i64 x1.P, .string x1.Name, .int .i64 x1.C, .int .i64 x1.T, .int .i64 x1.D, .int .i64 x1.J, .int .i64 x1.O, .int .i64 x1.P, .string x1.Name, .int .i64 x1.C, .int .i64 x1.T, .int .i64 x1.D, .int .i64 x1.J, .int .i64 x1.O, .int .i64 x1.P] 46 (0, 0)), Own.blk b1 (.cells #[.string x1.Name, .int .i64 x1.C, .int .i64 x1.T, .int .i64 x1.D, .int .i64 x1.J, .int .i64 x1.O, .int .i64 x1.P] 46 (0, 0))] := hS5
              refine ge_nil fun a hF => hKK _ _ (RS.of2 (l := [.loaded ⟨b1, 0, none⟩ (.string x1.Name), .loaded ⟨b1, 1, none⟩ (.int .i64 x1.C), .loaded ⟨b1, 2, none⟩ (.int .i64 x1.T), .loaded ⟨b1, 3, none⟩ (.int .i64 x1.D), .loaded ⟨b1, 4, none⟩ (.int .i64 x1.J), .loaded ⟨b1, 5, none⟩ (.int .i64 x1.O), .loaded ⟨b1, 6, none⟩ (.int .i64 x1.P), .loaded ⟨b1, 0, none⟩ (.string x1.Name), .loaded ⟨b1, 1, none⟩ (.int .i64 x1.C), .loaded ⟨b1, 2, none⟩ (.int .i64 x1.T), .loaded ⟨b1, 3, none⟩ (.int .i64 x1.D), .loaded ⟨b1, 4, none⟩ (.int .i64 x1.J), .loaded ⟨b1, 5, none⟩ (.int .i64 x1.O), .loaded ⟨b1, 6, none⟩ (.int .i64 x1.P), .loaded ⟨b1, 0, none⟩ (.string x1.Name), .loaded ⟨b1, 1, none⟩ (.int .i64 x1.C), .loaded ⟨b1, 2, none⟩ (.int .i64 x1.T), .loaded ⟨b1, 3, none⟩ (.int .i64 x1.D), .loaded ⟨b1, 4, none⟩ (.int .i64 x1.J), .loaded ⟨b1, 5, none⟩ (.int .i64 x1.O), .loaded ⟨b1, 6, none⟩ (.int .i64 x1.P)]) (by kernel_rfl) ⟨hS4.cell 2 rfl rfl, hS4.cell 2 rfl rfl, hS4.cell 2 rfl rfl, hS4.cell 2 rfl rfl, hS4.cell 2 rfl rfl, hS4.cell 2 rfl rfl, hS4.cell 2 rfl rfl, hS4.cell 2 rfl rfl, hS4.cell 2 rfl rfl, hS4.cell 2 rfl rfl, hS4.cell 2 rfl rfl, hS4.cell 2 rfl rfl, hS4.cell 2 rfl rfl, hS4.cell 2 rfl rfl, hS4.cell 2 rfl rfl, hS4.cell 2 rfl rfl, hS4.cell 2 rfl rfl, hS4.cell 2 rfl rfl, hS4.cell 2 rfl rfl, hS4.cell 2 rfl rfl, hS4.cell 2 rfl rfl, trivial⟩ ⟨hS6.cell 2 rfl rfl, hS6.cell 2 rfl rfl, hS6.cell 2 rfl rfl, hS6.cell 2 rfl rfl, hS6.cell 2 rfl rfl, hS6.cell 2 rfl rfl, hS6.cell 2 rfl rfl, hS6.cell 2 rfl rfl, hS6.cell 2 rfl rfl, hS6.cell 2 rfl rfl, hS6.cell 2 rfl rfl, hS6.cell 2 rfl rfl, hS6.cell 2 rfl rfl, hS6.cell 2 rfl rfl, hS6.cell 2 rfl rfl, hS6.cell 2 rfl rfl, hS6.cell 2 rfl rfl, hS6.cell 2 rfl rfl, hS6.cell 2 rfl rfl, hS6.cell 2 rfl rfl, hS6.cell 2 rfl rfl, trivial⟩) ?_ a hF
              refine go_alt2 (fun KK hKK => ?_) ?_
              · by_cases hc4 : ((List.replicate 0 (⟨⟨#[]⟩, 0, 0, 0, 0, 0, 0⟩ : STask)) ++ l0).length + 3 ≤ 2199023255552
                · rw [if_pos hc4] at h
                  refine ge_appendL (α := STask) (m := 0) (d := 16) (t := 40) (el := 46) (bytes := 64) (c1 := 3) (A1 := (some ⟨b2, 0, none⟩)) (x := (.tmp 11)) (y := (.tmp 15)) (ty := 40) (v := v2) (z := .agg #[.string (⟨#[]⟩), .int .i64 0, .int .i64 0, .int .i64 0, .int .i64 0, .int .i64 0, .int .i64 0]) (l := ((List.replicate 0 (⟨⟨#[]⟩, 0, 0, 0, 0, 0, 0⟩ : STask)) ++ l0)) (us := ([x1, x1, x1] : List STask)) (by kernel_rfl) (by kernel_rfl) (by kernel_rfl) (by kernel_rfl) (by kernel_rfl) rfl hS6 (hS6.rdBlk 1 ([x1, x1, x1] : List STask) rfl rfl rfl) rfl (Nat.mul_le_of_le_div _ _ _ hc4) fun v3 w5 hS7 => ?_
                  have hS8 : St w0 w5 [Own.of v3 46 (((List.replicate 0 (⟨⟨#[]⟩, 0, 0, 0, 0, 0, 0⟩ : STask)) ++ l0) ++ ([x1, x1, x1] : List STask)), Own.blk b2 (.cells #[.string x1.Name, .int .i64 x1.C, .int .i64 x1.T, .int .i64 x1.D, .int .i64 x1.J, .int .i64 x1.O, .int .i64 x1.P, .string x1.Name, .int .i64 x1.C, .int .i64 x1.T, .int .i64 x1.D, .int .i64 x1.J, .int .i64 x1.O, .int .i64 x1.P, .string x1.Name, .int .i64 x1.C, .int .i64 x1.T, .int .i64 x1.D, .int .i64 x1.J, .int .i64 x1.O, .int .i64 x1.P] 46 (0, 0)), Own.blk b1 (.cells #[.string x1.Name, .int .i64 x1.C, .int .i64 x1.T, .int .i64 x1.D, .int .i64 x1.J, .int .i64 x1.O, .int .i64 x1.P] 46 (0, 0))] := hS7
                  refine ge_nil fun a hF => hKK _ _ (RS.of2 (l := [.loaded ⟨b1, 0, none⟩ (.string x1.Name), .loaded ⟨b1, 1, none⟩ (.int .i64 x1.C), .loaded ⟨b1, 2, none⟩ (.int .i64 x1.T), .loaded ⟨b1, 3, none⟩ (.int .i64 x1.D), .loaded ⟨b1, 4, none⟩ (.int .i64 x1.J), .loaded ⟨b1, 5, none⟩ (.int .i64 x1.O), .loaded ⟨b1, 6, none⟩ (.int .i64 x1.P), .loaded ⟨b1, 0, none⟩ (.string x1.Name), .loaded ⟨b1, 1, none⟩ (.int .i64 x1.C), .loaded ⟨b1, 2, none⟩ (.int .i64 x1.T), .loaded ⟨b1, 3, none⟩ (.int .i64 x1.D), .loaded ⟨b1, 4, none⟩ (.int .i64 x1.J), .loaded ⟨b1, 5, none⟩ (.int .i64 x1.O), .loaded ⟨b1, 6, none⟩ (.int .i64 x1.P), .loaded ⟨b1, 0, none⟩ (.string x1.Name), .loaded ⟨b1, 1, none⟩ (.int .i64 x1.C), .loaded ⟨b1, 2, none⟩ (.int .i64 x1.T), .loaded ⟨b1, 3, none⟩ (.int .i64 x1.D), .loaded ⟨b1, 4, none⟩ (.int .i64 x1.J), .loaded ⟨b1, 5, none⟩ (.int .i64 x1.O), .loaded ⟨b1, 6, none⟩ (.int .i64 x1.P)]) (by kernel_rfl) ⟨hS6.cell 2 rfl rfl, hS6.cell 2 rfl rfl, hS6.cell 2 rfl rfl, hS6.cell 2 rfl rfl, hS6.cell 2 rfl rfl, hS6.cell 2 rfl rfl, hS6.cell 2 rfl rfl, hS6.cell 2 rfl rfl, hS6.cell 2 rfl rfl, hS6.cell 2 rfl rfl, hS6.cell 2 rfl rfl, hS6.cell 2 rfl rfl, hS6.cell 2 rfl rfl, hS6.cell 2 rfl rfl, hS6.cell 2 rfl rfl, hS6.cell 2 rfl rfl, hS6.cell 2 rfl rfl, hS6.cell 2 rfl rfl, hS6.cell 2 rfl rfl, hS6.cell 2 rfl rfl, hS6.cell 2 rfl rfl, trivial⟩ ⟨hS8.cell 2 rfl rfl, hS8.cell 2 rfl rfl, hS8.cell 2 rfl rfl, hS8.cell 2 rfl rfl, hS8.cell 2 rfl rfl, hS8.cell 2 rfl rfl, hS8.cell 2 rfl rfl, hS8.cell 2 rfl rfl, hS8.cell 2 rfl rfl, hS8.cell 2 rfl rfl, hS8.cell 2 rfl rfl, hS8.cell 2 rfl rfl, hS8.cell 2 rfl rfl, hS8.cell 2 rfl rfl, hS8.cell 2 rfl rfl, hS8.cell 2 rfl rfl, hS8.cell 2 rfl rfl, hS8.cell 2 rfl rfl, hS8.cell 2 rfl rfl, hS8.cell 2 rfl rfl, hS8.cell 2 rfl rfl, trivial⟩) ?_ a hF
                  refine go2_batch [11] (ans := []) (vs := [(5, v3)]) (l := []) (by kernel_rfl) trivial mem_nil ?_
                  refine go_fin2 fun a hF => hK2 _ _ ?_ a hF
                  refine we_seq fun K3 hK3 => ?_
                  refine we_region [(0, 0), (1, 0), (2, 0), (3, 0), (4, 0)] rfl ?_
                  refine ge_batch [0, 1, 2] (ans := []) (vs := [(19, .int .i64 (l0.length : Int)), (18, .slice A0 l0.length c0), (17, v3)]) (l := []) (by kernel_rfl) trivial ?_
                  obtain ⟨Z1, cz1, rfl, hcp1⟩ := hS8.open2 0 rfl
                  refine ge_sliceHi (d := 20) (ty := 40) (t := 40) (el := 46) (sz := 7) (m := ((((List.replicate 0 (⟨⟨#[]⟩, 0, 0, 0, 0, 0, 0⟩ : STask)) ++ l0) ++ ([x1, x1, x1] : List STask)).length)) (c := cz1) (hn := l0.length) (x := (.tmp 17)) (y := (.tmp 19)) (A := Z1) (k' := .i64) (hi := (l0.length : Int)) (by kernel_rfl) (by kernel_rfl) (by kernel_rfl) rfl (by kernel_rfl) (by kernel_rfl) (by have h0 := hcp1; simp only [List.length_append, List.length_cons, List.length_nil] at h0; omega) ?_
                  refine ge_batch [4] (ans := []) (vs := [(4, .slice Z1 l0.length cz1)]) (l := []) (by kernel_rfl) trivial ?_
                  refine ge_nil fun a hF => hK3 _ _ ?_ a hF
                  have hS9 := hS8.takeN 1
                  obtain rfl := Option.some.inj h
                  exact we_ret (post_ret (rs := [.tmp 4]) (ans := []) (vs := [.slice Z1 l0.length cz1]) (l := []) rfl (by kernel_rfl) trivial ⟨Z1, cz1, rfl, hcp1, hS9⟩)
                · rw [if_neg hc4] at h
                  cases h
              exact go_nomore2
            · rw [if_neg hc3] at h
              cases h
          exact go_nomore2
        exact go_nomore2
      exact go_nomore2
    · rw [if_neg hc2] at h
      cases h
  · rw [if_neg hc1] at h
    cases h
theorem punctualsame_Lend_api_Task_full (l0 : List STask) (x1 : STask) {r : List STask} (h : punctualsame_Lend_api_Task.f l0 x1 = some r) : r = l0 ++ [x1, x1, x1] := by
  unfold punctualsame_Lend_api_Task.f at h
  repeat' split at h
  all_goals first | (exact (Option.some.inj h).symm) | cases h

/-! punctual/punctualsame.Lend[punctual/api.Come] -/
abbrev punctualsame_Lend_api_Come.Post (w0 : World) (n : Nat) (r : List SCome) (e : Ending) (w : World) : Prop := ∃ (A : Option Addr) (c : Nat), e = .returned (.slice A n c) ∧ r.length ≤ c ∧ St w0 w [Own.of (.slice A r.length c) 53 r]
def punctualsame_Lend_api_Come.f (l0 : List SCome) (x1 : SCome) : Option (List SCome) :=
  if 0 ≤ (IntKind.i64.wrap ((l0.length : Int) + 3)) then
    if ((IntKind.i64.wrap ((l0.length : Int) + 3)).toNat) ≤ 8796093022208 then
      if (List.replicate 0 (⟨0, 0⟩ : SCome)).length + l0.length ≤ 8796093022208 then
        if ((List.replicate 0 (⟨0, 0⟩ : SCome)) ++ l0).length + 3 ≤ 8796093022208 then
          some (((List.replicate 0 (⟨0, 0⟩ : SCome)) ++ l0) ++ ([x1, x1, x1] : List SCome))
        else
          none
      else
        none
    else
      none
  else
    none
theorem punctualsame_Lend_api_Come_ok (l0 : List SCome) (A0 : Option Addr) (c0 : Nat) (x1 : SCome) (w0 : World) (hR0 : RdL w0 A0 l0) (hL0 : l0.length ≤ c0) (r : List SCome) (h : punctualsame_Lend_api_Come.f l0 x1 = some r) :
    Calls Tryd.prog 28 #[.slice A0 l0.length c0, .agg #[.int .i64 x1.Task, .int .i64 x1.At]] w0 (punctualsame_Lend_api_Come.Post w0 l0.length r) := by
  have hS := St.start w0
  unfold punctualsame_Lend_api_Come.f at h
  refine calls_enter (n := 21) (args := [.slice A0 l0.length c0, .agg #[.int .i64 x1.Task, .int .i64 x1.At]]) (fn := Tryd.f28) rfl rfl rfl rfl ?_
  show WE _ _ _ _ [(0, .slice A0 l0.length c0), (1, .agg #[.int .i64 x1.Task, .int .i64 x1.At])] _
  refine we_seq fun K1 hK1 => ?_
  refine we_region [(0, 1), (1, 0)] rfl ?_
  refine ge_new (d := some 3) (o := .cells #[.int .i64 x1.Task, .int .i64 x1.At] 53) (v := fun b => .pointer (some ⟨b, 0, none⟩)) hS (fun b => by kernel_rfl) fun b1 w1 hx1 hS1 => ?_
  refine ge_batch [1] (ans := []) (vs := [(4, .slice none 0 0)]) (l := []) (by kernel_rfl) trivial ?_
  refine ge_nil fun a hF => hK1 _ _ ?_ a hF
  refine we_seq fun K2 hK2 => ?_
  refine we_orders2 (by kernel_rfl) [(6, [⟨b1, 0, none⟩, ⟨b1, 1, none⟩]), (7, [⟨b1, 0, none⟩, ⟨b1, 1, none⟩]), (8, [⟨b1, 0, none⟩, ⟨b1, 1, none⟩])] (.vals [0] (.vals [1] (.vals [2] (.vals [4] (.vals [6] (.vals [7] (.vals [8] (.alt 3 1 (.alt 5 2 (.alt 9 1 (.alt 10 2 (.vals [11] .fin) .nomore) .nomore) (.alt 9 1 (.alt 5 2 (.alt 10 2 (.vals [11] .fin) .nomore) .nomore) .nomore)) (.alt 9 1 (.alt 3 1 (.alt 5 2 (.alt 10 2 (.vals [11] .fin) .nomore) .nomore) .nomore) .nomore))))))))) (by kernel_rfl) ?_
  have hS2 := hS1.drew
  refine go2_batch [0, 1, 2, 4] (ans := []) (vs := [(10, .slice A0 l0.length c0), (8, .int .i64 (IntKind.i64.wrap ((l0.length : Int) + 3))), (7, .int .i64 (l0.length : Int)), (6, .slice A0 l0.length c0)]) (l := []) (by kernel_rfl) trivial mem_nil ?_
  refine go2_batch [6] (ans := [.val (.int .i64 x1.Task), .val (.int .i64 x1.At)]) (vs := [(12, .agg #[.int .i64 x1.Task, .int .i64 x1.At])]) (l := [.loaded ⟨b1, 0, none⟩ (.int .i64 x1.Task), .loaded ⟨b1, 1, none⟩ (.int .i64 x1.At)]) (by kernel_rfl) ⟨hS2.cell 0 rfl rfl, hS2.cell 0 rfl rfl, trivial⟩ (mem_one (by kernel_rfl)) ?_
  refine go2_batch [7] (ans := [.val (.int .i64 x1.Task), .val (.int .i64 x1.At)]) (vs := [(13, .agg #[.int .i64 x1.Task, .int .i64 x1.At])]) (l := [.loaded ⟨b1, 0, none⟩ (.int .i64 x1.Task), .loaded ⟨b1, 1, none⟩ (.int .i64 x1.At)]) (by kernel_rfl) ⟨hS2.cell 0 rfl rfl, hS2.cell 0 rfl rfl, trivial⟩ (mem_one (by kernel_rfl)) ?_
  refine go2_batch [8] (ans := [.val (.int .i64 x1.Task), .val (.int .i64 x1.At)]) (vs := [(14, .agg #[.int .i64 x1.Task, .int .i64 x1.At])]) (l := [.loaded ⟨b1, 0, none⟩ (.int .i64 x1.Task), .loaded ⟨b1, 1, none⟩ (.int .i64 x1.At)]) (by kernel_rfl) ⟨hS2.cell 0 rfl rfl, hS2.cell 0 rfl rfl, trivial⟩ (mem_one (by kernel_rfl)) ?_
  by_cases hc1 : 0 ≤ (IntKind.i64.wrap ((l0.length : Int) + 3))
  · rw [if_pos hc1] at h
    by_cases hc2 : ((IntKind.i64.wrap ((l0.length : Int) + 3)).toNat) ≤ 8796093022208
    · rw [if_pos hc2] at h
      refine go_alt2 (fun KK hKK => ?_) ?_
      · refine ge_one2 ?_
        refine ge_make (α := SCome) (d := 9) (t := 49) (el := 53) (bytes := 16) (l := 0) (c := ((IntKind.i64.wrap ((l0.length : Int) + 3)).toNat)) (x := (.const (.int .i64 0))) (y := (.tmp 8)) (ty := 49) (k1 := .i64) (k2 := .i64) (li := 0) (ci := (IntKind.i64.wrap ((l0.length : Int) + 3))) (z := .agg #[.int .i64 0, .int .i64 0]) (z' := (⟨0, 0⟩ : SCome)) (by kernel_rfl) (by kernel_rfl) (by kernel_rfl) rfl (Int.toNat_of_nonneg hc1).symm (by kernel_rfl) (by kernel_rfl) rfl hS2 (Nat.zero_le _) rfl (by omega) fun v1 w2 _ hS3 => ?_
        refine ge_nil fun a hF => hKK _ _ (RS.of2 (l := [.loaded ⟨b1, 0, none⟩ (.int .i64 x1.Task), .loaded ⟨b1, 1, none⟩ (.int .i64 x1.At), .loaded ⟨b1, 0, none⟩ (.int .i64 x1.Task), .loaded ⟨b1, 1, none⟩ (.int .i64 x1.At), .loaded ⟨b1, 0, none⟩ (.int .i64 x1.Task), .loaded ⟨b1, 1, none⟩ (.int .i64 x1.At)]) (by kernel_rfl) ⟨hS2.cell 0 rfl rfl, hS2.cell 0 rfl rfl, hS2.cell 0 rfl rfl, hS2.cell 0 rfl rfl, hS2.cell 0 rfl rfl, hS2.cell 0 rfl rfl, trivial⟩ ⟨hS3.cell 1 rfl rfl, hS3.cell 1 rfl rfl, hS3.cell 1 rfl rfl, hS3.cell 1 rfl rfl, hS3.cell 1 rfl rfl, hS3.cell 1 rfl rfl, trivial⟩) ?_ a hF
        refine go_alt2 (fun KK hKK => ?_) ?_
        · by_cases hc3 : (List.replicate 0 (⟨0, 0⟩ : SCome)).length + l0.length ≤ 8796093022208
          · rw [if_pos hc3] at h
            refine ge_appendL (α := SCome) (m := 0) (d := 11) (t := 49) (el := 53) (bytes := 16) (c1 := c0) (A1 := A0) (x := (.tmp 9)) (y := (.tmp 10)) (ty := 49) (v := v1) (z := .agg #[.int .i64 0, .int .i64 0]) (l := (List.replicate 0 (⟨0, 0⟩ : SCome))) (us := l0) (by kernel_rfl) (by kernel_rfl) (by kernel_rfl) (by kernel_rfl) (by kernel_rfl) rfl hS3 (hS3.rd hR0) rfl (Nat.mul_le_of_le_div _ _ _ hc3) fun v2 w3 hS4 => ?_
            have hS5 : St w0 w3 [Own.of v2 53 ((List.replicate 0 (⟨0, 0⟩ : SCome)) ++ l0), Own.blk b1 (.cells #[.int .i64 x1.Task, .int .i64 x1.At] 53 (0, 0))] := hS4
            refine ge_nil fun a hF => hKK _ _ (RS.of2 (l := [.loaded ⟨b1, 0, none⟩ (.int .i64 x1.Task), .loaded ⟨b1, 1, none⟩ (.int .i64 x1.At), .loaded ⟨b1, 0, none⟩ (.int .i64 x1.Task), .loaded ⟨b1, 1, none⟩ (.int .i64 x1.At), .loaded ⟨b1, 0, none⟩ (.int .i64 x1.Task), .loaded ⟨b1, 1, none⟩ (.int .i64 x1.At)]) (by kernel_rfl) ⟨hS3.cell 1 rfl rfl, hS3.cell 1 rfl rfl, hS3.cell 1 rfl rfl, hS3.cell 1 rfl rfl, hS3.cell 1 rfl rfl, hS3.cell 1 rfl rfl, trivial⟩ ⟨hS5.cell 1 rfl rfl, hS5.cell 1 rfl rfl, hS5.cell 1 rfl rfl, hS5.cell 1 rfl rfl, hS5.cell 1 rfl rfl, hS5.cell 1 rfl rfl, trivial⟩) ?_ a hF
            refine go_alt2 (fun KK hKK => ?_) ?_
            · refine ge_one2 ?_
              refine ge_new (d := some 15) (o := .cells #[.int .i64 x1.Task, .int .i64 x1.At, .int .i64 x1.Task, .int .i64 x1.At, .int .i64 x1.Task, .int .i64 x1.At] 53) (v := fun b => .slice (some ⟨b, 0, none⟩) 3 3) hS5 (fun b => by kernel_rfl) fun b2 w4 hx2 hS6 => ?_
              refine ge_nil fun a hF => hKK _ _ (RS.of2 (l := []) (by kernel_rfl) trivial trivial) ?_ a hF
              refine go_alt2 (fun KK hKK => ?_) ?_
              · have hS7 := hS6.bring 1 rfl
                by_cases hc4 : ((List.replicate 0 (⟨0, 0⟩ : SCome)) ++ l0).length + 3 ≤ 8796093022208
                · rw [if_pos hc4] at h
                  refine ge_appendL (α := SCome) (m := 0) (d := 16) (t := 49) (el := 53) (bytes := 16) (c1 := 3) (A1 := (some ⟨b2, 0, none⟩)) (x := (.tmp 11)) (y := (.tmp 15)) (ty := 49) (v := v2) (z := .agg #[.int .i64 0, .int .i64 0]) (l := ((List.replicate 0 (⟨0, 0⟩ : SCome)) ++ l0)) (us := ([x1, x1, x1] : List SCome)) (by kernel_rfl) (by kernel_rfl) (by kernel_rfl) (by kernel_rfl) (by kernel_rfl) rfl hS7 (hS7.rdBlk 1 ([x1, x1, x1] : List SCome) rfl rfl rfl) rfl (Nat.mul_le_of_le_div _ _ _ hc4) fun v3 w5 hS8 => ?_
                  have hS9 : St w0 w5 [Own.of v3 53 (((List.replicate 0 (⟨0, 0⟩ : SCome)) ++ l0) ++ ([x1, x1, x1] : List SCome)), Own.blk b2 (.cells #[.int .i64 x1.Task, .int .i64 x1.At, .int .i64 x1.Task, .int .i64 x1.At, .int .i64 x1.Task, .int .i64 x1.At] 53 (0, 0)), Own.blk b1 (.cells #[.int .i64 x1.Task, .int .i64 x1.At] 53 (0, 0))] := hS8
                  refine ge_nil fun a hF => hKK _ _ (RS.of2 (l := [.loaded ⟨b1, 0, none⟩ (.int .i64 x1.Task), .loaded ⟨b1, 1, none⟩ (.int .i64 x1.At), .loaded ⟨b1, 0, none⟩ (.int .i64 x1.Task), .loaded ⟨b1, 1, none⟩ (.int .i64 x1.At), .loaded ⟨b1, 0, none⟩ (.int .i64 x1.Task), .loaded ⟨b1, 1, none⟩ (.int .i64 x1.At)]) (by kernel_rfl) ⟨hS6.cell 2 rfl rfl, hS6.cell 2 rfl rfl, hS6.cell 2 rfl rfl, hS6.cell 2 rfl rfl, hS6.cell 2 rfl rfl, hS6.cell 2 rfl rfl, trivial⟩ ⟨hS9.cell 2 rfl rfl, hS9.cell 2 rfl rfl, hS9.cell 2 rfl rfl, hS9.cell 2 rfl rfl, hS9.cell 2 rfl rfl, hS9.cell 2 rfl rfl, trivial⟩) ?_ a hF
                  refine go2_batch [11] (ans := []) (vs := [(5, v3)]) (l := []) (by kernel_rfl) trivial mem_nil ?_
                  refine go_fin2 fun a hF => hK2 _ _ ?_ a hF
                  refine we_seq fun K3 hK3 => ?_
                  refine we_region [(0, 0), (1, 0), (2, 0), (3, 0), (4, 0)] rfl ?_
                  refine ge_batch [0, 1, 2] (ans := []) (vs := [(19, .int .i64 (l0.length : Int)), (18, .slice A0 l0.length c0), (17, v3)]) (l := []) (by kernel_rfl) trivial ?_
                  obtain ⟨Z1, cz1, rfl, hcp1⟩ := hS9.open2 0 rfl
                  refine ge_sliceHi (d := 20) (ty := 49) (t := 49) (el := 53) (sz := 2) (m := ((((List.replicate 0 (⟨0, 0⟩ : SCome)) ++ l0) ++ ([x1, x1, x1] : List SCome)).length)) (c := cz1) (hn := l0.length) (x := (.tmp 17)) (y := (.tmp 19)) (A := Z1) (k' := .i64) (hi := (l0.length : Int)) (by kernel_rfl) (by kernel_rfl) (by kernel_rfl) rfl (by kernel_rfl) (by kernel_rfl) (by have h0 := hcp1; simp only [List.length_append, List.length_cons, List.length_nil] at h0; omega) ?_
                  refine ge_batch [4] (ans := []) (vs := [(4, .slice Z1 l0.length cz1)]) (l := []) (by kernel_rfl) trivial ?_
                  refine ge_nil fun a hF => hK3 _ _ ?_ a hF
                  have hS10 := hS9.takeN 1
                  obtain rfl := Option.some.inj h
                  exact we_ret (post_ret (rs := [.tmp 4]) (ans := []) (vs := [.slice Z1 l0.length cz1]) (l := []) rfl (by kernel_rfl) trivial ⟨Z1, cz1, rfl, hcp1, hS10⟩)
                · rw [if_neg hc4] at h
                  cases h
              exact go_nomore2
            exact go_nomore2
          · rw [if_neg hc3] at h
            cases h
        refine go_alt2 (fun KK hKK => ?_) ?_
        · refine ge_one2 ?_
          refine ge_new (d := some 15) (o := .cells #[.int .i64 x1.Task, .int .i64 x1.At, .int .i64 x1.Task, .int .i64 x1.At, .int .i64 x1.Task, .int .i64 x1.At] 53) (v := fun b => .slice (some ⟨b, 0, none⟩) 3 3) hS3 (fun b => by kernel_rfl) fun b2 w3 hx2 hS4 => ?_
          refine ge_nil fun a hF => hKK _ _ (RS.of2 (l := []) (by kernel_rfl) trivial trivial) ?_ a hF
          refine go_alt2 (fun KK hKK => ?_) ?_
          · have hS5 := hS4.bring 1 rfl
            by_cases hc3 : (List.replicate 0 (⟨0, 0⟩ : SCome)).length + l0.length ≤ 8796093022208
            · rw [if_pos hc3] at h
              refine ge_appendL (α := SCome) (m := 0) (d := 11) (t := 49) (el := 53) (bytes := 16) (c1 := c0) (A1 := A0) (x := (.tmp 9)) (y := (.tmp 10)) (ty := 49) (v := v1) (z := .agg #[.int .i64 0, .int .i64 0]) (l := (List.replicate 0 (⟨0, 0⟩ : SCome))) (us := l0) (by kernel_rfl) (by kernel_rfl) (by kernel_rfl) (by kernel_rfl) (by kernel_rfl) rfl hS5 (hS5.rd hR0) rfl (Nat.mul_le_of_le_div _ _ _ hc3) fun v2 w4 hS6 => ?_
              have hS7 : St w0 w4 [Own.of v2 53 ((List.replicate 0 (⟨0, 0⟩ : SCome)) ++ l0), Own.blk b2 (.cells #[.int .i64 x1.Task, .int .i64 x1.At, .int .i64 x1.Task, .int .i64 x1.At, .int .i64 x1.Task, .int .i64 x1.At] 53 (0, 0)), Own.blk b1 (.cells #[.int .i64 x1.Task, .int .i64 x1.At] 53 (0, 0))] := hS6
              refine ge_nil fun a hF => hKK _ _ (RS.of2 (l := [.loaded ⟨b1, 0, none⟩ (.int .i64 x1.Task), .loaded ⟨b1, 1, none⟩ (.int .i64 x1.At), .loaded ⟨b1, 0, none⟩ (.int .i64 x1.Task), .loaded ⟨b1, 1, none⟩ (.int .i64 x1.At), .loaded ⟨b1, 0, none⟩ (.int .i64 x1.Task), .loaded ⟨b1, 1, none⟩ (.int .i64 x1.At)]) (by kernel_rfl) ⟨hS4.cell 2 rfl rfl, hS4.cell 2 rfl rfl, hS4.cell 2 rfl rfl, hS4.cell 2 rfl rfl, hS4.cell 2 rfl rfl, hS4.cell 2 rfl rfl, trivial⟩ ⟨hS7.cell 2 rfl rfl, hS7.cell 2 rfl rfl, hS7.cell 2 rfl rfl, hS7.cell 2 rfl rfl, hS7.cell 2 rfl rfl, hS7.cell 2 rfl rfl, trivial⟩) ?_ a hF
              refine go_alt2 (fun KK hKK => ?_) ?_
              · by_cases hc4 : ((List.replicate 0 (⟨0, 0⟩ : SCome)) ++ l0).length + 3 ≤ 8796093022208
                · rw [if_pos hc4] at h
                  refine ge_appendL (α := SCome) (m := 0) (d := 16) (t := 49) (el := 53) (bytes := 16) (c1 := 3) (A1 := (some ⟨b2, 0, none⟩)) (x := (.tmp 11)) (y := (.tmp 15)) (ty := 49) (v := v2) (z := .agg #[.int .i64 0, .int .i64 0]) (l := ((List.replicate 0 (⟨0, 0⟩ : SCome)) ++ l0)) (us := ([x1, x1, x1] : List SCome)) (by kernel_rfl) (by kernel_rfl) (by kernel_rfl) (by kernel_rfl) (by kernel_rfl) rfl hS7 (hS7.rdBlk 1 ([x1, x1, x1] : List SCome) rfl rfl rfl) rfl (Nat.mul_le_of_le_div _ _ _ hc4) fun v3 w5 hS8 => ?_
                  have hS9 : St w0 w5 [Own.of v3 53 (((List.replicate 0 (⟨0, 0⟩ : SCome)) ++ l0) ++ ([x1, x1, x1] : List SCome)), Own.blk b2 (.cells #[.int .i64 x1.Task, .int .i64 x1.At, .int .i64 x1.Task, .int .i64 x1.At, .int .i64 x1.Task, .int .i64 x1.At] 53 (0, 0)), Own.blk b1 (.cells #[.int .i64 x1.Task, .int .i64 x1.At] 53 (0, 0))] := hS8
                  refine ge_nil fun a hF => hKK _ _ (RS.of2 (l := [.loaded ⟨b1, 0, none⟩ (.int .i64 x1.Task), .loaded ⟨b1, 1, none⟩ (.int .i64 x1.At), .loaded ⟨b1, 0, none⟩ (.int .i64 x1.Task), .loaded ⟨b1, 1, none⟩ (.int .i64 x1.At), .loaded ⟨b1, 0, none⟩ (.int .i64 x1.Task), .loaded ⟨b1, 1, none⟩ (.int .i64 x1.At)]) (by kernel_rfl) ⟨hS7.cell 2 rfl rfl, hS7.cell 2 rfl rfl, hS7.cell 2 rfl rfl, hS7.cell 2 rfl rfl, hS7.cell 2 rfl rfl, hS7.cell 2 rfl rfl, trivial⟩ ⟨hS9.cell 2 rfl rfl, hS9.cell 2 rfl rfl, hS9.cell 2 rfl rfl, hS9.cell 2 rfl rfl, hS9.cell 2 rfl rfl, hS9.cell 2 rfl rfl, trivial⟩) ?_ a hF
                  refine go2_batch [11] (ans := []) (vs := [(5, v3)]) (l := []) (by kernel_rfl) trivial mem_nil ?_
                  refine go_fin2 fun a hF => hK2 _ _ ?_ a hF
                  refine we_seq fun K3 hK3 => ?_
                  refine we_region [(0, 0), (1, 0), (2, 0), (3, 0), (4, 0)] rfl ?_
                  refine ge_batch [0, 1, 2] (ans := []) (vs := [(19, .int .i64 (l0.length : Int)), (18, .slice A0 l0.length c0), (17, v3)]) (l := []) (by kernel_rfl) trivial ?_
                  obtain ⟨Z1, cz1, rfl, hcp1⟩ := hS9.open2 0 rfl
                  refine ge_sliceHi (d := 20) (ty := 49) (t := 49) (el := 53) (sz := 2) (m := ((((List.replicate 0 (⟨0, 0⟩ : SCome)) ++ l0) ++ ([x1, x1, x1] : List SCome)).length)) (c := cz1) (hn := l0.length) (x := (.tmp 17)) (y := (.tmp 19)) (A := Z1) (k' := .i64) (hi := (l0.length : Int)) (by kernel_rfl) (by kernel_rfl) (by kernel_rfl) rfl (by kernel_rfl) (by kernel_rfl) (by have h0 := hcp1; simp only [List.length_append, List.length_cons, List.length_nil] at h0; omega) ?_
                  refine ge_batch [4] (ans := []) (vs := [(4, .slice Z1 l0.length cz1)]) (l := []) (by kernel_rfl) trivial ?_
                  refine ge_nil fun a hF => hK3 _ _ ?_ a hF
                  have hS10 := hS9.takeN 1
                  obtain rfl := Option.some.inj h
                  exact we_ret (post_ret (rs := [.tmp 4]) (ans := []) (vs := [.slice Z1 l0.length cz1]) (l := []) rfl (by kernel_rfl) trivial ⟨Z1, cz1, rfl, hcp1, hS10⟩)
                · rw [if_neg hc4] at h
                  cases h
              exact go_nomore2
            · rw [if_neg hc3] at h
              cases h
          exact go_nomore2
        exact go_nomore2
      refine go_alt2 (fun KK hKK => ?_) ?_
      · refine ge_one2 ?_
        refine ge_new (d := some 15) (o := .cells #[.int .i64 x1.Task, .int .i64 x1.At, .int .i64 x1.Task, .int .i64 x1.At, .int .i64 x1.Task, .int .i64 x1.At] 53) (v := fun b => .slice (some ⟨b, 0, none⟩) 3 3) hS2 (fun b => by kernel_rfl) fun b2 w2 hx2 hS3 => ?_
        refine ge_nil fun a hF => hKK _ _ (RS.of2 (l := []) (by kernel_rfl) trivial trivial) ?_ a hF
        refine go_alt2 (fun KK hKK => ?_) ?_
        · refine ge_one2 ?_
          refine ge_make (α := SCome) (d := 9) (t := 49) (el := 53) (bytes := 16) (l := 0) (c := ((IntKind.i64.wrap ((l0.length : Int) + 3)).toNat)) (x := (.const (.int .i64 0))) (y := (.tmp 8)) (ty := 49) (k1 := .i64) (k2 := .i64) (li := 0) (ci := (IntKind.i64.wrap ((l0.length : Int) + 3))) (z := .agg #[.int .i64 0, .int .i64 0]) (z' := (⟨0, 0⟩ : SCome)) (by kernel_rfl) (by kernel_rfl) (by kernel_rfl) rfl (Int.toNat_of_nonneg hc1).symm (by kernel_rfl) (by kernel_rfl) rfl hS3 (Nat.zero_le _) rfl (by omega) fun v1 w3 _ hS4 => ?_
          refine ge_nil fun a hF => hKK _ _ (RS.of2 (l := [.loaded ⟨b1, 0, none⟩ (.int .i64 x1.Task), .loaded ⟨b1, 1, none⟩ (.int .i64 x1.At), .loaded ⟨b1, 0, none⟩ (.int .i64 x1.Task), .loaded ⟨b1, 1, none⟩ (.int .i64 x1.At), .loaded ⟨b1, 0, none⟩ (.int .i64 x1.Task), .loaded ⟨b1, 1, none⟩ (.int .i64 x1.At)]) (by kernel_rfl) ⟨hS3.cell 1 rfl rfl, hS3.cell 1 rfl rfl, hS3.cell 1 rfl rfl, hS3.cell 1 rfl rfl, hS3.cell 1 rfl rfl, hS3.cell 1 rfl rfl, trivial⟩ ⟨hS4.cell 2 rfl rfl, hS4.cell 2 rfl rfl, hS4.cell 2 rfl rfl, hS4.cell 2 rfl rfl, hS4.cell 2 rfl rfl, hS4.cell 2 rfl rfl, trivial⟩) ?_ a hF
          refine go_alt2 (fun KK hKK => ?_) ?_
          · by_cases hc3 : (List.replicate 0 (⟨0, 0⟩ : SCome)).length + l0.length ≤ 8796093022208
            · rw [if_pos hc3] at h
              refine ge_appendL (α := SCome) (m := 0) (d := 11) (t := 49) (el := 53) (bytes := 16) (c1 := c0) (A1 := A0) (x := (.tmp 9)) (y := (.tmp 10)) (ty := 49) (v := v1) (z := .agg #[.int .i64 0, .int .i64 0]) (l := (List.replicate 0 (⟨0, 0⟩ : SCome))) (us := l0) (by kernel_rfl) (by kernel_rfl) (by kernel_rfl) (by kernel_rfl) (by kernel_rfl) rfl hS4 (hS4.rd hR0) rfl (Nat.mul_le_of_le_div _ _ _ hc3) fun v2 w4 hS5 => ?_
              have hS6 : St w0 w4 [Own.of v2 53 ((List.replicate 0 (⟨0, 0⟩ : SCome)) ++ l0), Own.blk b2 (.cells #[.int .i64 x1.Task, .int .i64 x1.At, .int .i64 x1.Task, .int .i64 x1.At, .int .i64 x1.Task, .int .i64 x1.At] 53 (0, 0)), Own.blk b1 (.cells #[.int .i64 x1.Task, .int .i64 x1.At] 53 (0, 0))] := hS5
              refine ge_nil fun a hF => hKK _ _ (RS.of2 (l := [.loaded ⟨b1, 0, none⟩ (.int .i64 x1.Task), .loaded ⟨b1, 1, none⟩ (.int .i64 x1.At), .loaded ⟨b1, 0, none⟩ (.int .i64 x1.Task), .loaded ⟨b1, 1, none⟩ (.int .i64 x1.At), .loaded ⟨b1, 0, none⟩ (.int .i64 x1.Task), .loaded ⟨b1, 1, none⟩ (.int .i64 x1.At)]) (by kernel_rfl) ⟨hS4.cell 2 rfl rfl, hS4.cell 2 rfl rfl, hS4.cell 2 rfl rfl, hS4.cell 2 rfl rfl, hS4.cell 2 rfl rfl, hS4.cell 2 rfl rfl, trivial⟩ ⟨hS6.cell 2 rfl rfl, hS6.cell 2 rfl rfl, hS6.cell 2 rfl rfl, hS6.cell 2 rfl rfl, hS6.cell 2 rfl rfl, hS6.cell 2 rfl rfl, trivial⟩) ?_ a hF
              refine go_alt2 (fun KK hKK => ?_) ?_
              · by_cases hc4 : ((List.replicate 0 (⟨0, 0⟩ : SCome)) ++ l0).length + 3 ≤ 8796093022208
                · rw [if_pos hc4] at h
                  refine ge_appendL (α := SCome) (m := 0) (d := 16) (t := 49) (el := 53) (bytes := 16) (c1 := 3) (A1 := (some ⟨b2, 0, none⟩)) (x := (.tmp 11)) (y := (.tmp 15)) (ty := 49) (v := v2) (z := .agg #[.int .i64 0, .int .i64 0]) (l := ((List.replicate 0 (⟨0, 0⟩ : SCome)) ++ l0)) (us := ([x1, x1, x1] : List SCome)) (by kernel_rfl) (by kernel_rfl) (by kernel_rfl) (by kernel_rfl) (by kernel_rfl) rfl hS6 (hS6.rdBlk 1 ([x1, x1, x1] : List SCome) rfl rfl rfl) rfl (Nat.mul_le_of_le_div _ _ _ hc4) fun v3 w5 hS7 => ?_
                  have hS8 : St w0 w5 [Own.of v3 53 (((List.replicate 0 (⟨0, 0⟩ : SCome)) ++ l0) ++ ([x1, x1, x1] : List SCome)), Own.blk b2 (.cells #[.int .i64 x1.Task, .int .i64 x1.At, .int .i64 x1.Task, .int .i64 x1.At, .int .i64 x1.Task, .int .i64 x1.At] 53 (0, 0)), Own.blk b1 (.cells #[.int .i64 x1.Task, .int .i64 x1.At] 53 (0, 0))] := hS7
                  refine ge_nil fun a hF => hKK _ _ (RS.of2 (l := [.loaded ⟨b1, 0, none⟩ (.int .i64 x1.Task), .loaded ⟨b1, 1, none⟩ (.int .i64 x1.At), .loaded ⟨b1, 0, none⟩ (.int .i64 x1.Task), .loaded ⟨b1, 1, none⟩ (.int .i64 x1.At), .loaded ⟨b1, 0, none⟩ (.int .i64 x1.Task), .loaded ⟨b1, 1, none⟩ (.int .i64 x1.At)]) (by kernel_rfl) ⟨hS6.cell 2 rfl rfl, hS6.cell 2 rfl rfl, hS6.cell 2 rfl rfl, hS6.cell 2 rfl rfl, hS6.cell 2 rfl rfl, hS6.cell 2 rfl rfl, trivial⟩ ⟨hS8.cell 2 rfl rfl, hS8.cell 2 rfl rfl, hS8.cell 2 rfl rfl, hS8.cell 2 rfl rfl, hS8.cell 2 rfl rfl, hS8.cell 2 rfl rfl, trivial⟩) ?_ a hF
                  refine go2_batch [11] (ans := []) (vs := [(5, v3)]) (l := []) (by kernel_rfl) trivial mem_nil ?_
                  refine go_fin2 fun a hF => hK2 _ _ ?_ a hF
                  refine we_seq fun K3 hK3 => ?_
                  refine we_region [(0, 0), (1, 0), (2, 0), (3, 0), (4, 0)] rfl ?_
                  refine ge_batch [0, 1, 2] (ans := []) (vs := [(19, .int .i64 (l0.length : Int)), (18, .slice A0 l0.length c0), (17, v3)]) (l := []) (by kernel_rfl) trivial ?_
                  obtain ⟨Z1, cz1, rfl, hcp1⟩ := hS8.open2 0 rfl
                  refine ge_sliceHi (d := 20) (ty := 49) (t := 49) (el := 53) (sz := 2) (m := ((((List.replicate 0 (⟨0, 0⟩ : SCome)) ++ l0) ++ ([x1, x1, x1] : List SCome)).length)) (c := cz1) (hn := l0.length) (x := (.tmp 17)) (y := (.tmp 19)) (A := Z1) (k' := .i64) (hi := (l0.length : Int)) (by kernel_rfl) (by kernel_rfl) (by kernel_rfl) rfl (by kernel_rfl) (by kernel_rfl) (by have h0 := hcp1; simp only [List.length_append, List.length_cons, List.length_nil] at h0; omega) ?_
                  refine ge_batch [4] (ans := []) (vs := [(4, .slice Z1 l0.length cz1)]) (l := []) (by kernel_rfl) trivial ?_
                  refine ge_nil fun a hF => hK3 _ _ ?_ a hF
                  have hS9 := hS8.takeN 1
                  obtain rfl := Option.some.inj h
                  exact we_ret (post_ret (rs := [.tmp 4]) (ans := []) (vs := [.slice Z1 l0.length cz1]) (l := []) rfl (by kernel_rfl) trivial ⟨Z1, cz1, rfl, hcp1, hS9⟩)
                · rw [if_neg hc4] at h
                  cases h
              exact go_nomore2
            · rw [if_neg hc3] at h
              cases h
          exact go_nomore2
        exact go_nomore2
      exact go_nomore2
    · rw [if_neg hc2] at h
      cases h
  · rw [if_neg hc1] at h
    cases h
theorem punctualsame_Lend_api_Come_full (l0 : List SCome) (x1 : SCome) {r : List SCome} (h : punctualsame_Lend_api_Come.f l0 x1 = some r) : r = l0 ++ [x1, x1, x1] := by
  unfold punctualsame_Lend_api_Come.f at h
  repeat' split at h
  all_goals first | (exact (Option.some.inj h).symm) | cases h

/-! punctual/punctualref.F -/
abbrev punctualref_F.Post (w0 : World) (r : SFault) (e : Ending) (w : World) : Prop := e = .returned (.agg #[.int .i64 r.Code, .int .i64 r.At]) ∧ St w0 w []
def punctualref_F.f (x0 : Int) (x1 : Int) : SFault :=
  (⟨x0, x1⟩ : SFault)
theorem punctualref_F_ok (x0 : Int) (x1 : Int) (w0 : World) (r : SFault) (h : punctualref_F.f x0 x1 = r) :
    Calls Tryd.prog 21 #[.int .i64 x0, .int .i64 x1] w0 (punctualref_F.Post w0 r) := by
  have hS := St.start w0
  unfold punctualref_F.f at h
  refine calls_enter (n := 8) (args := [.int .i64 x0, .int .i64 x1]) (fn := Tryd.f21) rfl rfl rfl rfl ?_
  show WE _ _ _ _ [(0, .int .i64 x0), (1, .int .i64 x1)] _
  refine we_seq fun K1 hK1 => ?_
  refine we_region [(0, 1)] rfl ?_
  refine ge_new (d := some 4) (o := .cells #[.int .i64 0, .int .i64 0] 26) (v := fun b => .pointer (some ⟨b, 0, none⟩)) hS (fun b => by kernel_rfl) fun b1 w1 hx1 hS1 => ?_
  refine ge_nil fun a hF => hK1 _ _ ?_ a hF
  refine we_seq fun K2 hK2 => ?_
  refine we_region [(0, 0), (1, 0), (2, 0), (3, 2)] rfl ?_
  refine ge_batch [0, 1, 2] (ans := []) (vs := [(7, .agg #[.int .i64 x0, .int .i64 x1]), (6, .int .i64 x1), (5, .int .i64 x0)]) (l := []) (by kernel_rfl) trivial ?_
  refine ge_set (b := b1) (j := 0) (cs := #[.int .i64 0, .int .i64 0]) (t := 26) (vs := [.int .i64 x0, .int .i64 x1]) hS1 (by kernel_rfl) rfl rfl fun w2 hS2 => ?_
  have hS3 : St w0 w2 [Own.blk b1 (.cells #[.int .i64 x0, .int .i64 x1] 26 (0, 0))] := hS2
  refine ge_nil fun a hF => hK2 _ _ ?_ a hF
  have hS4 := hS3.takeN 0
  subst h
  exact we_ret (post_ret (rs := [.cell 4 26]) (ans := [.val (.int .i64 x0), .val (.int .i64 x1)]) (vs := [.agg #[.int .i64 x0, .int .i64 x1]]) (l := [.loaded ⟨b1, 0, none⟩ (.int .i64 x0), .loaded ⟨b1, 1, none⟩ (.int .i64 x1)]) rfl (by kernel_rfl) ⟨hS3.cell 0 rfl rfl, hS3.cell 0 rfl rfl, trivial⟩ ⟨rfl, hS4⟩)

structure A6Int where
  a0 : Int
  a1 : Int
  a2 : Int
  a3 : Int
  a4 : Int
  a5 : Int
def A6Int.eqb (x y : A6Int) : Bool := ((x.a0 == y.a0) && ((x.a1 == y.a1) && ((x.a2 == y.a2) && ((x.a3 == y.a3) && ((x.a4 == y.a4) && ((x.a5 == y.a5) && true))))))
instance : Ok A6Int := ⟨fun x => Ok.ok x.a0 ∧ Ok.ok x.a1 ∧ Ok.ok x.a2 ∧ Ok.ok x.a3 ∧ Ok.ok x.a4 ∧ Ok.ok x.a5 ∧ True⟩
instance : Flat A6Int := ⟨6, fun x => [.int .i64 x.a0, .int .i64 x.a1, .int .i64 x.a2, .int .i64 x.a3, .int .i64 x.a4, .int .i64 x.a5], fun _ => rfl, fun _ => rfl, by decide⟩

/-! punctual/punctualref.sixOf -/
abbrev punctualref_sixOf.Post (w0 : World) (r : A6Int) (e : Ending) (w : World) : Prop := e = .returned (.agg #[.int .i64 r.a0, .int .i64 r.a1, .int .i64 r.a2, .int .i64 r.a3, .int .i64 r.a4, .int .i64 r.a5]) ∧ St w0 w []
def punctualref_sixOf.f (x0 : STask) : A6Int :=
  (⟨x0.C, x0.T, x0.D, x0.J, x0.O, x0.P⟩ : A6Int)
theorem punctualref_sixOf_ok (x0 : STask) (w0 : World) (r : A6Int) (h : punctualref_sixOf.f x0 = r) :
    Calls Tryd.prog 66 #[.agg #[.string x0.Name, .int .i64 x0.C, .int .i64 x0.T, .int .i64 x0.D, .int .i64 x0.J, .int .i64 x0.O, .int .i64 x0.P]] w0 (punctualref_sixOf.Post w0 r) := by
  have hS := St.start w0
  unfold punctualref_sixOf.f at h
  refine calls_enter (n := 16) (args := [.agg #[.string x0.Name, .int .i64 x0.C, .int .i64 x0.T, .int .i64 x0.D, .int .i64 x0.J, .int .i64 x0.O, .int .i64 x0.P]]) (fn := Tryd.f66) rfl rfl rfl rfl ?_
  show WE _ _ _ _ [(0, .agg #[.string x0.Name, .int .i64 x0.C, .int .i64 x0.T, .int .i64 x0.D, .int .i64 x0.J, .int .i64 x0.O, .int .i64 x0.P])] _
  refine we_seq fun K1 hK1 => ?_
  refine we_region [(0, 1), (1, 1)] rfl ?_
  refine ge_new (d := some 1) (o := .cells #[.string x0.Name, .int .i64 x0.C, .int .i64 x0.T, .int .i64 x0.D, .int .i64 x0.J, .int .i64 x0.O, .int .i64 x0.P] 46) (v := fun b => .pointer (some ⟨b, 0, none⟩)) hS (fun b => by kernel_rfl) fun b1 w1 hx1 hS1 => ?_
  refine ge_new (d := some 2) (o := .cells #[.int .i64 0, .int .i64 0, .int .i64 0, .int .i64 0, .int .i64 0, .int .i64 0] 94) (v := fun b => .pointer (some ⟨b, 0, none⟩)) hS1 (fun b => by kernel_rfl) fun b2 w2 hx2 hS2 => ?_
  refine ge_nil fun a hF => hK1 _ _ ?_ a hF
  refine we_seq fun K2 hK2 => ?_
  refine we_region [(0, 0), (1, 0), (2, 0), (3, 0), (4, 0), (5, 0), (6, 0), (7, 0), (8, 0), (9, 0), (10, 0), (11, 0), (12, 0), (13, 2)] rfl ?_
  refine ge_batch [0, 1, 2, 3, 4, 5, 6, 7, 8, 9, 10, 11, 12] (ans := [.val (.int .i64 x0.C), .val (.int .i64 x0.T), .val (.int .i64 x0.D), .val (.int .i64 x0.J), .val (.int .i64 x0.O), .val (.int .i64 x0.P)]) (vs := [(15, .agg #[.int .i64 x0.C, .int .i64 x0.T, .int .i64 x0.D, .int .i64 x0.J, .int .i64 x0.O, .int .i64 x0.P]), (14, .int .i64 x0.P), (13, .pointer (some ⟨b1, 6, none⟩)), (12, .int .i64 x0.O), (11, .pointer (some ⟨b1, 5, none⟩)), (10, .int .i64 x0.J), (9, .pointer (some ⟨b1, 4, none⟩)), (8, .int .i64 x0.D), (7, .pointer (some ⟨b1, 3, none⟩)), (6, .int .i64 x0.T), (5, .pointer (some ⟨b1, 2, none⟩)), (4, .int .i64 x0.C), (3, .pointer (some ⟨b1, 1, none⟩))]) (l := [.loaded ⟨b1, 1, none⟩ (.int .i64 x0.C), .loaded ⟨b1, 2, none⟩ (.int .i64 x0.T), .loaded ⟨b1, 3, none⟩ (.int .i64 x0.D), .loaded ⟨b1, 4, none⟩ (.int .i64 x0.J), .loaded ⟨b1, 5, none⟩ (.int .i64 x0.O), .loaded ⟨b1, 6, none⟩ (.int .i64 x0.P)]) (by kernel_rfl) ⟨hS2.cell 1 rfl rfl, hS2.cell 1 rfl rfl, hS2.cell 1 rfl rfl, hS2.cell 1 rfl rfl, hS2.cell 1 rfl rfl, hS2.cell 1 rfl rfl, trivial⟩ ?_
  refine ge_set (b := b2) (j := 0) (cs := #[.int .i64 0, .int .i64 0, .int .i64 0, .int .i64 0, .int .i64 0, .int .i64 0]) (t := 94) (vs := [.int .i64 x0.C, .int .i64 x0.T, .int .i64 x0.D, .int .i64 x0.J, .int .i64 x0.O, .int .i64 x0.P]) hS2 (by kernel_rfl) rfl rfl fun w3 hS3 => ?_
  have hS4 : St w0 w3 [Own.blk b2 (.cells #[.int .i64 x0.C, .int .i64 x0.T, .int .i64 x0.D, .int .i64 x0.J, .int .i64 x0.O, .int .i64 x0.P] 94 (0, 0)), Own.blk b1 (.cells #[.string x0.Name, .int .i64 x0.C, .int .i64 x0.T, .int .i64 x0.D, .int .i64 x0.J, .int .i64 x0.O, .int .i64 x0.P] 46 (0, 0))] := hS3
  refine ge_nil fun a hF => hK2 _ _ ?_ a hF
  have hS5 := hS4.takeN 0
  subst h
  exact we_ret (post_ret (rs := [.cell 2 94]) (ans := [.val (.int .i64 x0.C), .val (.int .i64 x0.T), .val (.int .i64 x0.D), .val (.int .i64 x0.J), .val (.int .i64 x0.O), .val (.int .i64 x0.P)]) (vs := [.agg #[.int .i64 x0.C, .int .i64 x0.T, .int .i64 x0.D, .int .i64 x0.J, .int .i64 x0.O, .int .i64 x0.P]]) (l := [.loaded ⟨b2, 0, none⟩ (.int .i64 x0.C), .loaded ⟨b2, 1, none⟩ (.int .i64 x0.T), .loaded ⟨b2, 2, none⟩ (.int .i64 x0.D), .loaded ⟨b2, 3, none⟩ (.int .i64 x0.J), .loaded ⟨b2, 4, none⟩ (.int .i64 x0.O), .loaded ⟨b2, 5, none⟩ (.int .i64 x0.P)]) rfl (by kernel_rfl) ⟨hS4.cell 0 rfl rfl, hS4.cell 0 rfl rfl, hS4.cell 0 rfl rfl, hS4.cell 0 rfl rfl, hS4.cell 0 rfl rfl, hS4.cell 0 rfl rfl, trivial⟩ ⟨rfl, hS5⟩)

/-! punctual/punctualref.CheckSet -/
abbrev punctualref_CheckSet.Post (w0 : World) (r : SFault) (e : Ending) (w : World) : Prop := e = .returned (.agg #[.int .i64 r.Code, .int .i64 r.At]) ∧ St w0 w []
def punctualref_CheckSet.p0 (l0 : List STask) : Option (Unit ⊕ SFault) :=
    if (l0.length : Int) = 0 then
      some (.inr (punctualref_F.f 2 0))
    else
      if (l0.length : Int) > 8 then
        some (.inr (punctualref_F.f 2 0))
      else
        some (.inl ())
def punctualref_CheckSet.p2 (e1 : STask) : Option (Bool ⊕ SFault) :=
    if (e1.Name.size : Int) ≥ 1 then
      some (.inl (decide ((e1.Name.size : Int) ≤ 10)))
    else
      some (.inl false)
def punctualref_CheckSet.r3 (e1 : STask) : Bool × Int → Option ((Bool × Int) ⊕ (Bool ⊕ SFault))
  | (q3, z1) =>
    if z1 < (e1.Name.size : Int) then
      if q3 = true then
        if 0 ≤ z1 then
          match e1.Name[(z1).toNat]? with
          | none => none
          | some b3 =>
            if (b3.toNat : Int) ≥ 97 then
              some (.inl (decide ((b3.toNat : Int) ≤ 122), IntKind.i64.wrap (z1 + 1)))
            else
              some (.inl (false, IntKind.i64.wrap (z1 + 1)))
        else
          none
      else
        some (.inl (false, IntKind.i64.wrap (z1 + 1)))
    else
      some (.inr (.inl q3))
def punctualref_CheckSet.r4 (l0 : List STask) (i1 : Nat) (e1 : STask) : Nat → Option (Nat ⊕ (Unit ⊕ SFault))
  | i2 =>
    if (i2 : Int) < (((l0.take i1).drop 0).length : Int) then
      match ((l0.take i1).drop 0)[i2]? with
      | none => none
      | some e2 =>
        if e2.Name.toList = e1.Name.toList then
          some (.inr (.inr (punctualref_F.f 5 (i1 : Int))))
        else
          some (.inl (i2 + 1))
    else
      some (.inr (.inl ()))
def punctualref_CheckSet.r5 (i1 : Nat) (e1 : STask) : Nat → Option (Nat ⊕ (Unit ⊕ SFault))
  | i3 =>
    if (i3 : Int) < 6 then
      match ([(punctualref_sixOf.f e1).a0, (punctualref_sixOf.f e1).a1, (punctualref_sixOf.f e1).a2, (punctualref_sixOf.f e1).a3, (punctualref_sixOf.f e1).a4, (punctualref_sixOf.f e1).a5] : List Int)[i3]? with
      | none => none
      | some e3 =>
        match ([1, 1, 1, 0, 0, 0] : List Int)[i3]? with
        | none => none
        | some e4 =>
          if e3 < e4 then
            some (.inr (.inr (punctualref_F.f 3 (i1 : Int))))
          else
            match ([10000, 10000, 10000, 10000, 10000, 1000] : List Int)[i3]? with
            | none => none
            | some e5 =>
              if e3 > e5 then
                some (.inr (.inr (punctualref_F.f 3 (i1 : Int))))
              else
                some (.inl (i3 + 1))
    else
      some (.inr (.inl ()))
def punctualref_CheckSet.r1 (K : Nat) (l0 : List STask) : Nat → Option (Nat ⊕ (Unit ⊕ SFault))
  | i1 =>
    if (i1 : Int) < (l0.length : Int) then
      match l0[i1]? with
      | none => none
      | some e1 =>
        match punctualref_CheckSet.p2 e1 with
        | none => none
        | some (.inl q2) =>
          match iter (punctualref_CheckSet.r3 e1) K (q2, 0) with
          | none => none
          | some (.inl q5) =>
            if q5 = true then
              if i1 ≤ l0.length then
                match iter (punctualref_CheckSet.r4 l0 i1 e1) K 0 with
                | none => none
                | some (.inl _) =>
                  match iter (punctualref_CheckSet.r5 i1 e1) K 0 with
                  | none => none
                  | some (.inl _) =>
                    if e1.D < e1.C then
                      some (.inr (.inr (punctualref_F.f 12 (i1 : Int))))
                    else
                      some (.inl (i1 + 1))
                  | some (.inr rr1) =>
                    some (.inr (.inr rr1))
                | some (.inr rr2) =>
                  some (.inr (.inr rr2))
              else
                none
            else
              some (.inr (.inr (punctualref_F.f 4 (i1 : Int))))
          | some (.inr rr3) =>
            some (.inr (.inr rr3))
        | some (.inr rr4) =>
          some (.inr (.inr rr4))
    else
      some (.inr (.inl ()))
def punctualref_CheckSet.f (K : Nat) (l0 : List STask) : Option SFault :=
  match punctualref_CheckSet.p0 l0 with
  | none => none
  | some (.inl _) =>
    match iter (punctualref_CheckSet.r1 K l0) K 0 with
    | none => none
    | some (.inl _) =>
      some (⟨0, 0⟩ : SFault)
    | some (.inr rr5) =>
      some rr5
  | some (.inr rr6) =>
    some rr6
abbrev punctualref_CheckSet.A0 (K : Nat) (w0 : World) (l0 : List STask) (A0 : Option Addr) (c0 : Nat) (hR0 : RdL w0 A0 l0) (hL0 : l0.length ≤ c0) (b1 : Nat) : Unit → Act → World → Prop := fun (s : Unit) a w => St w0 w [Own.blk b1 (.cells #[.int .i64 0, .int .i64 0] 26 (0, 0))] ∧ Frm 113 a [(0, .slice A0 l0.length c0), (2, .pointer (some ⟨b1, 0, none⟩))]
abbrev punctualref_CheckSet.B0 (K : Nat) (w0 : World) (l0 : List STask) (A0 : Option Addr) (c0 : Nat) (hR0 : RdL w0 A0 l0) (hL0 : l0.length ≤ c0) (b1 : Nat) : SFault → Exit → Act → World → Prop := Rets Tryd.prog Tryd.f23 (punctualref_CheckSet.Post w0)
theorem punctualref_CheckSet_p0 (K : Nat) (w0 : World) (l0 : List STask) (A0 : Option Addr) (c0 : Nat) (hR0 : RdL w0 A0 l0) (hL0 : l0.length ≤ c0) (b1 : Nat) (o : Unit ⊕ SFault) (h : punctualref_CheckSet.p0 l0 = some o) (w : World) (hS : St w0 w [Own.blk b1 (.cells #[.int .i64 0, .int .i64 0] 26 (0, 0))]) (Q : Exit → Act → World → Prop) (hQ : ∀ x a w, Outs (punctualref_CheckSet.A0 K w0 l0 A0 c0 hR0 hL0 b1) (punctualref_CheckSet.B0 K w0 l0 A0 c0 hR0 hL0 b1) o x a w → Q x a w) : WE Tryd.prog 113 (subF Tryd.f23 [1, 0]) Q [(0, .slice A0 l0.length c0), (2, .pointer (some ⟨b1, 0, none⟩))] w := by
  simp only [punctualref_CheckSet.p0] at h
  refine we_seq fun K3 hK3 => ?_
  refine we_region [(0, 0), (1, 0), (2, 0), (3, 0), (4, 0), (5, 0), (6, 0), (7, 0)] rfl ?_
  refine ge_batch [0, 1, 2, 3] (ans := []) (vs := [(16, .bool ((l0.length : Int) == 0)), (15, .bool ((l0.length : Int) == 0)), (14, .int .i64 (l0.length : Int)), (13, .slice A0 l0.length c0)]) (l := []) (by kernel_rfl) trivial ?_
  by_cases hc1 : (l0.length : Int) = 0
  · rw [if_pos hc1] at h
    refine ge_known (t := 16) (b := ((l0.length : Int) == 0)) (c := true) (by kernel_rfl) (beq_iff_eq.2 hc1) ?_
    refine ge_batch [4, 5, 6, 7] (ans := []) (vs := [(20, .bool true), (19, undef), (18, undef), (17, undef)]) (l := []) (by kernel_rfl) trivial ?_
    refine ge_nil fun a hF => hK3 _ _ ?_ a hF
    refine we_true (by kernel_rfl) ?_
    refine we_seq fun K4 hK4 => ?_
    refine we_region [(0, 1), (1, 2)] rfl ?_
    refine ge_call (d := some 21) (f := 21) (args := #[.int .i64 2, .int .i64 0]) (by kernel_rfl) (punctualref_F_ok 2 0 _ _ rfl) ?_
    rintro _ w2 ⟨rfl, hS2⟩
    refine ⟨_, rfl, hS2.below, ?_⟩
    have hS3 := hS.call hS2
    refine ge_set (b := b1) (j := 0) (cs := #[.int .i64 0, .int .i64 0]) (t := 26) (vs := [.int .i64 ((punctualref_F.f 2 0).Code), .int .i64 ((punctualref_F.f 2 0).At)]) hS3 (by kernel_rfl) rfl rfl fun w3 hS4 => ?_
    have hS5 : St w0 w3 [Own.blk b1 (.cells #[.int .i64 ((punctualref_F.f 2 0).Code), .int .i64 ((punctualref_F.f 2 0).At)] 26 (0, 0))] := hS4
    refine ge_nil fun a hF => hK4 _ _ ?_ a hF
    have hS6 := hS5.takeN 0
    obtain rfl := Option.some.inj h
    exact we_ret fun a hF => hQ _ _ _ (Outs.out nofun ⟨rfl, (post_ret (rs := [.cell 2 26]) (ans := [.val (.int .i64 ((punctualref_F.f 2 0).Code)), .val (.int .i64 ((punctualref_F.f 2 0).At))]) (vs := [.agg #[.int .i64 ((punctualref_F.f 2 0).Code), .int .i64 ((punctualref_F.f 2 0).At)]]) (l := [.loaded ⟨b1, 0, none⟩ (.int .i64 ((punctualref_F.f 2 0).Code)), .loaded ⟨b1, 1, none⟩ (.int .i64 ((punctualref_F.f 2 0).At))]) rfl (by kernel_rfl) ⟨hS5.cell 0 rfl rfl, hS5.cell 0 rfl rfl, trivial⟩ ⟨rfl, hS6⟩) a hF⟩)
  · rw [if_neg hc1] at h
    refine ge_known (t := 16) (b := ((l0.length : Int) == 0)) (c := false) (by kernel_rfl) (beq_eq_false_iff_ne.2 hc1) ?_
    refine ge_batch [4, 5, 6, 7] (ans := []) (vs := [(20, .bool (decide ((l0.length : Int) > 8))), (19, .bool (decide ((l0.length : Int) > 8))), (18, .int .i64 (l0.length : Int)), (17, .slice A0 l0.length c0)]) (l := []) (by kernel_rfl) trivial ?_
    refine ge_nil fun a hF => hK3 _ _ ?_ a hF
    by_cases hc2 : (l0.length : Int) > 8
    · rw [if_pos hc2] at h
      refine we_known (t := 20) (b := decide ((l0.length : Int) > 8)) (v := true) (by kernel_rfl) (decide_eq_true hc2) ?_
      refine we_true (by kernel_rfl) ?_
      refine we_seq fun K5 hK5 => ?_
      refine we_region [(0, 1), (1, 2)] rfl ?_
      refine ge_call (d := some 21) (f := 21) (args := #[.int .i64 2, .int .i64 0]) (by kernel_rfl) (punctualref_F_ok 2 0 _ _ rfl) ?_
      rintro _ w4 ⟨rfl, hS7⟩
      refine ⟨_, rfl, hS7.below, ?_⟩
      have hS8 := hS.call hS7
      refine ge_set (b := b1) (j := 0) (cs := #[.int .i64 0, .int .i64 0]) (t := 26) (vs := [.int .i64 ((punctualref_F.f 2 0).Code), .int .i64 ((punctualref_F.f 2 0).At)]) hS8 (by kernel_rfl) rfl rfl fun w5 hS9 => ?_
      have hS10 : St w0 w5 [Own.blk b1 (.cells #[.int .i64 ((punctualref_F.f 2 0).Code), .int .i64 ((punctualref_F.f 2 0).At)] 26 (0, 0))] := hS9
      refine ge_nil fun a hF => hK5 _ _ ?_ a hF
      have hS11 := hS10.takeN 0
      obtain rfl := Option.some.inj h
      exact we_ret fun a hF => hQ _ _ _ (Outs.out nofun ⟨rfl, (post_ret (rs := [.cell 2 26]) (ans := [.val (.int .i64 ((punctualref_F.f 2 0).Code)), .val (.int .i64 ((punctualref_F.f 2 0).At))]) (vs := [.agg #[.int .i64 ((punctualref_F.f 2 0).Code), .int .i64 ((punctualref_F.f 2 0).At)]]) (l := [.loaded ⟨b1, 0, none⟩ (.int .i64 ((punctualref_F.f 2 0).Code)), .loaded ⟨b1, 1, none⟩ (.int .i64 ((punctualref_F.f 2 0).At))]) rfl (by kernel_rfl) ⟨hS10.cell 0 rfl rfl, hS10.cell 0 rfl rfl, trivial⟩ ⟨rfl, hS11⟩) a hF⟩)
    · rw [if_neg hc2] at h
      refine we_known (t := 20) (b := decide ((l0.length : Int) > 8)) (v := false) (by kernel_rfl) (decide_eq_false hc2) ?_
      refine we_false (by kernel_rfl) ?_
      obtain rfl := Option.some.inj h
      exact we_skip fun a hF => hQ _ _ _ (Outs.again ⟨hS, hF.weaken ⟨by kernel_rfl, by kernel_rfl, trivial⟩⟩)
abbrev punctualref_CheckSet.A2 (K : Nat) (w0 : World) (l0 : List STask) (A0 : Option Addr) (c0 : Nat) (hR0 : RdL w0 A0 l0) (hL0 : l0.length ≤ c0) (b1 : Nat) (i1 : Nat) (hc3 : (i1 : Int) < (l0.length : Int)) (e1 : STask) (hx2 : l0[i1]? = some e1) (b2 : Nat) : Bool → Act → World → Prop := fun (s : Bool) a w => St w0 w [Own.blk b2 (.cells #[.string e1.Name, .int .i64 e1.C, .int .i64 e1.T, .int .i64 e1.D, .int .i64 e1.J, .int .i64 e1.O, .int .i64 e1.P] 46 (0, 0)), Own.blk b1 (.cells #[.int .i64 0, .int .i64 0] 26 (0, 0))] ∧ Frm 113 a [(0, .slice A0 l0.length c0), (2, .pointer (some ⟨b1, 0, none⟩)), (3, .int .i64 (i1 : Int)), (4, .pointer (some ⟨b2, 0, none⟩)), (5, .bool s), (22, .slice A0 l0.length c0), (23, .int .i64 (l0.length : Int)), (24, .int .i64 (i1 : Int))]
abbrev punctualref_CheckSet.B2 (K : Nat) (w0 : World) (l0 : List STask) (A0 : Option Addr) (c0 : Nat) (hR0 : RdL w0 A0 l0) (hL0 : l0.length ≤ c0) (b1 : Nat) (i1 : Nat) (hc3 : (i1 : Int) < (l0.length : Int)) (e1 : STask) (hx2 : l0[i1]? = some e1) (b2 : Nat) : SFault → Exit → Act → World → Prop := Rets Tryd.prog Tryd.f23 (punctualref_CheckSet.Post w0)
theorem punctualref_CheckSet_p2 (K : Nat) (w0 : World) (l0 : List STask) (A0 : Option Addr) (c0 : Nat) (hR0 : RdL w0 A0 l0) (hL0 : l0.length ≤ c0) (b1 : Nat) (i1 : Nat) (hc3 : (i1 : Int) < (l0.length : Int)) (e1 : STask) (hx2 : l0[i1]? = some e1) (b2 : Nat) (o : Bool ⊕ SFault) (h : punctualref_CheckSet.p2 e1 = some o) (w : World) (hS : St w0 w [Own.blk b2 (.cells #[.string e1.Name, .int .i64 e1.C, .int .i64 e1.T, .int .i64 e1.D, .int .i64 e1.J, .int .i64 e1.O, .int .i64 e1.P] 46 (0, 0)), Own.blk b1 (.cells #[.int .i64 0, .int .i64 0] 26 (0, 0))]) (Q : Exit → Act → World → Prop) (hQ : ∀ x a w, Outs (punctualref_CheckSet.A2 K w0 l0 A0 c0 hR0 hL0 b1 i1 hc3 e1 hx2 b2) (punctualref_CheckSet.B2 K w0 l0 A0 c0 hR0 hL0 b1 i1 hc3 e1 hx2 b2) o x a w → Q x a w) : WE Tryd.prog 113 (subF Tryd.f23 [1, 1, 0, 1, 0, 0, 1, 1, 0, 0, 1, 0]) Q [(0, .slice A0 l0.length c0), (2, .pointer (some ⟨b1, 0, none⟩)), (3, .int .i64 (i1 : Int)), (4, .pointer (some ⟨b2, 0, none⟩)), (22, .slice A0 l0.length c0), (23, .int .i64 (l0.length : Int)), (24, .int .i64 (i1 : Int)), (25, .bool true), (26, .int .i64 (i1 : Int)), (27, .pointer (some ⟨blkOf A0, offOf A0 + i1 * 7, none⟩)), (28, .agg #[.string e1.Name, .int .i64 e1.C, .int .i64 e1.T, .int .i64 e1.D, .int .i64 e1.J, .int .i64 e1.O, .int .i64 e1.P])] w := by
  simp only [punctualref_CheckSet.p2] at h
  refine we_region [(0, 0), (1, 0), (2, 0), (3, 0), (4, 0), (5, 0), (6, 0), (7, 0), (8, 0), (9, 0), (10, 0)] rfl ?_
  refine ge_batch [0, 1, 2, 3, 4] (ans := [.val (.string e1.Name)]) (vs := [(33, .bool (decide ((e1.Name.size : Int) ≥ 1))), (32, .bool (decide ((e1.Name.size : Int) ≥ 1))), (31, .int .i64 (e1.Name.size : Int)), (30, .string e1.Name), (29, .pointer (some ⟨b2, 0, none⟩))]) (l := [.loaded ⟨b2, 0, none⟩ (.string e1.Name)]) (by kernel_rfl) ⟨hS.cell 0 rfl rfl, trivial⟩ ?_
  by_cases hc4 : (e1.Name.size : Int) ≥ 1
  · rw [if_pos hc4] at h
    refine ge_known (t := 33) (b := decide ((e1.Name.size : Int) ≥ 1)) (c := true) (by kernel_rfl) (decide_eq_true hc4) ?_
    refine ge_batch [5, 6, 7, 8, 9, 10] (ans := [.val (.string e1.Name)]) (vs := [(5, .bool (decide ((e1.Name.size : Int) ≤ 10))), (38, .bool (decide ((e1.Name.size : Int) ≤ 10))), (37, .bool (decide ((e1.Name.size : Int) ≤ 10))), (36, .int .i64 (e1.Name.size : Int)), (35, .string e1.Name), (34, .pointer (some ⟨b2, 0, none⟩))]) (l := [.loaded ⟨b2, 0, none⟩ (.string e1.Name)]) (by kernel_rfl) ⟨hS.cell 0 rfl rfl, trivial⟩ ?_
    have hS16 := hS.bring 1 rfl
    have hS17 := hS16.bring 1 rfl
    obtain rfl := Option.some.inj h
    exact ge_nil fun a hF => hQ _ _ _ (Outs.again ⟨hS17, hF.weaken ⟨by kernel_rfl, by kernel_rfl, by kernel_rfl, by kernel_rfl, by kernel_rfl, by kernel_rfl, by kernel_rfl, by kernel_rfl, trivial⟩⟩)
  · rw [if_neg hc4] at h
    refine ge_known (t := 33) (b := decide ((e1.Name.size : Int) ≥ 1)) (c := false) (by kernel_rfl) (decide_eq_false hc4) ?_
    refine ge_batch [5, 6, 7, 8, 9, 10] (ans := []) (vs := [(5, .bool false), (38, .bool false), (37, undef), (36, undef), (35, undef), (34, undef)]) (l := []) (by kernel_rfl) trivial ?_
    have hS18 := hS.bring 1 rfl
    have hS19 := hS18.bring 1 rfl
    obtain rfl := Option.some.inj h
    exact ge_nil fun a hF => hQ _ _ _ (Outs.again ⟨hS19, hF.weaken ⟨by kernel_rfl, by kernel_rfl, by kernel_rfl, by kernel_rfl, by kernel_rfl, by kernel_rfl, by kernel_rfl, by kernel_rfl, trivial⟩⟩)
abbrev punctualref_CheckSet.A3 (K : Nat) (w0 : World) (l0 : List STask) (A0 : Option Addr) (c0 : Nat) (hR0 : RdL w0 A0 l0) (hL0 : l0.length ≤ c0) (b1 : Nat) (i1 : Nat) (hc3 : (i1 : Int) < (l0.length : Int)) (e1 : STask) (hx2 : l0[i1]? = some e1) (b2 : Nat) (q2 : Bool) : (Bool × Int) → Act → World → Prop := fun (s : Bool × Int) a w => St w0 w [Own.blk b2 (.cells #[.string e1.Name, .int .i64 e1.C, .int .i64 e1.T, .int .i64 e1.D, .int .i64 e1.J, .int .i64 e1.O, .int .i64 e1.P] 46 (0, 0)), Own.blk b1 (.cells #[.int .i64 0, .int .i64 0] 26 (0, 0))] ∧ Frm 113 a [(0, .slice A0 l0.length c0), (2, .pointer (some ⟨b1, 0, none⟩)), (3, .int .i64 (i1 : Int)), (4, .pointer (some ⟨b2, 0, none⟩)), (5, .bool s.1), (6, .int .i64 s.2), (22, .slice A0 l0.length c0), (23, .int .i64 (l0.length : Int)), (24, .int .i64 (i1 : Int))]
abbrev punctualref_CheckSet.B3 (K : Nat) (w0 : World) (l0 : List STask) (A0 : Option Addr) (c0 : Nat) (hR0 : RdL w0 A0 l0) (hL0 : l0.length ≤ c0) (b1 : Nat) (i1 : Nat) (hc3 : (i1 : Int) < (l0.length : Int)) (e1 : STask) (hx2 : l0[i1]? = some e1) (b2 : Nat) (q2 : Bool) : (Bool ⊕ SFault) → Exit → Act → World → Prop := Exits 2 (fun (s : Bool) a w => St w0 w [Own.blk b2 (.cells #[.string e1.Name, .int .i64 e1.C, .int .i64 e1.T, .int .i64 e1.D, .int .i64 e1.J, .int .i64 e1.O, .int .i64 e1.P] 46 (0, 0)), Own.blk b1 (.cells #[.int .i64 0, .int .i64 0] 26 (0, 0))] ∧ Frm 113 a [(0, .slice A0 l0.length c0), (2, .pointer (some ⟨b1, 0, none⟩)), (3, .int .i64 (i1 : Int)), (4, .pointer (some ⟨b2, 0, none⟩)), (5, .bool s), (22, .slice A0 l0.length c0), (23, .int .i64 (l0.length : Int)), (24, .int .i64 (i1 : Int))]) (Rets Tryd.prog Tryd.f23 (punctualref_CheckSet.Post w0))
theorem punctualref_CheckSet_r3 (K : Nat) (w0 : World) (l0 : List STask) (A0 : Option Addr) (c0 : Nat) (hR0 : RdL w0 A0 l0) (hL0 : l0.length ≤ c0) (b1 : Nat) (i1 : Nat) (hc3 : (i1 : Int) < (l0.length : Int)) (e1 : STask) (hx2 : l0[i1]? = some e1) (b2 : Nat) (q2 : Bool) (s : Bool × Int) (o : (Bool × Int) ⊕ (Bool ⊕ SFault)) (h : punctualref_CheckSet.r3 e1 s = some o) (a : Act) (w : World) (hA : punctualref_CheckSet.A3 K w0 l0 A0 c0 hR0 hL0 b1 i1 hc3 e1 hx2 b2 q2 s a w) (Q : Exit → Act → World → Prop) (hQ : ∀ x a w, Outs (punctualref_CheckSet.A3 K w0 l0 A0 c0 hR0 hL0 b1 i1 hc3 e1 hx2 b2 q2) (punctualref_CheckSet.B3 K w0 l0 A0 c0 hR0 hL0 b1 i1 hc3 e1 hx2 b2 q2) o x a w → Q x a w) : (subF Tryd.f23 [1, 1, 0, 1, 0, 0, 1, 1, 0, 0, 1, 1, 0, 1, 0, 0]).wp Tryd.prog Q a w := by
  obtain ⟨q3, z1⟩ := s
  obtain ⟨hS, hF⟩ := hA
  replace hS : St w0 w [Own.blk b2 (.cells #[.string e1.Name, .int .i64 e1.C, .int .i64 e1.T, .int .i64 e1.D, .int .i64 e1.J, .int .i64 e1.O, .int .i64 e1.P] 46 (0, 0)), Own.blk b1 (.cells #[.int .i64 0, .int .i64 0] 26 (0, 0))] := hS
  simp only [punctualref_CheckSet.r3] at h
  refine (?_ : WE Tryd.prog 113 (subF Tryd.f23 [1, 1, 0, 1, 0, 0, 1, 1, 0, 0, 1, 1, 0, 1, 0, 0]) Q [(0, .slice A0 l0.length c0), (2, .pointer (some ⟨b1, 0, none⟩)), (3, .int .i64 (i1 : Int)), (4, .pointer (some ⟨b2, 0, none⟩)), (5, .bool q3), (6, .int .i64 z1), (22, .slice A0 l0.length c0), (23, .int .i64 (l0.length : Int)), (24, .int .i64 (i1 : Int))] w) a hF
  clear hF a
  refine we_seq fun K15 hK15 => ?_
  refine we_seq fun K16 hK16 => ?_
  refine we_region [(0, 0), (1, 0), (2, 0), (3, 0), (4, 0)] rfl ?_
  refine ge_batch [0, 1, 2, 3, 4] (ans := [.val (.string e1.Name)]) (vs := [(43, .bool (decide (z1 < (e1.Name.size : Int)))), (42, .int .i64 (e1.Name.size : Int)), (41, .string e1.Name), (40, .pointer (some ⟨b2, 0, none⟩)), (39, .int .i64 z1)]) (l := [.loaded ⟨b2, 0, none⟩ (.string e1.Name)]) (by kernel_rfl) ⟨hS.cell 0 rfl rfl, trivial⟩ ?_
  refine ge_nil fun a hF => hK16 _ _ ?_ a hF
  by_cases hc5 : z1 < (e1.Name.size : Int)
  · rw [if_pos hc5] at h
    refine we_known (t := 43) (b := decide (z1 < (e1.Name.size : Int))) (v := true) (by kernel_rfl) (decide_eq_true hc5) ?_
    refine we_true (by kernel_rfl) ?_
    refine we_skip fun a hF => hK15 _ _ ?_ a hF
    refine we_seq fun K17 hK17 => ?_
    refine we_block ?_
    refine we_region [(0, 0), (1, 0), (2, 0), (3, 0), (4, 0), (5, 0), (6, 0), (7, 0), (8, 0), (9, 0), (10, 0), (11, 0), (12, 0), (13, 0), (14, 0), (15, 0)] rfl ?_
    refine ge_batch [0, 1] (ans := []) (vs := [(47, .bool q3), (46, .bool q3)]) (l := []) (by kernel_rfl) trivial ?_
    by_cases hc6 : q3 = true
    · rw [if_pos hc6] at h
      refine ge_known (t := 47) (b := q3) (c := true) (by kernel_rfl) hc6 ?_
      refine ge_batch [2, 3, 4] (ans := [.val (.string e1.Name)]) (vs := [(50, .int .i64 z1), (49, .string e1.Name), (48, .pointer (some ⟨b2, 0, none⟩))]) (l := [.loaded ⟨b2, 0, none⟩ (.string e1.Name)]) (by kernel_rfl) ⟨hS.cell 0 rfl rfl, trivial⟩ ?_
      by_cases hc7 : 0 ≤ z1
      · rw [if_pos hc7] at h
        rcases hx4 : e1.Name[(z1).toNat]? with _ | b3
        · rw [hx4] at h; cases h
        rw [hx4] at h
        simp only [] at h
        refine ge_letter (d := 51) (ty := 5) (t := 9) (x := (.tmp 49)) (y := (.tmp 50)) (k' := .i64) (j := z1) (jn := ((z1).toNat)) (s := e1.Name) (b := b3) (by kernel_rfl) (by kernel_rfl) (by kernel_rfl) (by kernel_rfl) (Int.toNat_of_nonneg hc7).symm hx4 ?_
        refine ge_batch [6, 7, 8] (ans := []) (vs := [(54, .bool (decide ((b3.toNat : Int) ≥ 97))), (53, .bool (decide ((b3.toNat : Int) ≥ 97))), (52, .bool (decide ((b3.toNat : Int) ≥ 97)))]) (l := []) (by kernel_rfl) trivial ?_
        by_cases hc8 : (b3.toNat : Int) ≥ 97
        · rw [if_pos hc8] at h
          refine ge_known (t := 54) (b := decide ((b3.toNat : Int) ≥ 97)) (c := true) (by kernel_rfl) (decide_eq_true hc8) ?_
          refine ge_batch [9, 10, 11] (ans := [.val (.string e1.Name)]) (vs := [(57, .int .i64 z1), (56, .string e1.Name), (55, .pointer (some ⟨b2, 0, none⟩))]) (l := [.loaded ⟨b2, 0, none⟩ (.string e1.Name)]) (by kernel_rfl) ⟨hS.cell 0 rfl rfl, trivial⟩ ?_
          refine ge_letter (d := 58) (ty := 5) (t := 9) (x := (.tmp 56)) (y := (.tmp 57)) (k' := .i64) (j := z1) (jn := ((z1).toNat)) (s := e1.Name) (b := b3) (by kernel_rfl) (by kernel_rfl) (by kernel_rfl) (by kernel_rfl) (Int.toNat_of_nonneg hc7).symm hx4 ?_
          refine ge_batch [13, 14, 15] (ans := []) (vs := [(5, .bool (decide ((b3.toNat : Int) ≤ 122))), (60, .bool (decide ((b3.toNat : Int) ≤ 122))), (59, .bool (decide ((b3.toNat : Int) ≤ 122)))]) (l := []) (by kernel_rfl) trivial ?_
          refine ge_nil fun a hF => hK17 _ _ ?_ a hF
          refine we_region [(0, 0), (1, 0), (2, 0)] rfl ?_
          refine ge_batch [0, 1, 2] (ans := []) (vs := [(6, .int .i64 (IntKind.i64.wrap (z1 + 1))), (45, .int .i64 (IntKind.i64.wrap (z1 + 1))), (44, .int .i64 z1)]) (l := []) (by kernel_rfl) trivial ?_
          have hS23 := hS.bring 1 rfl
          have hS24 := hS23.bring 1 rfl
          obtain rfl := Option.some.inj h
          exact ge_nil fun a hF => hQ _ _ _ (Outs.again ⟨hS24, hF.weaken ⟨by kernel_rfl, by kernel_rfl, by kernel_rfl, by kernel_rfl, by kernel_rfl, by kernel_rfl, by kernel_rfl, by kernel_rfl, by kernel_rfl, trivial⟩⟩)
        · rw [if_neg hc8] at h
          refine ge_known (t := 54) (b := decide ((b3.toNat : Int) ≥ 97)) (c := false) (by kernel_rfl) (decide_eq_false hc8) ?_
          refine ge_batch [9, 10, 11, 12, 13, 14, 15] (ans := []) (vs := [(5, .bool false), (60, .bool false), (59, undef), (58, undef), (57, undef), (56, undef), (55, undef)]) (l := []) (by kernel_rfl) trivial ?_
          refine ge_nil fun a hF => hK17 _ _ ?_ a hF
          refine we_region [(0, 0), (1, 0), (2, 0)] rfl ?_
          refine ge_batch [0, 1, 2] (ans := []) (vs := [(6, .int .i64 (IntKind.i64.wrap (z1 + 1))), (45, .int .i64 (IntKind.i64.wrap (z1 + 1))), (44, .int .i64 z1)]) (l := []) (by kernel_rfl) trivial ?_
          have hS25 := hS.bring 1 rfl
          have hS26 := hS25.bring 1 rfl
          obtain rfl := Option.some.inj h
          exact ge_nil fun a hF => hQ _ _ _ (Outs.again ⟨hS26, hF.weaken ⟨by kernel_rfl, by kernel_rfl, by kernel_rfl, by kernel_rfl, by kernel_rfl, by kernel_rfl, by kernel_rfl, by kernel_rfl, by kernel_rfl, trivial⟩⟩)
      · rw [if_neg hc7] at h
        cases h
    · rw [if_neg hc6] at h
      refine ge_known (t := 47) (b := q3) (c := false) (by kernel_rfl) (Bool.eq_false_iff.2 hc6) ?_
      refine ge_batch [2, 3, 4, 5, 6, 7, 8, 9, 10, 11, 12, 13, 14, 15] (ans := []) (vs := [(5, .bool false), (60, .bool false), (59, undef), (58, undef), (57, undef), (56, undef), (55, undef), (54, .bool false), (53, .bool false), (52, undef), (51, undef), (50, undef), (49, undef), (48, undef)]) (l := []) (by kernel_rfl) trivial ?_
      refine ge_nil fun a hF => hK17 _ _ ?_ a hF
      refine we_region [(0, 0), (1, 0), (2, 0)] rfl ?_
      refine ge_batch [0, 1, 2] (ans := []) (vs := [(6, .int .i64 (IntKind.i64.wrap (z1 + 1))), (45, .int .i64 (IntKind.i64.wrap (z1 + 1))), (44, .int .i64 z1)]) (l := []) (by kernel_rfl) trivial ?_
      have hS27 := hS.bring 1 rfl
      have hS28 := hS27.bring 1 rfl
      obtain rfl := Option.some.inj h
      exact ge_nil fun a hF => hQ _ _ _ (Outs.again ⟨hS28, hF.weaken ⟨by kernel_rfl, by kernel_rfl, by kernel_rfl, by kernel_rfl, by kernel_rfl, by kernel_rfl, by kernel_rfl, by kernel_rfl, by kernel_rfl, trivial⟩⟩)
  · rw [if_neg hc5] at h
    refine we_known (t := 43) (b := decide (z1 < (e1.Name.size : Int))) (v := false) (by kernel_rfl) (decide_eq_false hc5) ?_
    refine we_false (by kernel_rfl) ?_
    have hS29 := hS.bring 1 rfl
    have hS30 := hS29.bring 1 rfl
    obtain rfl := Option.some.inj h
    exact we_exit fun a hF => hQ _ _ _ (Outs.out nofun (Exits.here ⟨hS30, hF.weaken ⟨by kernel_rfl, by kernel_rfl, by kernel_rfl, by kernel_rfl, by kernel_rfl, by kernel_rfl, by kernel_rfl, by kernel_rfl, trivial⟩⟩))
abbrev punctualref_CheckSet.A4 (K : Nat) (w0 : World) (l0 : List STask) (A0 : Option Addr) (c0 : Nat) (hR0 : RdL w0 A0 l0) (hL0 : l0.length ≤ c0) (b1 : Nat) (i1 : Nat) (hc3 : (i1 : Int) < (l0.length : Int)) (e1 : STask) (hx2 : l0[i1]? = some e1) (b2 : Nat) (q2 : Bool) (q5 : Bool) (hc9 : q5 = true) (hc10 : i1 ≤ l0.length) : Nat → Act → World → Prop := fun (s : Nat) a w => St w0 w [Own.blk b2 (.cells #[.string e1.Name, .int .i64 e1.C, .int .i64 e1.T, .int .i64 e1.D, .int .i64 e1.J, .int .i64 e1.O, .int .i64 e1.P] 46 (0, 0)), Own.blk b1 (.cells #[.int .i64 0, .int .i64 0] 26 (0, 0))] ∧ Frm 113 a [(0, .slice A0 l0.length c0), (2, .pointer (some ⟨b1, 0, none⟩)), (3, .int .i64 (i1 : Int)), (4, .pointer (some ⟨b2, 0, none⟩)), (22, .slice A0 l0.length c0), (23, .int .i64 (l0.length : Int)), (24, .int .i64 (i1 : Int)), (67, .slice (subA A0 c0 0 7) (((l0.take i1).drop 0).length) (c0 - 0)), (68, .int .i64 (((l0.take i1).drop 0).length : Int)), (69, .int .i64 (s : Int))]
abbrev punctualref_CheckSet.B4 (K : Nat) (w0 : World) (l0 : List STask) (A0 : Option Addr) (c0 : Nat) (hR0 : RdL w0 A0 l0) (hL0 : l0.length ≤ c0) (b1 : Nat) (i1 : Nat) (hc3 : (i1 : Int) < (l0.length : Int)) (e1 : STask) (hx2 : l0[i1]? = some e1) (b2 : Nat) (q2 : Bool) (q5 : Bool) (hc9 : q5 = true) (hc10 : i1 ≤ l0.length) : (Unit ⊕ SFault) → Exit → Act → World → Prop := Exits 4 (fun (s : Unit) a w => St w0 w [Own.blk b2 (.cells #[.string e1.Name, .int .i64 e1.C, .int .i64 e1.T, .int .i64 e1.D, .int .i64 e1.J, .int .i64 e1.O, .int .i64 e1.P] 46 (0, 0)), Own.blk b1 (.cells #[.int .i64 0, .int .i64 0] 26 (0, 0))] ∧ Frm 113 a [(0, .slice A0 l0.length c0), (2, .pointer (some ⟨b1, 0, none⟩)), (3, .int .i64 (i1 : Int)), (4, .pointer (some ⟨b2, 0, none⟩)), (22, .slice A0 l0.length c0), (23, .int .i64 (l0.length : Int)), (24, .int .i64 (i1 : Int))]) (Rets Tryd.prog Tryd.f23 (punctualref_CheckSet.Post w0))
theorem punctualref_CheckSet_r4 (K : Nat) (w0 : World) (l0 : List STask) (A0 : Option Addr) (c0 : Nat) (hR0 : RdL w0 A0 l0) (hL0 : l0.length ≤ c0) (b1 : Nat) (i1 : Nat) (hc3 : (i1 : Int) < (l0.length : Int)) (e1 : STask) (hx2 : l0[i1]? = some e1) (b2 : Nat) (q2 : Bool) (q5 : Bool) (hc9 : q5 = true) (hc10 : i1 ≤ l0.length) (s : Nat) (o : Nat ⊕ (Unit ⊕ SFault)) (h : punctualref_CheckSet.r4 l0 i1 e1 s = some o) (a : Act) (w : World) (hA : punctualref_CheckSet.A4 K w0 l0 A0 c0 hR0 hL0 b1 i1 hc3 e1 hx2 b2 q2 q5 hc9 hc10 s a w) (Q : Exit → Act → World → Prop) (hQ : ∀ x a w, Outs (punctualref_CheckSet.A4 K w0 l0 A0 c0 hR0 hL0 b1 i1 hc3 e1 hx2 b2 q2 q5 hc9 hc10) (punctualref_CheckSet.B4 K w0 l0 A0 c0 hR0 hL0 b1 i1 hc3 e1 hx2 b2 q2 q5 hc9 hc10) o x a w → Q x a w) : (subF Tryd.f23 [1, 1, 0, 1, 0, 0, 1, 1, 0, 0, 1, 1, 1, 1, 0, 1, 0, 0]).wp Tryd.prog Q a w := by
  obtain ⟨i2, hs⟩ : ∃ z, z = s := ⟨s, rfl⟩
  subst hs
  obtain ⟨hS, hF⟩ := hA
  replace hS : St w0 w [Own.blk b2 (.cells #[.string e1.Name, .int .i64 e1.C, .int .i64 e1.T, .int .i64 e1.D, .int .i64 e1.J, .int .i64 e1.O, .int .i64 e1.P] 46 (0, 0)), Own.blk b1 (.cells #[.int .i64 0, .int .i64 0] 26 (0, 0))] := hS
  simp only [punctualref_CheckSet.r4] at h
  refine (?_ : WE Tryd.prog 113 (subF Tryd.f23 [1, 1, 0, 1, 0, 0, 1, 1, 0, 0, 1, 1, 1, 1, 0, 1, 0, 0]) Q [(0, .slice A0 l0.length c0), (2, .pointer (some ⟨b1, 0, none⟩)), (3, .int .i64 (i1 : Int)), (4, .pointer (some ⟨b2, 0, none⟩)), (22, .slice A0 l0.length c0), (23, .int .i64 (l0.length : Int)), (24, .int .i64 (i1 : Int)), (67, .slice (subA A0 c0 0 7) (((l0.take i1).drop 0).length) (c0 - 0)), (68, .int .i64 (((l0.take i1).drop 0).length : Int)), (69, .int .i64 (i2 : Int))] w) a hF
  clear hF a
  refine we_seq fun K22 hK22 => ?_
  refine we_region [(0, 0)] rfl ?_
  refine ge_batch [0] (ans := []) (vs := [(70, .bool (decide ((i2 : Int) < (((l0.take i1).drop 0).length : Int))))]) (l := []) (by kernel_rfl) trivial ?_
  refine ge_nil fun a hF => hK22 _ _ ?_ a hF
  refine we_seq fun K23 hK23 => ?_
  by_cases hc11 : (i2 : Int) < (((l0.take i1).drop 0).length : Int)
  · rw [if_pos hc11] at h
    refine we_known (t := 70) (b := decide ((i2 : Int) < (((l0.take i1).drop 0).length : Int))) (v := true) (by kernel_rfl) (decide_eq_true hc11) ?_
    refine we_true (by kernel_rfl) ?_
    refine we_skip fun a hF => hK23 _ _ ?_ a hF
    refine we_seq fun K24 hK24 => ?_
    refine we_block ?_
    refine we_seq fun K25 hK25 => ?_
    refine we_region [(0, 0), (1, 0), (2, 1), (3, 2)] rfl ?_
    rcases hx5 : ((l0.take i1).drop 0)[i2]? with _ | e2
    · rw [hx5] at h; cases h
    rw [hx5] at h
    simp only [] at h
    refine ge_index (d := 71) (ty := 0) (t := 40) (el := 46) (sz := 7) (m := ((l0.take i1).drop 0).length) (c := (c0 - 0)) (x := (.tmp 67)) (y := (.tmp 69)) (A := (subA A0 c0 0 7)) (k' := .i64) (j := (i2 : Int)) (jn := i2) (b0 := blkOf (subA A0 c0 0 7)) (o0 := offOf (subA A0 c0 0 7)) (by kernel_rfl) (by kernel_rfl) (by kernel_rfl) (by kernel_rfl) (by kernel_rfl) ((hS.rd (RdL.part hR0 hL0 0 i1)).eqSome (pos_of_get hx5)) rfl (lt_of_get hx5) ?_
    refine ge_batch [1] (ans := [.val (.string e2.Name), .val (.int .i64 e2.C), .val (.int .i64 e2.T), .val (.int .i64 e2.D), .val (.int .i64 e2.J), .val (.int .i64 e2.O), .val (.int .i64 e2.P)]) (vs := [(72, .agg #[.string e2.Name, .int .i64 e2.C, .int .i64 e2.T, .int .i64 e2.D, .int .i64 e2.J, .int .i64 e2.O, .int .i64 e2.P])]) (l := [.loaded ⟨blkOf (subA A0 c0 0 7), offOf (subA A0 c0 0 7) + i2 * 7, none⟩ (.string e2.Name), .loaded ⟨blkOf (subA A0 c0 0 7), offOf (subA A0 c0 0 7) + i2 * 7 + 1, none⟩ (.int .i64 e2.C), .loaded ⟨blkOf (subA A0 c0 0 7), offOf (subA A0 c0 0 7) + i2 * 7 + 2, none⟩ (.int .i64 e2.T), .loaded ⟨blkOf (subA A0 c0 0 7), offOf (subA A0 c0 0 7) + i2 * 7 + 3, none⟩ (.int .i64 e2.D), .loaded ⟨blkOf (subA A0 c0 0 7), offOf (subA A0 c0 0 7) + i2 * 7 + 4, none⟩ (.int .i64 e2.J), .loaded ⟨blkOf (subA A0 c0 0 7), offOf (subA A0 c0 0 7) + i2 * 7 + 5, none⟩ (.int .i64 e2.O), .loaded ⟨blkOf (subA A0 c0 0 7), offOf (subA A0 c0 0 7) + i2 * 7 + 6, none⟩ (.int .i64 e2.P)]) (by kernel_rfl) ⟨RdL.cell (j := 0) (hS.rd (RdL.part hR0 hL0 0 i1)) hx5 rfl, RdL.cell (j := 1) (hS.rd (RdL.part hR0 hL0 0 i1)) hx5 rfl, RdL.cell (j := 2) (hS.rd (RdL.part hR0 hL0 0 i1)) hx5 rfl, RdL.cell (j := 3) (hS.rd (RdL.part hR0 hL0 0 i1)) hx5 rfl, RdL.cell (j := 4) (hS.rd (RdL.part hR0 hL0 0 i1)) hx5 rfl, RdL.cell (j := 5) (hS.rd (RdL.part hR0 hL0 0 i1)) hx5 rfl, RdL.cell (j := 6) (hS.rd (RdL.part hR0 hL0 0 i1)) hx5 rfl, trivial⟩ ?_
    refine ge_new (d := some 8) (o := .cells #[.string (⟨#[]⟩), .int .i64 0, .int .i64 0, .int .i64 0, .int .i64 0, .int .i64 0, .int .i64 0] 46) (v := fun b => .pointer (some ⟨b, 0, none⟩)) hS (fun b => by kernel_rfl) fun b4 w11 hx6 hS34 => ?_
    refine ge_set (b := b4) (j := 0) (cs := #[.string (⟨#[]⟩), .int .i64 0, .int .i64 0, .int .i64 0, .int .i64 0, .int .i64 0, .int .i64 0]) (t := 46) (vs := [.string e2.Name, .int .i64 e2.C, .int .i64 e2.T, .int .i64 e2.D, .int .i64 e2.J, .int .i64 e2.O, .int .i64 e2.P]) hS34 (by kernel_rfl) rfl rfl fun w12 hS35 => ?_
    have hS36 : St w0 w12 [Own.blk b4 (.cells #[.string e2.Name, .int .i64 e2.C, .int .i64 e2.T, .int .i64 e2.D, .int .i64 e2.J, .int .i64 e2.O, .int .i64 e2.P] 46 (0, 0)), Own.blk b2 (.cells #[.string e1.Name, .int .i64 e1.C, .int .i64 e1.T, .int .i64 e1.D, .int .i64 e1.J, .int .i64 e1.O, .int .i64 e1.P] 46 (0, 0)), Own.blk b1 (.cells #[.int .i64 0, .int .i64 0] 26 (0, 0))] := hS35
    refine ge_nil fun a hF => hK25 _ _ ?_ a hF
    refine we_seq fun K26 hK26 => ?_
    refine we_region [(0, 0), (1, 0), (2, 0), (3, 0), (4, 0)] rfl ?_
    refine ge_batch [0, 1, 2, 3, 4] (ans := [.val (.string e2.Name), .val (.string e1.Name)]) (vs := [(77, .bool (e2.Name.toList == e1.Name.toList)), (76, .string e1.Name), (75, .pointer (some ⟨b2, 0, none⟩)), (74, .string e2.Name), (73, .pointer (some ⟨b4, 0, none⟩))]) (l := [.loaded ⟨b4, 0, none⟩ (.string e2.Name), .loaded ⟨b2, 0, none⟩ (.string e1.Name)]) (by kernel_rfl) ⟨hS36.cell 0 rfl rfl, hS36.cell 1 rfl rfl, trivial⟩ ?_
    refine ge_nil fun a hF => hK26 _ _ ?_ a hF
    by_cases hc12 : e2.Name.toList = e1.Name.toList
    · rw [if_pos hc12] at h
      refine we_known (t := 77) (b := (e2.Name.toList == e1.Name.toList)) (v := true) (by kernel_rfl) (beq_iff_eq.2 hc12) ?_
      refine we_true (by kernel_rfl) ?_
      refine we_seq fun K27 hK27 => ?_
      refine we_region [(0, 0), (1, 1), (2, 2)] rfl ?_
      refine ge_batch [0] (ans := []) (vs := [(78, .int .i64 (i1 : Int))]) (l := []) (by kernel_rfl) trivial ?_
      refine ge_call (d := some 79) (f := 21) (args := #[.int .i64 5, .int .i64 (i1 : Int)]) (by kernel_rfl) (punctualref_F_ok 5 (i1 : Int) _ _ rfl) ?_
      rintro _ w13 ⟨rfl, hS37⟩
      refine ⟨_, rfl, hS37.below, ?_⟩
      have hS38 := hS36.call hS37
      have hS39 := hS38.bring 2 rfl
      refine ge_set (b := b1) (j := 0) (cs := #[.int .i64 0, .int .i64 0]) (t := 26) (vs := [.int .i64 ((punctualref_F.f 5 (i1 : Int)).Code), .int .i64 ((punctualref_F.f 5 (i1 : Int)).At)]) hS39 (by kernel_rfl) rfl rfl fun w14 hS40 => ?_
      have hS41 : St w0 w14 [Own.blk b1 (.cells #[.int .i64 ((punctualref_F.f 5 (i1 : Int)).Code), .int .i64 ((punctualref_F.f 5 (i1 : Int)).At)] 26 (0, 0)), Own.blk b4 (.cells #[.string e2.Name, .int .i64 e2.C, .int .i64 e2.T, .int .i64 e2.D, .int .i64 e2.J, .int .i64 e2.O, .int .i64 e2.P] 46 (0, 0)), Own.blk b2 (.cells #[.string e1.Name, .int .i64 e1.C, .int .i64 e1.T, .int .i64 e1.D, .int .i64 e1.J, .int .i64 e1.O, .int .i64 e1.P] 46 (0, 0))] := hS40
      refine ge_nil fun a hF => hK27 _ _ ?_ a hF
      have hS42 := hS41.takeN 0
      obtain rfl := Option.some.inj h
      exact we_ret fun a hF => hQ _ _ _ (Outs.out nofun (Exits.on ⟨rfl, (post_ret (rs := [.cell 2 26]) (ans := [.val (.int .i64 ((punctualref_F.f 5 (i1 : Int)).Code)), .val (.int .i64 ((punctualref_F.f 5 (i1 : Int)).At))]) (vs := [.agg #[.int .i64 ((punctualref_F.f 5 (i1 : Int)).Code), .int .i64 ((punctualref_F.f 5 (i1 : Int)).At)]]) (l := [.loaded ⟨b1, 0, none⟩ (.int .i64 ((punctualref_F.f 5 (i1 : Int)).Code)), .loaded ⟨b1, 1, none⟩ (.int .i64 ((punctualref_F.f 5 (i1 : Int)).At))]) rfl (by kernel_rfl) ⟨hS41.cell 0 rfl rfl, hS41.cell 0 rfl rfl, trivial⟩ ⟨rfl, hS42⟩) a hF⟩))
    · rw [if_neg hc12] at h
      refine we_known (t := 77) (b := (e2.Name.toList == e1.Name.toList)) (v := false) (by kernel_rfl) (beq_eq_false_iff_ne.2 hc12) ?_
      refine we_false (by kernel_rfl) ?_
      refine we_skip fun a hF => hK24 _ _ ?_ a hF
      refine we_region [(0, 0), (1, 0)] rfl ?_
      refine ge_addn (d := 80) (ty := 3) (x := (.tmp 69)) (y := (.const (.int .i64 1))) (t := 3) (t2 := 3) (k := .i64) (m := i2) (by kernel_rfl) (by kernel_rfl) (by kernel_rfl) (by have h0 := hR0.small; have h1 : ((l0.take i1).drop 0).length ≤ l0.length := (by simp only [List.length_drop, List.length_take]; omega); omega) ?_
      refine ge_batch [1] (ans := []) (vs := [(69, .int .i64 ((i2 + 1 : Nat) : Int))]) (l := []) (by kernel_rfl) trivial ?_
      have hS43 := hS36.bring 2 rfl
      have hS44 := hS43.bring 2 rfl
      have hS45 := hS44.takeN 2
      obtain rfl := Option.some.inj h
      exact ge_nil fun a hF => hQ _ _ _ (Outs.again ⟨hS45, hF.weaken ⟨by kernel_rfl, by kernel_rfl, by kernel_rfl, by kernel_rfl, by kernel_rfl, by kernel_rfl, by kernel_rfl, by kernel_rfl, by kernel_rfl, by kernel_rfl, trivial⟩⟩)
  · rw [if_neg hc11] at h
    refine we_known (t := 70) (b := decide ((i2 : Int) < (((l0.take i1).drop 0).length : Int))) (v := false) (by kernel_rfl) (decide_eq_false hc11) ?_
    refine we_false (by kernel_rfl) ?_
    have hS46 := hS.bring 1 rfl
    have hS47 := hS46.bring 1 rfl
    obtain rfl := Option.some.inj h
    exact we_exit fun a hF => hQ _ _ _ (Outs.out nofun (Exits.here ⟨hS47, hF.weaken ⟨by kernel_rfl, by kernel_rfl, by kernel_rfl, by kernel_rfl, by kernel_rfl, by kernel_rfl, by kernel_rfl, trivial⟩⟩))
abbrev punctualref_CheckSet.A5 (K : Nat) (w0 : World) (l0 : List STask) (A0 : Option Addr) (c0 : Nat) (hR0 : RdL w0 A0 l0) (hL0 : l0.length ≤ c0) (b1 : Nat) (i1 : Nat) (hc3 : (i1 : Int) < (l0.length : Int)) (e1 : STask) (hx2 : l0[i1]? = some e1) (b2 : Nat) (q2 : Bool) (q5 : Bool) (hc9 : q5 = true) (hc10 : i1 ≤ l0.length) (b5 : Nat) (b6 : Nat) : Nat → Act → World → Prop := fun (s : Nat) a w => St w0 w [Own.blk b6 (.cells #[.int .i64 10000, .int .i64 10000, .int .i64 10000, .int .i64 10000, .int .i64 10000, .int .i64 1000] 94 (0, 0)), Own.blk b5 (.cells #[.int .i64 1, .int .i64 1, .int .i64 1, .int .i64 0, .int .i64 0, .int .i64 0] 94 (0, 0)), Own.blk b2 (.cells #[.string e1.Name, .int .i64 e1.C, .int .i64 e1.T, .int .i64 e1.D, .int .i64 e1.J, .int .i64 e1.O, .int .i64 e1.P] 46 (0, 0)), Own.blk b1 (.cells #[.int .i64 0, .int .i64 0] 26 (0, 0))] ∧ Frm 113 a [(0, .slice A0 l0.length c0), (2, .pointer (some ⟨b1, 0, none⟩)), (3, .int .i64 (i1 : Int)), (4, .pointer (some ⟨b2, 0, none⟩)), (9, .pointer (some ⟨b5, 0, none⟩)), (10, .pointer (some ⟨b6, 0, none⟩)), (22, .slice A0 l0.length c0), (23, .int .i64 (l0.length : Int)), (24, .int .i64 (i1 : Int)), (84, .agg #[.int .i64 ((punctualref_sixOf.f e1).a0), .int .i64 ((punctualref_sixOf.f e1).a1), .int .i64 ((punctualref_sixOf.f e1).a2), .int .i64 ((punctualref_sixOf.f e1).a3), .int .i64 ((punctualref_sixOf.f e1).a4), .int .i64 ((punctualref_sixOf.f e1).a5)]), (85, .int .i64 (s : Int))]
abbrev punctualref_CheckSet.B5 (K : Nat) (w0 : World) (l0 : List STask) (A0 : Option Addr) (c0 : Nat) (hR0 : RdL w0 A0 l0) (hL0 : l0.length ≤ c0) (b1 : Nat) (i1 : Nat) (hc3 : (i1 : Int) < (l0.length : Int)) (e1 : STask) (hx2 : l0[i1]? = some e1) (b2 : Nat) (q2 : Bool) (q5 : Bool) (hc9 : q5 = true) (hc10 : i1 ≤ l0.length) (b5 : Nat) (b6 : Nat) : (Unit ⊕ SFault) → Exit → Act → World → Prop := Exits 6 (fun (s : Unit) a w => St w0 w [Own.blk b2 (.cells #[.string e1.Name, .int .i64 e1.C, .int .i64 e1.T, .int .i64 e1.D, .int .i64 e1.J, .int .i64 e1.O, .int .i64 e1.P] 46 (0, 0)), Own.blk b1 (.cells #[.int .i64 0, .int .i64 0] 26 (0, 0))] ∧ Frm 113 a [(0, .slice A0 l0.length c0), (2, .pointer (some ⟨b1, 0, none⟩)), (3, .int .i64 (i1 : Int)), (4, .pointer (some ⟨b2, 0, none⟩)), (22, .slice A0 l0.length c0), (23, .int .i64 (l0.length : Int)), (24, .int .i64 (i1 : Int))]) (Rets Tryd.prog Tryd.f23 (punctualref_CheckSet.Post w0))
theorem punctualref_CheckSet_r5 (K : Nat) (w0 : World) (l0 : List STask) (A0 : Option Addr) (c0 : Nat) (hR0 : RdL w0 A0 l0) (hL0 : l0.length ≤ c0) (b1 : Nat) (i1 : Nat) (hc3 : (i1 : Int) < (l0.length : Int)) (e1 : STask) (hx2 : l0[i1]? = some e1) (b2 : Nat) (q2 : Bool) (q5 : Bool) (hc9 : q5 = true) (hc10 : i1 ≤ l0.length) (b5 : Nat) (b6 : Nat) (s : Nat) (o : Nat ⊕ (Unit ⊕ SFault)) (h : punctualref_CheckSet.r5 i1 e1 s = some o) (a : Act) (w : World) (hA : punctualref_CheckSet.A5 K w0 l0 A0 c0 hR0 hL0 b1 i1 hc3 e1 hx2 b2 q2 q5 hc9 hc10 b5 b6 s a w) (Q : Exit → Act → World → Prop) (hQ : ∀ x a w, Outs (punctualref_CheckSet.A5 K w0 l0 A0 c0 hR0 hL0 b1 i1 hc3 e1 hx2 b2 q2 q5 hc9 hc10 b5 b6) (punctualref_CheckSet.B5 K w0 l0 A0 c0 hR0 hL0 b1 i1 hc3 e1 hx2 b2 q2 q5 hc9 hc10 b5 b6) o x a w → Q x a w) : (subF Tryd.f23 [1, 1, 0, 1, 0, 0, 1, 1, 0, 0, 1, 1, 1, 1, 1, 1, 0, 1, 0, 0]).wp Tryd.prog Q a w := by
  obtain ⟨i3, hs⟩ : ∃ z, z = s := ⟨s, rfl⟩
  subst hs
  obtain ⟨hS, hF⟩ := hA
  replace hS : St w0 w [Own.blk b6 (.cells #[.int .i64 10000, .int .i64 10000, .int .i64 10000, .int .i64 10000, .int .i64 10000, .int .i64 1000] 94 (0, 0)), Own.blk b5 (.cells #[.int .i64 1, .int .i64 1, .int .i64 1, .int .i64 0, .int .i64 0, .int .i64 0] 94 (0, 0)), Own.blk b2 (.cells #[.string e1.Name, .int .i64 e1.C, .int .i64 e1.T, .int .i64 e1.D, .int .i64 e1.J, .int .i64 e1.O, .int .i64 e1.P] 46 (0, 0)), Own.blk b1 (.cells #[.int .i64 0, .int .i64 0] 26 (0, 0))] := hS
  simp only [punctualref_CheckSet.r5] at h
  refine (?_ : WE Tryd.prog 113 (subF Tryd.f23 [1, 1, 0, 1, 0, 0, 1, 1, 0, 0, 1, 1, 1, 1, 1, 1, 0, 1, 0, 0]) Q [(0, .slice A0 l0.length c0), (2, .pointer (some ⟨b1, 0, none⟩)), (3, .int .i64 (i1 : Int)), (4, .pointer (some ⟨b2, 0, none⟩)), (9, .pointer (some ⟨b5, 0, none⟩)), (10, .pointer (some ⟨b6, 0, none⟩)), (22, .slice A0 l0.length c0), (23, .int .i64 (l0.length : Int)), (24, .int .i64 (i1 : Int)), (84, .agg #[.int .i64 ((punctualref_sixOf.f e1).a0), .int .i64 ((punctualref_sixOf.f e1).a1), .int .i64 ((punctualref_sixOf.f e1).a2), .int .i64 ((punctualref_sixOf.f e1).a3), .int .i64 ((punctualref_sixOf.f e1).a4), .int .i64 ((punctualref_sixOf.f e1).a5)]), (85, .int .i64 (i3 : Int))] w) a hF
  clear hF a
  refine we_seq fun K31 hK31 => ?_
  refine we_region [(0, 0)] rfl ?_
  refine ge_batch [0] (ans := []) (vs := [(86, .bool (decide ((i3 : Int) < 6)))]) (l := []) (by kernel_rfl) trivial ?_
  refine ge_nil fun a hF => hK31 _ _ ?_ a hF
  refine we_seq fun K32 hK32 => ?_
  by_cases hc13 : (i3 : Int) < 6
  · rw [if_pos hc13] at h
    refine we_known (t := 86) (b := decide ((i3 : Int) < 6)) (v := true) (by kernel_rfl) (decide_eq_true hc13) ?_
    refine we_true (by kernel_rfl) ?_
    refine we_skip fun a hF => hK32 _ _ ?_ a hF
    refine we_seq fun K33 hK33 => ?_
    refine we_block ?_
    refine we_seq fun K34 hK34 => ?_
    refine we_region [(0, 0), (1, 0), (2, 0), (3, 0)] rfl ?_
    refine ge_batch [0] (ans := []) (vs := [(87, .int .i64 (i3 : Int))]) (l := []) (by kernel_rfl) trivial ?_
    rcases hx9 : ([(punctualref_sixOf.f e1).a0, (punctualref_sixOf.f e1).a1, (punctualref_sixOf.f e1).a2, (punctualref_sixOf.f e1).a3, (punctualref_sixOf.f e1).a4, (punctualref_sixOf.f e1).a5] : List Int)[i3]? with _ | e3
    · rw [hx9] at h; cases h
    rw [hx9] at h
    simp only [] at h
    refine ge_arr2 (α := Int) (d := 88) (ty := 3) (t := 94) (len := 6) (el := 3) (x := (.tmp 84)) (y := (.tmp 85)) (k' := .i64) (j := (i3 : Int)) (jn := i3) (l := ([(punctualref_sixOf.f e1).a0, (punctualref_sixOf.f e1).a1, (punctualref_sixOf.f e1).a2, (punctualref_sixOf.f e1).a3, (punctualref_sixOf.f e1).a4, (punctualref_sixOf.f e1).a5] : List Int)) (u := e3) (cs := #[.int .i64 ((punctualref_sixOf.f e1).a0), .int .i64 ((punctualref_sixOf.f e1).a1), .int .i64 ((punctualref_sixOf.f e1).a2), .int .i64 ((punctualref_sixOf.f e1).a3), .int .i64 ((punctualref_sixOf.f e1).a4), .int .i64 ((punctualref_sixOf.f e1).a5)]) (v := .int .i64 e3) (by kernel_rfl) (by kernel_rfl) rfl (by kernel_rfl) (by kernel_rfl) (by kernel_rfl) rfl rfl rfl hx9 rfl (fun w' => by kernel_rfl) ?_
    refine ge_batch [2, 3] (ans := []) (vs := [(12, .int .i64 e3), (11, .int .i64 (i3 : Int))]) (l := []) (by kernel_rfl) trivial ?_
    refine ge_nil fun a hF => hK34 _ _ ?_ a hF
    refine we_seq fun K35 hK35 => ?_
    refine we_region [(0, 0), (1, 0), (2, 0), (3, 0), (4, 0), (5, 0), (6, 0), (7, 0), (8, 0), (9, 0), (10, 0), (11, 0)] rfl ?_
    refine ge_batch [0, 1] (ans := []) (vs := [(90, .int .i64 (i3 : Int)), (89, .int .i64 e3)]) (l := []) (by kernel_rfl) trivial ?_
    rcases hx10 : ([1, 1, 1, 0, 0, 0] : List Int)[i3]? with _ | e4
    · rw [hx10] at h; cases h
    rw [hx10] at h
    simp only [] at h
    refine ge_arrAddr (d := 91) (ty := 0) (t := 94) (len := 6) (el := 3) (b := b5) (o0 := 0) (sz := 1) (x := (.tmp 9)) (y := (.tmp 90)) (k' := .i64) (j := (i3 : Int)) (jn := i3) (by kernel_rfl) (by kernel_rfl) (by kernel_rfl) (by kernel_rfl) (by kernel_rfl) rfl (lt_of_get hx10) ?_
    refine ge_batch [3, 4, 5] (ans := [.val (.int .i64 e4)]) (vs := [(94, .bool (decide (e3 < e4))), (93, .bool (decide (e3 < e4))), (92, .int .i64 e4)]) (l := [.loaded ⟨b5, 0 + i3 * 1, none⟩ (.int .i64 e4)]) (by kernel_rfl) ⟨hS.cellA 1 (pre := []) (post := []) (l := ([1, 1, 1, 0, 0, 0] : List Int)) rfl rfl rfl hx10 rfl rfl, trivial⟩ ?_
    by_cases hc14 : e3 < e4
    · rw [if_pos hc14] at h
      refine ge_known (t := 94) (b := decide (e3 < e4)) (c := true) (by kernel_rfl) (decide_eq_true hc14) ?_
      refine ge_batch [6, 7, 8, 9, 10, 11] (ans := []) (vs := [(100, .bool true), (99, undef), (98, undef), (97, undef), (96, undef), (95, undef)]) (l := []) (by kernel_rfl) trivial ?_
      refine ge_nil fun a hF => hK35 _ _ ?_ a hF
      refine we_true (by kernel_rfl) ?_
      refine we_seq fun K36 hK36 => ?_
      refine we_region [(0, 0), (1, 1), (2, 2)] rfl ?_
      refine ge_batch [0] (ans := []) (vs := [(101, .int .i64 (i1 : Int))]) (l := []) (by kernel_rfl) trivial ?_
      refine ge_call (d := some 102) (f := 21) (args := #[.int .i64 3, .int .i64 (i1 : Int)]) (by kernel_rfl) (punctualref_F_ok 3 (i1 : Int) _ _ rfl) ?_
      rintro _ w21 ⟨rfl, hS63⟩
      refine ⟨_, rfl, hS63.below, ?_⟩
      have hS64 := hS.call hS63
      have hS65 := hS64.bring 3 rfl
      refine ge_set (b := b1) (j := 0) (cs := #[.int .i64 0, .int .i64 0]) (t := 26) (vs := [.int .i64 ((punctualref_F.f 3 (i1 : Int)).Code), .int .i64 ((punctualref_F.f 3 (i1 : Int)).At)]) hS65 (by kernel_rfl) rfl rfl fun w22 hS66 => ?_
      have hS67 : St w0 w22 [Own.blk b1 (.cells #[.int .i64 ((punctualref_F.f 3 (i1 : Int)).Code), .int .i64 ((punctualref_F.f 3 (i1 : Int)).At)] 26 (0, 0)), Own.blk b6 (.cells #[.int .i64 10000, .int .i64 10000, .int .i64 10000, .int .i64 10000, .int .i64 10000, .int .i64 1000] 94 (0, 0)), Own.blk b5 (.cells #[.int .i64 1, .int .i64 1, .int .i64 1, .int .i64 0, .int .i64 0, .int .i64 0] 94 (0, 0)), Own.blk b2 (.cells #[.string e1.Name, .int .i64 e1.C, .int .i64 e1.T, .int .i64 e1.D, .int .i64 e1.J, .int .i64 e1.O, .int .i64 e1.P] 46 (0, 0))] := hS66
      refine ge_nil fun a hF => hK36 _ _ ?_ a hF
      have hS68 := hS67.takeN 0
      obtain rfl := Option.some.inj h
      exact we_ret fun a hF => hQ _ _ _ (Outs.out nofun (Exits.on ⟨rfl, (post_ret (rs := [.cell 2 26]) (ans := [.val (.int .i64 ((punctualref_F.f 3 (i1 : Int)).Code)), .val (.int .i64 ((punctualref_F.f 3 (i1 : Int)).At))]) (vs := [.agg #[.int .i64 ((punctualref_F.f 3 (i1 : Int)).Code), .int .i64 ((punctualref_F.f 3 (i1 : Int)).At)]]) (l := [.loaded ⟨b1, 0, none⟩ (.int .i64 ((punctualref_F.f 3 (i1 : Int)).Code)), .loaded ⟨b1, 1, none⟩ (.int .i64 ((punctualref_F.f 3 (i1 : Int)).At))]) rfl (by kernel_rfl) ⟨hS67.cell 0 rfl rfl, hS67.cell 0 rfl rfl, trivial⟩ ⟨rfl, hS68⟩) a hF⟩))
    · rw [if_neg hc14] at h
      refine ge_known (t := 94) (b := decide (e3 < e4)) (c := false) (by kernel_rfl) (decide_eq_false hc14) ?_
      refine ge_batch [6, 7] (ans := []) (vs := [(96, .int .i64 (i3 : Int)), (95, .int .i64 e3)]) (l := []) (by kernel_rfl) trivial ?_
      rcases hx11 : ([10000, 10000, 10000, 10000, 10000, 1000] : List Int)[i3]? with _ | e5
      · rw [hx11] at h; cases h
      rw [hx11] at h
      simp only [] at h
      refine ge_arrAddr (d := 97) (ty := 0) (t := 94) (len := 6) (el := 3) (b := b6) (o0 := 0) (sz := 1) (x := (.tmp 10)) (y := (.tmp 96)) (k' := .i64) (j := (i3 : Int)) (jn := i3) (by kernel_rfl) (by kernel_rfl) (by kernel_rfl) (by kernel_rfl) (by kernel_rfl) rfl (lt_of_get hx11) ?_
      refine ge_batch [9, 10, 11] (ans := [.val (.int .i64 e5)]) (vs := [(100, .bool (decide (e3 > e5))), (99, .bool (decide (e3 > e5))), (98, .int .i64 e5)]) (l := [.loaded ⟨b6, 0 + i3 * 1, none⟩ (.int .i64 e5)]) (by kernel_rfl) ⟨hS.cellA 0 (pre := []) (post := []) (l := ([10000, 10000, 10000, 10000, 10000, 1000] : List Int)) rfl rfl rfl hx11 rfl rfl, trivial⟩ ?_
      refine ge_nil fun a hF => hK35 _ _ ?_ a hF
      by_cases hc15 : e3 > e5
      · rw [if_pos hc15] at h
        refine we_known (t := 100) (b := decide (e3 > e5)) (v := true) (by kernel_rfl) (decide_eq_true hc15) ?_
        refine we_true (by kernel_rfl) ?_
        refine we_seq fun K37 hK37 => ?_
        refine we_region [(0, 0), (1, 1), (2, 2)] rfl ?_
        refine ge_batch [0] (ans := []) (vs := [(101, .int .i64 (i1 : Int))]) (l := []) (by kernel_rfl) trivial ?_
        refine ge_call (d := some 102) (f := 21) (args := #[.int .i64 3, .int .i64 (i1 : Int)]) (by kernel_rfl) (punctualref_F_ok 3 (i1 : Int) _ _ rfl) ?_
        rintro _ w23 ⟨rfl, hS69⟩
        refine ⟨_, rfl, hS69.below, ?_⟩
        have hS70 := hS.call hS69
        have hS71 := hS70.bring 3 rfl
        refine ge_set (b := b1) (j := 0) (cs := #[.int .i64 0, .int .i64 0]) (t := 26) (vs := [.int .i64 ((punctualref_F.f 3 (i1 : Int)).Code), .int .i64 ((punctualref_F.f 3 (i1 : Int)).At)]) hS71 (by kernel_rfl) rfl rfl fun w24 hS72 => ?_
        have hS73 : St w0 w24 [Own.blk b1 (.cells #[.int .i64 ((punctualref_F.f 3 (i1 : Int)).Code), .int .i64 ((punctualref_F.f 3 (i1 : Int)).At)] 26 (0, 0)), Own.blk b6 (.cells #[.int .i64 10000, .int .i64 10000, .int .i64 10000, .int .i64 10000, .int .i64 10000, .int .i64 1000] 94 (0, 0)), Own.blk b5 (.cells #[.int .i64 1, .int .i64 1, .int .i64 1, .int .i64 0, .int .i64 0, .int .i64 0] 94 (0, 0)), Own.blk b2 (.cells #[.string e1.Name, .int .i64 e1.C, .int .i64 e1.T, .int .i64 e1.D, .int .i64 e1.J, .int .i64 e1.O, .int .i64 e1.P] 46 (0, 0))] := hS72
        refine ge_nil fun a hF => hK37 _ _ ?_ a hF
        have hS74 := hS73.takeN 0
        obtain rfl := Option.some.inj h
        exact we_ret fun a hF => hQ _ _ _ (Outs.out nofun (Exits.on ⟨rfl, (post_ret (rs := [.cell 2 26]) (ans := [.val (.int .i64 ((punctualref_F.f 3 (i1 : Int)).Code)), .val (.int .i64 ((punctualref_F.f 3 (i1 : Int)).At))]) (vs := [.agg #[.int .i64 ((punctualref_F.f 3 (i1 : Int)).Code), .int .i64 ((punctualref_F.f 3 (i1 : Int)).At)]]) (l := [.loaded ⟨b1, 0, none⟩ (.int .i64 ((punctualref_F.f 3 (i1 : Int)).Code)), .loaded ⟨b1, 1, none⟩ (.int .i64 ((punctualref_F.f 3 (i1 : Int)).At))]) rfl (by kernel_rfl) ⟨hS73.cell 0 rfl rfl, hS73.cell 0 rfl rfl, trivial⟩ ⟨rfl, hS74⟩) a hF⟩))
      · rw [if_neg hc15] at h
        refine we_known (t := 100) (b := decide (e3 > e5)) (v := false) (by kernel_rfl) (decide_eq_false hc15) ?_
        refine we_false (by kernel_rfl) ?_
        refine we_skip fun a hF => hK33 _ _ ?_ a hF
        refine we_region [(0, 0), (1, 0)] rfl ?_
        refine ge_addn (d := 103) (ty := 3) (x := (.tmp 85)) (y := (.const (.int .i64 1))) (t := 3) (t2 := 3) (k := .i64) (m := i3) (by kernel_rfl) (by kernel_rfl) (by kernel_rfl) (by omega) ?_
        refine ge_batch [1] (ans := []) (vs := [(85, .int .i64 ((i3 + 1 : Nat) : Int))]) (l := []) (by kernel_rfl) trivial ?_
        have hS75 := hS.bring 3 rfl
        have hS76 := hS75.bring 3 rfl
        have hS77 := hS76.bring 3 rfl
        have hS78 := hS77.bring 3 rfl
        obtain rfl := Option.some.inj h
        exact ge_nil fun a hF => hQ _ _ _ (Outs.again ⟨hS78, hF.weaken ⟨by kernel_rfl, by kernel_rfl, by kernel_rfl, by kernel_rfl, by kernel_rfl, by kernel_rfl, by kernel_rfl, by kernel_rfl, by kernel_rfl, by kernel_rfl, by kernel_rfl, trivial⟩⟩)
  · rw [if_neg hc13] at h
    refine we_known (t := 86) (b := decide ((i3 : Int) < 6)) (v := false) (by kernel_rfl) (decide_eq_false hc13) ?_
    refine we_false (by kernel_rfl) ?_
    have hS79 := hS.bring 3 rfl
    have hS80 := hS79.bring 3 rfl
    have hS81 := hS80.takeN 2
    obtain rfl := Option.some.inj h
    exact we_exit fun a hF => hQ _ _ _ (Outs.out nofun (Exits.here ⟨hS81, hF.weaken ⟨by kernel_rfl, by kernel_rfl, by kernel_rfl, by kernel_rfl, by kernel_rfl, by kernel_rfl, by kernel_rfl, trivial⟩⟩))
abbrev punctualref_CheckSet.A1 (K : Nat) (w0 : World) (l0 : List STask) (A0 : Option Addr) (c0 : Nat) (hR0 : RdL w0 A0 l0) (hL0 : l0.length ≤ c0) (b1 : Nat) : Nat → Act → World → Prop := fun (s : Nat) a w => St w0 w [Own.blk b1 (.cells #[.int .i64 0, .int .i64 0] 26 (0, 0))] ∧ Frm 113 a [(0, .slice A0 l0.length c0), (2, .pointer (some ⟨b1, 0, none⟩)), (22, .slice A0 l0.length c0), (23, .int .i64 (l0.length : Int)), (24, .int .i64 (s : Int))]
abbrev punctualref_CheckSet.B1 (K : Nat) (w0 : World) (l0 : List STask) (A0 : Option Addr) (c0 : Nat) (hR0 : RdL w0 A0 l0) (hL0 : l0.length ≤ c0) (b1 : Nat) : (Unit ⊕ SFault) → Exit → Act → World → Prop := Exits 0 (fun (s : Unit) a w => St w0 w [Own.blk b1 (.cells #[.int .i64 0, .int .i64 0] 26 (0, 0))] ∧ Frm 113 a [(2, .pointer (some ⟨b1, 0, none⟩))]) (Rets Tryd.prog Tryd.f23 (punctualref_CheckSet.Post w0))
theorem punctualref_CheckSet_r1 (K : Nat) (w0 : World) (l0 : List STask) (A0 : Option Addr) (c0 : Nat) (hR0 : RdL w0 A0 l0) (hL0 : l0.length ≤ c0) (b1 : Nat) (s : Nat) (o : Nat ⊕ (Unit ⊕ SFault)) (h : punctualref_CheckSet.r1 K l0 s = some o) (a : Act) (w : World) (hA : punctualref_CheckSet.A1 K w0 l0 A0 c0 hR0 hL0 b1 s a w) (Q : Exit → Act → World → Prop) (hQ : ∀ x a w, Outs (punctualref_CheckSet.A1 K w0 l0 A0 c0 hR0 hL0 b1) (punctualref_CheckSet.B1 K w0 l0 A0 c0 hR0 hL0 b1) o x a w → Q x a w) : (subF Tryd.f23 [1, 1, 0, 1, 0, 0]).wp Tryd.prog Q a w := by
  obtain ⟨i1, hs⟩ : ∃ z, z = s := ⟨s, rfl⟩
  subst hs
  obtain ⟨hS, hF⟩ := hA
  replace hS : St w0 w [Own.blk b1 (.cells #[.int .i64 0, .int .i64 0] 26 (0, 0))] := hS
  simp only [punctualref_CheckSet.r1] at h
  refine (?_ : WE Tryd.prog 113 (subF Tryd.f23 [1, 1, 0, 1, 0, 0]) Q [(0, .slice A0 l0.length c0), (2, .pointer (some ⟨b1, 0, none⟩)), (22, .slice A0 l0.length c0), (23, .int .i64 (l0.length : Int)), (24, .int .i64 (i1 : Int))] w) a hF
  clear hF a
  refine we_seq fun K8 hK8 => ?_
  refine we_region [(0, 0)] rfl ?_
  refine ge_batch [0] (ans := []) (vs := [(25, .bool (decide ((i1 : Int) < (l0.length : Int))))]) (l := []) (by kernel_rfl) trivial ?_
  refine ge_nil fun a hF => hK8 _ _ ?_ a hF
  refine we_seq fun K9 hK9 => ?_
  by_cases hc3 : (i1 : Int) < (l0.length : Int)
  · rw [if_pos hc3] at h
    refine we_known (t := 25) (b := decide ((i1 : Int) < (l0.length : Int))) (v := true) (by kernel_rfl) (decide_eq_true hc3) ?_
    refine we_true (by kernel_rfl) ?_
    refine we_skip fun a hF => hK9 _ _ ?_ a hF
    refine we_seq fun K10 hK10 => ?_
    refine we_block ?_
    refine we_seq fun K11 hK11 => ?_
    refine we_region [(0, 0), (1, 0), (2, 0), (3, 1), (4, 0), (5, 2)] rfl ?_
    refine ge_batch [0] (ans := []) (vs := [(26, .int .i64 (i1 : Int))]) (l := []) (by kernel_rfl) trivial ?_
    rcases hx2 : l0[i1]? with _ | e1
    · rw [hx2] at h; cases h
    rw [hx2] at h
    simp only [] at h
    refine ge_index (d := 27) (ty := 0) (t := 40) (el := 46) (sz := 7) (m := l0.length) (c := c0) (x := (.tmp 22)) (y := (.tmp 24)) (A := A0) (k' := .i64) (j := (i1 : Int)) (jn := i1) (b0 := blkOf A0) (o0 := offOf A0) (by kernel_rfl) (by kernel_rfl) (by kernel_rfl) (by kernel_rfl) (by kernel_rfl) ((hS.rd hR0).eqSome (pos_of_get hx2)) rfl (lt_of_get hx2) ?_
    refine ge_batch [2] (ans := [.val (.string e1.Name), .val (.int .i64 e1.C), .val (.int .i64 e1.T), .val (.int .i64 e1.D), .val (.int .i64 e1.J), .val (.int .i64 e1.O), .val (.int .i64 e1.P)]) (vs := [(28, .agg #[.string e1.Name, .int .i64 e1.C, .int .i64 e1.T, .int .i64 e1.D, .int .i64 e1.J, .int .i64 e1.O, .int .i64 e1.P])]) (l := [.loaded ⟨blkOf A0, offOf A0 + i1 * 7, none⟩ (.string e1.Name), .loaded ⟨blkOf A0, offOf A0 + i1 * 7 + 1, none⟩ (.int .i64 e1.C), .loaded ⟨blkOf A0, offOf A0 + i1 * 7 + 2, none⟩ (.int .i64 e1.T), .loaded ⟨blkOf A0, offOf A0 + i1 * 7 + 3, none⟩ (.int .i64 e1.D), .loaded ⟨blkOf A0, offOf A0 + i1 * 7 + 4, none⟩ (.int .i64 e1.J), .loaded ⟨blkOf A0, offOf A0 + i1 * 7 + 5, none⟩ (.int .i64 e1.O), .loaded ⟨blkOf A0, offOf A0 + i1 * 7 + 6, none⟩ (.int .i64 e1.P)]) (by kernel_rfl) ⟨RdL.cell (j := 0) (hS.rd hR0) hx2 rfl, RdL.cell (j := 1) (hS.rd hR0) hx2 rfl, RdL.cell (j := 2) (hS.rd hR0) hx2 rfl, RdL.cell (j := 3) (hS.rd hR0) hx2 rfl, RdL.cell (j := 4) (hS.rd hR0) hx2 rfl, RdL.cell (j := 5) (hS.rd hR0) hx2 rfl, RdL.cell (j := 6) (hS.rd hR0) hx2 rfl, trivial⟩ ?_
    refine ge_new (d := some 4) (o := .cells #[.string (⟨#[]⟩), .int .i64 0, .int .i64 0, .int .i64 0, .int .i64 0, .int .i64 0, .int .i64 0] 46) (v := fun b => .pointer (some ⟨b, 0, none⟩)) hS (fun b => by kernel_rfl) fun b2 w7 hx3 hS13 => ?_
    refine ge_batch [4] (ans := []) (vs := [(3, .int .i64 (i1 : Int))]) (l := []) (by kernel_rfl) trivial ?_
    refine ge_set (b := b2) (j := 0) (cs := #[.string (⟨#[]⟩), .int .i64 0, .int .i64 0, .int .i64 0, .int .i64 0, .int .i64 0, .int .i64 0]) (t := 46) (vs := [.string e1.Name, .int .i64 e1.C, .int .i64 e1.T, .int .i64 e1.D, .int .i64 e1.J, .int .i64 e1.O, .int .i64 e1.P]) hS13 (by kernel_rfl) rfl rfl fun w8 hS14 => ?_
    have hS15 : St w0 w8 [Own.blk b2 (.cells #[.string e1.Name, .int .i64 e1.C, .int .i64 e1.T, .int .i64 e1.D, .int .i64 e1.J, .int .i64 e1.O, .int .i64 e1.P] 46 (0, 0)), Own.blk b1 (.cells #[.int .i64 0, .int .i64 0] 26 (0, 0))] := hS14
    refine ge_nil fun a hF => hK11 _ _ ?_ a hF
    refine we_seq fun K12 hK12 => ?_
    rcases hq4 : punctualref_CheckSet.p2 e1 with _ | (q2 | rr4)
    · rw [hq4] at h; cases h
    · rw [hq4] at h
      simp only [] at h
      refine we_keep (e' := [(0, .slice A0 l0.length c0), (2, .pointer (some ⟨b1, 0, none⟩)), (3, .int .i64 (i1 : Int)), (4, .pointer (some ⟨b2, 0, none⟩)), (22, .slice A0 l0.length c0), (23, .int .i64 (l0.length : Int)), (24, .int .i64 (i1 : Int)), (25, .bool true), (26, .int .i64 (i1 : Int)), (27, .pointer (some ⟨blkOf A0, offOf A0 + i1 * 7, none⟩)), (28, .agg #[.string e1.Name, .int .i64 e1.C, .int .i64 e1.T, .int .i64 e1.D, .int .i64 e1.J, .int .i64 e1.O, .int .i64 e1.P])]) ⟨by kernel_rfl, by kernel_rfl, by kernel_rfl, by kernel_rfl, by kernel_rfl, by kernel_rfl, by kernel_rfl, by kernel_rfl, by kernel_rfl, by kernel_rfl, by kernel_rfl, trivial⟩ (punctualref_CheckSet_p2 K w0 l0 A0 c0 hR0 hL0 b1 i1 hc3 e1 hx2 b2 _ hq4 _ hS15 _ ?_)
      rintro _ a w9 ⟨rfl, hS20, hF⟩
      replace hS20 : St w0 w9 [Own.blk b2 (.cells #[.string e1.Name, .int .i64 e1.C, .int .i64 e1.T, .int .i64 e1.D, .int .i64 e1.J, .int .i64 e1.O, .int .i64 e1.P] 46 (0, 0)), Own.blk b1 (.cells #[.int .i64 0, .int .i64 0] 26 (0, 0))] := hS20
      refine hK12 [(0, .slice A0 l0.length c0), (2, .pointer (some ⟨b1, 0, none⟩)), (3, .int .i64 (i1 : Int)), (4, .pointer (some ⟨b2, 0, none⟩)), (5, .bool q2), (22, .slice A0 l0.length c0), (23, .int .i64 (l0.length : Int)), (24, .int .i64 (i1 : Int))] w9 ?_ a hF
      refine we_seq fun K13 hK13 => ?_
      refine we_seq fun K14 hK14 => ?_
      refine we_region [(0, 0)] rfl ?_
      refine ge_batch [0] (ans := []) (vs := [(6, .int .i64 0)]) (l := []) (by kernel_rfl) trivial ?_
      refine ge_nil fun a hF => hK14 _ _ ?_ a hF
      refine we_block ?_
      have hS21 := hS20.bring 1 rfl
      have hS22 := hS21.bring 1 rfl
      rcases hq5 : iter (punctualref_CheckSet.r3 e1) K (q2, 0) with _ | (q5 | rr3)
      · rw [hq5] at h; cases h
      · rw [hq5] at h
        simp only [] at h
        refine we_iter (A := punctualref_CheckSet.A3 K w0 l0 A0 c0 hR0 hL0 b1 i1 hc3 e1 hx2 b2 q2) (B := punctualref_CheckSet.B3 K w0 l0 A0 c0 hR0 hL0 b1 i1 hc3 e1 hx2 b2 q2) hq5 (fun a hF => ⟨hS22, hF.weaken ⟨by kernel_rfl, by kernel_rfl, by kernel_rfl, by kernel_rfl, by kernel_rfl, by kernel_rfl, by kernel_rfl, by kernel_rfl, by kernel_rfl, trivial⟩⟩) (fun s o hf a w hA Q hQ => punctualref_CheckSet_r3 K w0 l0 A0 c0 hR0 hL0 b1 i1 hc3 e1 hx2 b2 q2 s o hf a w hA Q hQ) ?_
        rintro _ a w10 _ ⟨rfl, hS31, hF⟩
        replace hS31 : St w0 w10 [Own.blk b2 (.cells #[.string e1.Name, .int .i64 e1.C, .int .i64 e1.T, .int .i64 e1.D, .int .i64 e1.J, .int .i64 e1.O, .int .i64 e1.P] 46 (0, 0)), Own.blk b1 (.cells #[.int .i64 0, .int .i64 0] 26 (0, 0))] := hS31
        refine hK13 [(0, .slice A0 l0.length c0), (2, .pointer (some ⟨b1, 0, none⟩)), (3, .int .i64 (i1 : Int)), (4, .pointer (some ⟨b2, 0, none⟩)), (5, .bool q5), (22, .slice A0 l0.length c0), (23, .int .i64 (l0.length : Int)), (24, .int .i64 (i1 : Int))] w10 ?_ a hF
        refine we_seq fun K18 hK18 => ?_
        refine we_seq fun K19 hK19 => ?_
        refine we_region [(0, 0), (1, 0)] rfl ?_
        refine ge_batch [0, 1] (ans := []) (vs := [(62, .bool (!q5)), (61, .bool q5)]) (l := []) (by kernel_rfl) trivial ?_
        refine ge_nil fun a hF => hK19 _ _ ?_ a hF
        by_cases hc9 : q5 = true
        · rw [if_pos hc9] at h
          refine we_known (t := 62) (b := !q5) (v := false) (by kernel_rfl) (congrArg (fun z => !z) hc9) ?_
          refine we_false (by kernel_rfl) ?_
          refine we_skip fun a hF => hK18 _ _ ?_ a hF
          refine we_seq fun K20 hK20 => ?_
          refine we_seq fun K21 hK21 => ?_
          refine we_region [(0, 0), (1, 0), (2, 0), (3, 0), (4, 0)] rfl ?_
          refine ge_batch [0, 1] (ans := []) (vs := [(66, .int .i64 (i1 : Int)), (65, .slice A0 l0.length c0)]) (l := []) (by kernel_rfl) trivial ?_
          by_cases hc10 : i1 ≤ l0.length
          · rw [if_pos hc10] at h
            refine ge_part (d := 67) (ty := 40) (t := 40) (el := 46) (sz := 7) (m := l0.length) (c := c0) (lo := 0) (hi := i1) (x := (.tmp 65)) (xl := none) (xh := some (.tmp 66)) (A := A0) (by kernel_rfl) (by kernel_rfl) rfl ⟨.i64, (i1 : Int), by kernel_rfl, rfl⟩ (by kernel_rfl) (by kernel_rfl) (by have f0 := hc10; have f1 := hL0; omega) (by have f0 := hc10; have f1 := hL0; omega) ?_
            refine ge_same (t := 67) (v := .slice (subA A0 c0 0 7) (i1 - 0) (c0 - 0)) (v' := .slice (subA A0 c0 0 7) (((l0.take i1).drop 0).length) (c0 - 0)) (by kernel_rfl) (by have f0 := hc10; have f1 := hL0; rw [show i1 - 0 = ((l0.take i1).drop 0).length by simp only [List.length_drop, List.length_take]; omega]) ?_
            refine ge_batch [3, 4] (ans := []) (vs := [(69, .int .i64 0), (68, .int .i64 (((l0.take i1).drop 0).length : Int))]) (l := []) (by kernel_rfl) trivial ?_
            refine ge_nil fun a hF => hK21 _ _ ?_ a hF
            refine we_block ?_
            have hS32 := hS31.bring 1 rfl
            have hS33 := hS32.bring 1 rfl
            rcases hq7 : iter (punctualref_CheckSet.r4 l0 i1 e1) K 0 with _ | (_ | rr2)
            · rw [hq7] at h; cases h
            · rw [hq7] at h
              simp only [] at h
              refine we_iter (A := punctualref_CheckSet.A4 K w0 l0 A0 c0 hR0 hL0 b1 i1 hc3 e1 hx2 b2 q2 q5 hc9 hc10) (B := punctualref_CheckSet.B4 K w0 l0 A0 c0 hR0 hL0 b1 i1 hc3 e1 hx2 b2 q2 q5 hc9 hc10) hq7 (fun a hF => ⟨hS33, hF.weaken ⟨by kernel_rfl, by kernel_rfl, by kernel_rfl, by kernel_rfl, by kernel_rfl, by kernel_rfl, by kernel_rfl, by kernel_rfl, by kernel_rfl, by kernel_rfl, trivial⟩⟩) (fun s o hf a w hA Q hQ => punctualref_CheckSet_r4 K w0 l0 A0 c0 hR0 hL0 b1 i1 hc3 e1 hx2 b2 q2 q5 hc9 hc10 s o hf a w hA Q hQ) ?_
              rintro _ a w15 _ ⟨rfl, hS48, hF⟩
              replace hS48 : St w0 w15 [Own.blk b2 (.cells #[.string e1.Name, .int .i64 e1.C, .int .i64 e1.T, .int .i64 e1.D, .int .i64 e1.J, .int .i64 e1.O, .int .i64 e1.P] 46 (0, 0)), Own.blk b1 (.cells #[.int .i64 0, .int .i64 0] 26 (0, 0))] := hS48
              refine hK20 [(0, .slice A0 l0.length c0), (2, .pointer (some ⟨b1, 0, none⟩)), (3, .int .i64 (i1 : Int)), (4, .pointer (some ⟨b2, 0, none⟩)), (22, .slice A0 l0.length c0), (23, .int .i64 (l0.length : Int)), (24, .int .i64 (i1 : Int))] w15 ?_ a hF
              refine we_seq fun K28 hK28 => ?_
              refine we_region [(0, 0), (1, 0), (2, 1), (3, 1), (4, 2), (5, 2)] rfl ?_
              refine ge_batch [0, 1] (ans := []) (vs := [(82, .agg #[.int .i64 10000, .int .i64 10000, .int .i64 10000, .int .i64 10000, .int .i64 10000, .int .i64 1000]), (81, .agg #[.int .i64 1, .int .i64 1, .int .i64 1, .int .i64 0, .int .i64 0, .int .i64 0])]) (l := []) (by kernel_rfl) trivial ?_
              refine ge_new (d := some 9) (o := .cells #[.int .i64 0, .int .i64 0, .int .i64 0, .int .i64 0, .int .i64 0, .int .i64 0] 94) (v := fun b => .pointer (some ⟨b, 0, none⟩)) hS48 (fun b => by kernel_rfl) fun b5 w16 hx7 hS49 => ?_
              refine ge_new (d := some 10) (o := .cells #[.int .i64 0, .int .i64 0, .int .i64 0, .int .i64 0, .int .i64 0, .int .i64 0] 94) (v := fun b => .pointer (some ⟨b, 0, none⟩)) hS49 (fun b => by kernel_rfl) fun b6 w17 hx8 hS50 => ?_
              have hS51 := hS50.bring 1 rfl
              refine ge_set (b := b5) (j := 0) (cs := #[.int .i64 0, .int .i64 0, .int .i64 0, .int .i64 0, .int .i64 0, .int .i64 0]) (t := 94) (vs := [.int .i64 1, .int .i64 1, .int .i64 1, .int .i64 0, .int .i64 0, .int .i64 0]) hS51 (by kernel_rfl) rfl rfl fun w18 hS52 => ?_
              have hS53 : St w0 w18 [Own.blk b5 (.cells #[.int .i64 1, .int .i64 1, .int .i64 1, .int .i64 0, .int .i64 0, .int .i64 0] 94 (0, 0)), Own.blk b6 (.cells #[.int .i64 0, .int .i64 0, .int .i64 0, .int .i64 0, .int .i64 0, .int .i64 0] 94 (0, 0)), Own.blk b2 (.cells #[.string e1.Name, .int .i64 e1.C, .int .i64 e1.T, .int .i64 e1.D, .int .i64 e1.J, .int .i64 e1.O, .int .i64 e1.P] 46 (0, 0)), Own.blk b1 (.cells #[.int .i64 0, .int .i64 0] 26 (0, 0))] := hS52
              have hS54 := hS53.bring 1 rfl
              refine ge_set (b := b6) (j := 0) (cs := #[.int .i64 0, .int .i64 0, .int .i64 0, .int .i64 0, .int .i64 0, .int .i64 0]) (t := 94) (vs := [.int .i64 10000, .int .i64 10000, .int .i64 10000, .int .i64 10000, .int .i64 10000, .int .i64 1000]) hS54 (by kernel_rfl) rfl rfl fun w19 hS55 => ?_
              have hS56 : St w0 w19 [Own.blk b6 (.cells #[.int .i64 10000, .int .i64 10000, .int .i64 10000, .int .i64 10000, .int .i64 10000, .int .i64 1000] 94 (0, 0)), Own.blk b5 (.cells #[.int .i64 1, .int .i64 1, .int .i64 1, .int .i64 0, .int .i64 0, .int .i64 0] 94 (0, 0)), Own.blk b2 (.cells #[.string e1.Name, .int .i64 e1.C, .int .i64 e1.T, .int .i64 e1.D, .int .i64 e1.J, .int .i64 e1.O, .int .i64 e1.P] 46 (0, 0)), Own.blk b1 (.cells #[.int .i64 0, .int .i64 0] 26 (0, 0))] := hS55
              refine ge_nil fun a hF => hK28 _ _ ?_ a hF
              refine we_seq fun K29 hK29 => ?_
              refine we_seq fun K30 hK30 => ?_
              refine we_region [(0, 0), (1, 1), (2, 0)] rfl ?_
              refine ge_batch [0] (ans := [.val (.string e1.Name), .val (.int .i64 e1.C), .val (.int .i64 e1.T), .val (.int .i64 e1.D), .val (.int .i64 e1.J), .val (.int .i64 e1.O), .val (.int .i64 e1.P)]) (vs := [(83, .agg #[.string e1.Name, .int .i64 e1.C, .int .i64 e1.T, .int .i64 e1.D, .int .i64 e1.J, .int .i64 e1.O, .int .i64 e1.P])]) (l := [.loaded ⟨b2, 0, none⟩ (.string e1.Name), .loaded ⟨b2, 1, none⟩ (.int .i64 e1.C), .loaded ⟨b2, 2, none⟩ (.int .i64 e1.T), .loaded ⟨b2, 3, none⟩ (.int .i64 e1.D), .loaded ⟨b2, 4, none⟩ (.int .i64 e1.J), .loaded ⟨b2, 5, none⟩ (.int .i64 e1.O), .loaded ⟨b2, 6, none⟩ (.int .i64 e1.P)]) (by kernel_rfl) ⟨hS56.cell 2 rfl rfl, hS56.cell 2 rfl rfl, hS56.cell 2 rfl rfl, hS56.cell 2 rfl rfl, hS56.cell 2 rfl rfl, hS56.cell 2 rfl rfl, hS56.cell 2 rfl rfl, trivial⟩ ?_
              refine ge_call (d := some 84) (f := 66) (args := #[.agg #[.string e1.Name, .int .i64 e1.C, .int .i64 e1.T, .int .i64 e1.D, .int .i64 e1.J, .int .i64 e1.O, .int .i64 e1.P]]) (by kernel_rfl) (punctualref_sixOf_ok e1 _ _ rfl) ?_
              rintro _ w20 ⟨rfl, hS57⟩
              refine ⟨_, rfl, hS57.below, ?_⟩
              have hS58 := hS56.call hS57
              refine ge_batch [2] (ans := []) (vs := [(85, .int .i64 0)]) (l := []) (by kernel_rfl) trivial ?_
              refine ge_nil fun a hF => hK30 _ _ ?_ a hF
              refine we_block ?_
              have hS59 := hS58.bring 3 rfl
              have hS60 := hS59.bring 3 rfl
              have hS61 := hS60.bring 3 rfl
              have hS62 := hS61.bring 3 rfl
              rcases hq11 : iter (punctualref_CheckSet.r5 i1 e1) K 0 with _ | (_ | rr1)
              · rw [hq11] at h; cases h
              · rw [hq11] at h
                simp only [] at h
                refine we_iter (A := punctualref_CheckSet.A5 K w0 l0 A0 c0 hR0 hL0 b1 i1 hc3 e1 hx2 b2 q2 q5 hc9 hc10 b5 b6) (B := punctualref_CheckSet.B5 K w0 l0 A0 c0 hR0 hL0 b1 i1 hc3 e1 hx2 b2 q2 q5 hc9 hc10 b5 b6) hq11 (fun a hF => ⟨hS62, hF.weaken ⟨by kernel_rfl, by kernel_rfl, by kernel_rfl, by kernel_rfl, by kernel_rfl, by kernel_rfl, by kernel_rfl, by kernel_rfl, by kernel_rfl, by kernel_rfl, by kernel_rfl, trivial⟩⟩) (fun s o hf a w hA Q hQ => punctualref_CheckSet_r5 K w0 l0 A0 c0 hR0 hL0 b1 i1 hc3 e1 hx2 b2 q2 q5 hc9 hc10 b5 b6 s o hf a w hA Q hQ) ?_
                rintro _ a w25 _ ⟨rfl, hS82, hF⟩
                replace hS82 : St w0 w25 [Own.blk b2 (.cells #[.string e1.Name, .int .i64 e1.C, .int .i64 e1.T, .int .i64 e1.D, .int .i64 e1.J, .int .i64 e1.O, .int .i64 e1.P] 46 (0, 0)), Own.blk b1 (.cells #[.int .i64 0, .int .i64 0] 26 (0, 0))] := hS82
                refine hK29 [(0, .slice A0 l0.length c0), (2, .pointer (some ⟨b1, 0, none⟩)), (3, .int .i64 (i1 : Int)), (4, .pointer (some ⟨b2, 0, none⟩)), (22, .slice A0 l0.length c0), (23, .int .i64 (l0.length : Int)), (24, .int .i64 (i1 : Int))] w25 ?_ a hF
                refine we_seq fun K38 hK38 => ?_
                refine we_region [(0, 0), (1, 0), (2, 0), (3, 0), (4, 0)] rfl ?_
                refine ge_batch [0, 1, 2, 3, 4] (ans := [.val (.int .i64 e1.D), .val (.int .i64 e1.C)]) (vs := [(108, .bool (decide (e1.D < e1.C))), (107, .int .i64 e1.C), (106, .pointer (some ⟨b2, 1, none⟩)), (105, .int .i64 e1.D), (104, .pointer (some ⟨b2, 3, none⟩))]) (l := [.loaded ⟨b2, 3, none⟩ (.int .i64 e1.D), .loaded ⟨b2, 1, none⟩ (.int .i64 e1.C)]) (by kernel_rfl) ⟨hS82.cell 0 rfl rfl, hS82.cell 0 rfl rfl, trivial⟩ ?_
                refine ge_nil fun a hF => hK38 _ _ ?_ a hF
                by_cases hc16 : e1.D < e1.C
                · rw [if_pos hc16] at h
                  refine we_known (t := 108) (b := decide (e1.D < e1.C)) (v := true) (by kernel_rfl) (decide_eq_true hc16) ?_
                  refine we_true (by kernel_rfl) ?_
                  refine we_seq fun K39 hK39 => ?_
                  refine we_region [(0, 0), (1, 1), (2, 2)] rfl ?_
                  refine ge_batch [0] (ans := []) (vs := [(109, .int .i64 (i1 : Int))]) (l := []) (by kernel_rfl) trivial ?_
                  refine ge_call (d := some 110) (f := 21) (args := #[.int .i64 12, .int .i64 (i1 : Int)]) (by kernel_rfl) (punctualref_F_ok 12 (i1 : Int) _ _ rfl) ?_
                  rintro _ w26 ⟨rfl, hS83⟩
                  refine ⟨_, rfl, hS83.below, ?_⟩
                  have hS84 := hS82.call hS83
                  have hS85 := hS84.bring 1 rfl
                  refine ge_set (b := b1) (j := 0) (cs := #[.int .i64 0, .int .i64 0]) (t := 26) (vs := [.int .i64 ((punctualref_F.f 12 (i1 : Int)).Code), .int .i64 ((punctualref_F.f 12 (i1 : Int)).At)]) hS85 (by kernel_rfl) rfl rfl fun w27 hS86 => ?_
                  have hS87 : St w0 w27 [Own.blk b1 (.cells #[.int .i64 ((punctualref_F.f 12 (i1 : Int)).Code), .int .i64 ((punctualref_F.f 12 (i1 : Int)).At)] 26 (0, 0)), Own.blk b2 (.cells #[.string e1.Name, .int .i64 e1.C, .int .i64 e1.T, .int .i64 e1.D, .int .i64 e1.J, .int .i64 e1.O, .int .i64 e1.P] 46 (0, 0))] := hS86
                  refine ge_nil fun a hF => hK39 _ _ ?_ a hF
                  have hS88 := hS87.takeN 0
                  obtain rfl := Option.some.inj h
                  exact we_ret fun a hF => hQ _ _ _ (Outs.out nofun (Exits.on ⟨rfl, (post_ret (rs := [.cell 2 26]) (ans := [.val (.int .i64 ((punctualref_F.f 12 (i1 : Int)).Code)), .val (.int .i64 ((punctualref_F.f 12 (i1 : Int)).At))]) (vs := [.agg #[.int .i64 ((punctualref_F.f 12 (i1 : Int)).Code), .int .i64 ((punctualref_F.f 12 (i1 : Int)).At)]]) (l := [.loaded ⟨b1, 0, none⟩ (.int .i64 ((punctualref_F.f 12 (i1 : Int)).Code)), .loaded ⟨b1, 1, none⟩ (.int .i64 ((punctualref_F.f 12 (i1 : Int)).At))]) rfl (by kernel_rfl) ⟨hS87.cell 0 rfl rfl, hS87.cell 0 rfl rfl, trivial⟩ ⟨rfl, hS88⟩) a hF⟩))
                · rw [if_neg hc16] at h
                  refine we_known (t := 108) (b := decide (e1.D < e1.C)) (v := false) (by kernel_rfl) (decide_eq_false hc16) ?_
                  refine we_false (by kernel_rfl) ?_
                  refine we_skip fun a hF => hK10 _ _ ?_ a hF
                  refine we_region [(0, 0), (1, 0)] rfl ?_
                  refine ge_addn (d := 111) (ty := 3) (x := (.tmp 24)) (y := (.const (.int .i64 1))) (t := 3) (t2 := 3) (k := .i64) (m := i1) (by kernel_rfl) (by kernel_rfl) (by kernel_rfl) (by have h0 := hR0.small; omega) ?_
                  refine ge_batch [1] (ans := []) (vs := [(24, .int .i64 ((i1 + 1 : Nat) : Int))]) (l := []) (by kernel_rfl) trivial ?_
                  have hS89 := hS82.bring 1 rfl
                  have hS90 := hS89.takeN 1
                  obtain rfl := Option.some.inj h
                  exact ge_nil fun a hF => hQ _ _ _ (Outs.again ⟨hS90, hF.weaken ⟨by kernel_rfl, by kernel_rfl, by kernel_rfl, by kernel_rfl, by kernel_rfl, trivial⟩⟩)
              · rw [hq11] at h
                simp only [] at h
                refine we_iter (A := punctualref_CheckSet.A5 K w0 l0 A0 c0 hR0 hL0 b1 i1 hc3 e1 hx2 b2 q2 q5 hc9 hc10 b5 b6) (B := punctualref_CheckSet.B5 K w0 l0 A0 c0 hR0 hL0 b1 i1 hc3 e1 hx2 b2 q2 q5 hc9 hc10 b5 b6) hq11 (fun a hF => ⟨hS62, hF.weaken ⟨by kernel_rfl, by kernel_rfl, by kernel_rfl, by kernel_rfl, by kernel_rfl, by kernel_rfl, by kernel_rfl, by kernel_rfl, by kernel_rfl, by kernel_rfl, by kernel_rfl, trivial⟩⟩) (fun s o hf a w hA Q hQ => punctualref_CheckSet_r5 K w0 l0 A0 c0 hR0 hL0 b1 i1 hc3 e1 hx2 b2 q2 q5 hc9 hc10 b5 b6 s o hf a w hA Q hQ) ?_
                rintro _ a w1 _ ⟨rfl, hb⟩
                obtain rfl := Option.some.inj h
                exact hQ _ _ _ (Outs.out nofun (Exits.on ⟨rfl, hb⟩))
            · rw [hq7] at h
              simp only [] at h
              refine we_iter (A := punctualref_CheckSet.A4 K w0 l0 A0 c0 hR0 hL0 b1 i1 hc3 e1 hx2 b2 q2 q5 hc9 hc10) (B := punctualref_CheckSet.B4 K w0 l0 A0 c0 hR0 hL0 b1 i1 hc3 e1 hx2 b2 q2 q5 hc9 hc10) hq7 (fun a hF => ⟨hS33, hF.weaken ⟨by kernel_rfl, by kernel_rfl, by kernel_rfl, by kernel_rfl, by kernel_rfl, by kernel_rfl, by kernel_rfl, by kernel_rfl, by kernel_rfl, by kernel_rfl, trivial⟩⟩) (fun s o hf a w hA Q hQ => punctualref_CheckSet_r4 K w0 l0 A0 c0 hR0 hL0 b1 i1 hc3 e1 hx2 b2 q2 q5 hc9 hc10 s o hf a w hA Q hQ) ?_
              rintro _ a w1 _ ⟨rfl, hb⟩
              obtain rfl := Option.some.inj h
              exact hQ _ _ _ (Outs.out nofun (Exits.on ⟨rfl, hb⟩))
          · rw [if_neg hc10] at h
            cases h
        · rw [if_neg hc9] at h
          refine we_known (t := 62) (b := !q5) (v := true) (by kernel_rfl) (congrArg (fun z => !z) (Bool.eq_false_iff.2 hc9)) ?_
          refine we_true (by kernel_rfl) ?_
          refine we_seq fun K40 hK40 => ?_
          refine we_region [(0, 0), (1, 1), (2, 2)] rfl ?_
          refine ge_batch [0] (ans := []) (vs := [(63, .int .i64 (i1 : Int))]) (l := []) (by kernel_rfl) trivial ?_
          refine ge_call (d := some 64) (f := 21) (args := #[.int .i64 4, .int .i64 (i1 : Int)]) (by kernel_rfl) (punctualref_F_ok 4 (i1 : Int) _ _ rfl) ?_
          rintro _ w28 ⟨rfl, hS91⟩
          refine ⟨_, rfl, hS91.below, ?_⟩
          have hS92 := hS31.call hS91
          have hS93 := hS92.bring 1 rfl
          refine ge_set (b := b1) (j := 0) (cs := #[.int .i64 0, .int .i64 0]) (t := 26) (vs := [.int .i64 ((punctualref_F.f 4 (i1 : Int)).Code), .int .i64 ((punctualref_F.f 4 (i1 : Int)).At)]) hS93 (by kernel_rfl) rfl rfl fun w29 hS94 => ?_
          have hS95 : St w0 w29 [Own.blk b1 (.cells #[.int .i64 ((punctualref_F.f 4 (i1 : Int)).Code), .int .i64 ((punctualref_F.f 4 (i1 : Int)).At)] 26 (0, 0)), Own.blk b2 (.cells #[.string e1.Name, .int .i64 e1.C, .int .i64 e1.T, .int .i64 e1.D, .int .i64 e1.J, .int .i64 e1.O, .int .i64 e1.P] 46 (0, 0))] := hS94
          refine ge_nil fun a hF => hK40 _ _ ?_ a hF
          have hS96 := hS95.takeN 0
          obtain rfl := Option.some.inj h
          exact we_ret fun a hF => hQ _ _ _ (Outs.out nofun (Exits.on ⟨rfl, (post_ret (rs := [.cell 2 26]) (ans := [.val (.int .i64 ((punctualref_F.f 4 (i1 : Int)).Code)), .val (.int .i64 ((punctualref_F.f 4 (i1 : Int)).At))]) (vs := [.agg #[.int .i64 ((punctualref_F.f 4 (i1 : Int)).Code), .int .i64 ((punctualref_F.f 4 (i1 : Int)).At)]]) (l := [.loaded ⟨b1, 0, none⟩ (.int .i64 ((punctualref_F.f 4 (i1 : Int)).Code)), .loaded ⟨b1, 1, none⟩ (.int .i64 ((punctualref_F.f 4 (i1 : Int)).At))]) rfl (by kernel_rfl) ⟨hS95.cell 0 rfl rfl, hS95.cell 0 rfl rfl, trivial⟩ ⟨rfl, hS96⟩) a hF⟩))
      · rw [hq5] at h
        simp only [] at h
        refine we_iter (A := punctualref_CheckSet.A3 K w0 l0 A0 c0 hR0 hL0 b1 i1 hc3 e1 hx2 b2 q2) (B := punctualref_CheckSet.B3 K w0 l0 A0 c0 hR0 hL0 b1 i1 hc3 e1 hx2 b2 q2) hq5 (fun a hF => ⟨hS22, hF.weaken ⟨by kernel_rfl, by kernel_rfl, by kernel_rfl, by kernel_rfl, by kernel_rfl, by kernel_rfl, by kernel_rfl, by kernel_rfl, by kernel_rfl, trivial⟩⟩) (fun s o hf a w hA Q hQ => punctualref_CheckSet_r3 K w0 l0 A0 c0 hR0 hL0 b1 i1 hc3 e1 hx2 b2 q2 s o hf a w hA Q hQ) ?_
        rintro _ a w1 _ ⟨rfl, hb⟩
        obtain rfl := Option.some.inj h
        exact hQ _ _ _ (Outs.out nofun (Exits.on ⟨rfl, hb⟩))
    · rw [hq4] at h
      simp only [] at h
      refine we_keep (e' := [(0, .slice A0 l0.length c0), (2, .pointer (some ⟨b1, 0, none⟩)), (3, .int .i64 (i1 : Int)), (4, .pointer (some ⟨b2, 0, none⟩)), (22, .slice A0 l0.length c0), (23, .int .i64 (l0.length : Int)), (24, .int .i64 (i1 : Int)), (25, .bool true), (26, .int .i64 (i1 : Int)), (27, .pointer (some ⟨blkOf A0, offOf A0 + i1 * 7, none⟩)), (28, .agg #[.string e1.Name, .int .i64 e1.C, .int .i64 e1.T, .int .i64 e1.D, .int .i64 e1.J, .int .i64 e1.O, .int .i64 e1.P])]) ⟨by kernel_rfl, by kernel_rfl, by kernel_rfl, by kernel_rfl, by kernel_rfl, by kernel_rfl, by kernel_rfl, by kernel_rfl, by kernel_rfl, by kernel_rfl, by kernel_rfl, trivial⟩ (punctualref_CheckSet_p2 K w0 l0 A0 c0 hR0 hL0 b1 i1 hc3 e1 hx2 b2 _ hq4 _ hS15 _ ?_)
      rintro _ a w1 ⟨_, rfl, hb⟩
      obtain rfl := Option.some.inj h
      exact hQ _ _ _ (Outs.out nofun (Exits.on ⟨rfl, hb⟩))
  · rw [if_neg hc3] at h
    refine we_known (t := 25) (b := decide ((i1 : Int) < (l0.length : Int))) (v := false) (by kernel_rfl) (decide_eq_false hc3) ?_
    refine we_false (by kernel_rfl) ?_
    obtain rfl := Option.some.inj h
    exact we_exit fun a hF => hQ _ _ _ (Outs.out nofun (Exits.here ⟨hS, hF.weaken ⟨by kernel_rfl, trivial⟩⟩))
theorem punctualref_CheckSet_ok (K : Nat) (l0 : List STask) (A0 : Option Addr) (c0 : Nat) (w0 : World) (hR0 : RdL w0 A0 l0) (hL0 : l0.length ≤ c0) (r : SFault) (h : punctualref_CheckSet.f K l0 = some r) :
    Calls Tryd.prog 23 #[.slice A0 l0.length c0] w0 (punctualref_CheckSet.Post w0 r) := by
  have hS := St.start w0
  unfold punctualref_CheckSet.f at h
  refine calls_enter (n := 113) (args := [.slice A0 l0.length c0]) (fn := Tryd.f23) rfl rfl rfl rfl ?_
  show WE _ _ _ _ [(0, .slice A0 l0.length c0)] _
  refine we_seq fun K1 hK1 => ?_
  refine we_region [(0, 1)] rfl ?_
  refine ge_new (d := some 2) (o := .cells #[.int .i64 0, .int .i64 0] 26) (v := fun b => .pointer (some ⟨b, 0, none⟩)) hS (fun b => by kernel_rfl) fun b1 w1 hx1 hS1 => ?_
  refine ge_nil fun a hF => hK1 _ _ ?_ a hF
  refine we_seq fun K2 hK2 => ?_
  rcases hq3 : punctualref_CheckSet.p0 l0 with _ | (_ | rr6)
  · rw [hq3] at h; cases h
  · rw [hq3] at h
    simp only [] at h
    refine we_keep (e' := [(0, .slice A0 l0.length c0), (2, .pointer (some ⟨b1, 0, none⟩))]) ⟨by kernel_rfl, by kernel_rfl, trivial⟩ (punctualref_CheckSet_p0 K w0 l0 A0 c0 hR0 hL0 b1 _ hq3 _ hS1 _ ?_)
    rintro _ a w6 ⟨rfl, hS12, hF⟩
    replace hS12 : St w0 w6 [Own.blk b1 (.cells #[.int .i64 0, .int .i64 0] 26 (0, 0))] := hS12
    refine hK2 [(0, .slice A0 l0.length c0), (2, .pointer (some ⟨b1, 0, none⟩))] w6 ?_ a hF
    refine we_seq fun K6 hK6 => ?_
    refine we_seq fun K7 hK7 => ?_
    refine we_region [(0, 0), (1, 0), (2, 0)] rfl ?_
    refine ge_batch [0, 1, 2] (ans := []) (vs := [(24, .int .i64 0), (23, .int .i64 (l0.length : Int)), (22, .slice A0 l0.length c0)]) (l := []) (by kernel_rfl) trivial ?_
    refine ge_nil fun a hF => hK7 _ _ ?_ a hF
    refine we_block ?_
    rcases hq14 : iter (punctualref_CheckSet.r1 K l0) K 0 with _ | (_ | rr5)
    · rw [hq14] at h; cases h
    · rw [hq14] at h
      simp only [] at h
      refine we_iter (A := punctualref_CheckSet.A1 K w0 l0 A0 c0 hR0 hL0 b1) (B := punctualref_CheckSet.B1 K w0 l0 A0 c0 hR0 hL0 b1) hq14 (fun a hF => ⟨hS12, hF.weaken ⟨by kernel_rfl, by kernel_rfl, by kernel_rfl, by kernel_rfl, by kernel_rfl, trivial⟩⟩) (fun s o hf a w hA Q hQ => punctualref_CheckSet_r1 K w0 l0 A0 c0 hR0 hL0 b1 s o hf a w hA Q hQ) ?_
      rintro _ a w30 _ ⟨rfl, hS97, hF⟩
      replace hS97 : St w0 w30 [Own.blk b1 (.cells #[.int .i64 0, .int .i64 0] 26 (0, 0))] := hS97
      refine hK6 [(2, .pointer (some ⟨b1, 0, none⟩))] w30 ?_ a hF
      refine we_seq fun K41 hK41 => ?_
      refine we_region [(0, 0), (1, 2)] rfl ?_
      refine ge_batch [0] (ans := []) (vs := [(112, .agg #[.int .i64 0, .int .i64 0])]) (l := []) (by kernel_rfl) trivial ?_
      refine ge_set (b := b1) (j := 0) (cs := #[.int .i64 0, .int .i64 0]) (t := 26) (vs := [.int .i64 0, .int .i64 0]) hS97 (by kernel_rfl) rfl rfl fun w31 hS98 => ?_
      have hS99 : St w0 w31 [Own.blk b1 (.cells #[.int .i64 0, .int .i64 0] 26 (0, 0))] := hS98
      refine ge_nil fun a hF => hK41 _ _ ?_ a hF
      have hS100 := hS99.takeN 0
      obtain rfl := Option.some.inj h
      exact we_ret (post_ret (rs := [.cell 2 26]) (ans := [.val (.int .i64 0), .val (.int .i64 0)]) (vs := [.agg #[.int .i64 0, .int .i64 0]]) (l := [.loaded ⟨b1, 0, none⟩ (.int .i64 0), .loaded ⟨b1, 1, none⟩ (.int .i64 0)]) rfl (by kernel_rfl) ⟨hS99.cell 0 rfl rfl, hS99.cell 0 rfl rfl, trivial⟩ ⟨rfl, hS100⟩)
    · rw [hq14] at h
      simp only [] at h
      refine we_iter (A := punctualref_CheckSet.A1 K w0 l0 A0 c0 hR0 hL0 b1) (B := punctualref_CheckSet.B1 K w0 l0 A0 c0 hR0 hL0 b1) hq14 (fun a hF => ⟨hS12, hF.weaken ⟨by kernel_rfl, by kernel_rfl, by kernel_rfl, by kernel_rfl, by kernel_rfl, trivial⟩⟩) (fun s o hf a w hA Q hQ => punctualref_CheckSet_r1 K w0 l0 A0 c0 hR0 hL0 b1 s o hf a w hA Q hQ) ?_
      rintro _ a w1 _ ⟨rfl, hb⟩
      obtain rfl := Option.some.inj h
      exact hb
  · rw [hq3] at h
    simp only [] at h
    refine we_keep (e' := [(0, .slice A0 l0.length c0), (2, .pointer (some ⟨b1, 0, none⟩))]) ⟨by kernel_rfl, by kernel_rfl, trivial⟩ (punctualref_CheckSet_p0 K w0 l0 A0 c0 hR0 hL0 b1 _ hq3 _ hS1 _ ?_)
    rintro _ a w1 ⟨_, rfl, hb⟩
    obtain rfl := Option.some.inj h
    exact hb

/-! punctual/punctualref.Soon -/
abbrev punctualref_Soon.Post (w0 : World) (r : (List SCome) × SFault) (e : Ending) (w : World) : Prop := ∃ (v0 : Value), e = .returned (.tuple #[v0, .agg #[.int .i64 r.2.Code, .int .i64 r.2.At]]) ∧ St w0 w [Own.of v0 53 r.1]
def punctualref_Soon.p0 (x1 : Int) : Option (Unit ⊕ ((List SCome) × SFault)) :=
    if x1 < 0 then
      some (.inr (([] : List SCome), (punctualref_F.f 3 0)))
    else
      if x1 > 20000 then
        some (.inr (([] : List SCome), (punctualref_F.f 3 0)))
      else
        some (.inl ())
def punctualref_Soon.r1 (l0 : List STask) (x1 : Int) : Int × Nat → Option ((Int × Nat) ⊕ (Int ⊕ ((List SCome) × SFault)))
  | (z1, i1) =>
    if (i1 : Int) < (l0.length : Int) then
      match l0[i1]? with
      | none => none
      | some e1 =>
        if x1 > e1.O then
          if e1.T = 0 then
            none
          else
            some (.inl (IntKind.i64.wrap (z1 + (IntKind.i64.wrap (Int.tdiv (IntKind.i64.wrap ((IntKind.i64.wrap ((IntKind.i64.wrap (x1 - e1.O)) + e1.T)) - 1)) e1.T))), (i1 + 1)))
        else
          some (.inl (z1, (i1 + 1)))
    else
      some (.inr (.inl z1))
def punctualref_Soon.r3 (l0 : List STask) (z4 : Int) : (List SCome) × Nat → Option (((List SCome) × Nat) ⊕ ((List SCome) ⊕ ((List SCome) × SFault)))
  | (m3, i2) =>
    if (i2 : Int) < (l0.length : Int) then
      match l0[i2]? with
      | none => none
      | some e2 =>
        if z4 ≥ e2.O then
          if e2.T = 0 then
            none
          else
            if (Int.tmod (IntKind.i64.wrap (z4 - e2.O)) e2.T) = 0 then
              if m3.length < 8796093022208 then
                some (.inl ((m3 ++ [(⟨(i2 : Int), z4⟩ : SCome)]), (i2 + 1)))
              else
                none
            else
              some (.inl (m3, (i2 + 1)))
        else
          some (.inl (m3, (i2 + 1)))
    else
      some (.inr (.inl m3))
def punctualref_Soon.r2 (K : Nat) (l0 : List STask) (x1 : Int) : (List SCome) × Int → Option (((List SCome) × Int) ⊕ ((List SCome) ⊕ ((List SCome) × SFault)))
  | (m1, z4) =>
    if z4 < x1 then
      match iter (punctualref_Soon.r3 l0 z4) K (m1, 0) with
      | none => none
      | some (.inl m5) =>
        some (.inl (m5, IntKind.i64.wrap (z4 + 1)))
      | some (.inr rr1) =>
        some (.inr (.inr rr1))
    else
      some (.inr (.inl m1))
def punctualref_Soon.f (K : Nat) (l0 : List STask) (x1 : Int) : Option ((List SCome) × SFault) :=
  match punctualref_CheckSet.f K l0 with
  | none => none
  | some r1 =>
    if r1.Code = 0 then
      match punctualref_Soon.p0 x1 with
      | none => none
      | some (.inl _) =>
        match iter (punctualref_Soon.r1 l0 x1) K (0, 0) with
        | none => none
        | some (.inl z3) =>
          if z3 > 4000 then
            some (([] : List SCome), (punctualref_F.f 2 0))
          else
            match iter (punctualref_Soon.r2 K l0 x1) K (([] : List SCome), 0) with
            | none => none
            | some (.inl m6) =>
              some (m6, (⟨0, 0⟩ : SFault))
            | some (.inr rr2) =>
              some rr2
        | some (.inr rr3) =>
          some rr3
      | some (.inr rr4) =>
        some rr4
    else
      some (([] : List SCome), r1)
abbrev punctualref_Soon.A0 (K : Nat) (w0 : World) (l0 : List STask) (A0 : Option Addr) (c0 : Nat) (x1 : Int) (hR0 : RdL w0 A0 l0) (hL0 : l0.length ≤ c0) (b1 : Nat) (r1 : SFault) (b2 : Nat) (hc1 : r1.Code = 0) : Unit → Act → World → Prop := fun (s : Unit) a w => St w0 w [Own.blk b1 (.cells #[.int .i64 0, .int .i64 0] 26 (0, 0))] ∧ Frm 89 a [(0, .slice A0 l0.length c0), (1, .int .i64 x1), (5, .pointer (some ⟨b1, 0, none⟩))]
abbrev punctualref_Soon.B0 (K : Nat) (w0 : World) (l0 : List STask) (A0 : Option Addr) (c0 : Nat) (x1 : Int) (hR0 : RdL w0 A0 l0) (hL0 : l0.length ≤ c0) (b1 : Nat) (r1 : SFault) (b2 : Nat) (hc1 : r1.Code = 0) : ((List SCome) × SFault) → Exit → Act → World → Prop := Rets Tryd.prog Tryd.f46 (punctualref_Soon.Post w0)
theorem punctualref_Soon_p0 (K : Nat) (w0 : World) (l0 : List STask) (A0 : Option Addr) (c0 : Nat) (x1 : Int) (hR0 : RdL w0 A0 l0) (hL0 : l0.length ≤ c0) (b1 : Nat) (r1 : SFault) (b2 : Nat) (hc1 : r1.Code = 0) (o : Unit ⊕ ((List SCome) × SFault)) (h : punctualref_Soon.p0 x1 = some o) (w : World) (hS : St w0 w [Own.blk b2 (.cells #[.int .i64 r1.Code, .int .i64 r1.At] 26 (0, 0)), Own.blk b1 (.cells #[.int .i64 0, .int .i64 0] 26 (0, 0))]) (Q : Exit → Act → World → Prop) (hQ : ∀ x a w, Outs (punctualref_Soon.A0 K w0 l0 A0 c0 x1 hR0 hL0 b1 r1 b2 hc1) (punctualref_Soon.B0 K w0 l0 A0 c0 x1 hR0 hL0 b1 r1 b2 hc1) o x a w → Q x a w) : WE Tryd.prog 89 (subF Tryd.f46 [1, 1, 0]) Q [(0, .slice A0 l0.length c0), (1, .int .i64 x1), (4, .slice none 0 0), (5, .pointer (some ⟨b1, 0, none⟩)), (6, .pointer (some ⟨b2, 0, none⟩)), (14, .slice A0 l0.length c0), (15, .agg #[.int .i64 r1.Code, .int .i64 r1.At]), (16, .pointer (some ⟨b2, 0, none⟩)), (17, .int .i64 r1.Code), (18, .bool false)] w := by
  simp only [punctualref_Soon.p0] at h
  refine we_seq fun K6 hK6 => ?_
  refine we_region [(0, 0), (1, 0), (2, 0), (3, 0), (4, 0), (5, 0)] rfl ?_
  refine ge_batch [0, 1, 2] (ans := []) (vs := [(22, .bool (decide (x1 < 0))), (21, .bool (decide (x1 < 0))), (20, .int .i64 x1)]) (l := []) (by kernel_rfl) trivial ?_
  by_cases hc2 : x1 < 0
  · rw [if_pos hc2] at h
    refine ge_known (t := 22) (b := decide (x1 < 0)) (c := true) (by kernel_rfl) (decide_eq_true hc2) ?_
    refine ge_batch [3, 4, 5] (ans := []) (vs := [(25, .bool true), (24, undef), (23, undef)]) (l := []) (by kernel_rfl) trivial ?_
    refine ge_nil fun a hF => hK6 _ _ ?_ a hF
    refine we_true (by kernel_rfl) ?_
    refine we_seq fun K7 hK7 => ?_
    refine we_region [(0, 1), (1, 0), (2, 2)] rfl ?_
    refine ge_call (d := some 26) (f := 21) (args := #[.int .i64 3, .int .i64 0]) (by kernel_rfl) (punctualref_F_ok 3 0 _ _ rfl) ?_
    rintro _ w5 ⟨rfl, hS7⟩
    refine ⟨_, rfl, hS7.below, ?_⟩
    have hS8 := hS.call hS7
    refine ge_batch [1] (ans := []) (vs := [(4, .slice none 0 0)]) (l := []) (by kernel_rfl) trivial ?_
    have hS9 := hS8.bring 1 rfl
    refine ge_set (b := b1) (j := 0) (cs := #[.int .i64 0, .int .i64 0]) (t := 26) (vs := [.int .i64 ((punctualref_F.f 3 0).Code), .int .i64 ((punctualref_F.f 3 0).At)]) hS9 (by kernel_rfl) rfl rfl fun w6 hS10 => ?_
    have hS11 : St w0 w6 [Own.blk b1 (.cells #[.int .i64 ((punctualref_F.f 3 0).Code), .int .i64 ((punctualref_F.f 3 0).At)] 26 (0, 0)), Own.blk b2 (.cells #[.int .i64 r1.Code, .int .i64 r1.At] 26 (0, 0))] := hS10
    refine ge_nil fun a hF => hK7 _ _ ?_ a hF
    have hS12 := hS11.nil (α := SCome) 53
    have hS13 := hS12.takeN 1
    obtain rfl := Option.some.inj h
    exact we_ret fun a hF => hQ _ _ _ (Outs.out nofun ⟨rfl, (post_ret (rs := [.tmp 4, .cell 5 26]) (ans := [.val (.int .i64 ((punctualref_F.f 3 0).Code)), .val (.int .i64 ((punctualref_F.f 3 0).At))]) (vs := [(.slice none 0 0), .agg #[.int .i64 ((punctualref_F.f 3 0).Code), .int .i64 ((punctualref_F.f 3 0).At)]]) (l := [.loaded ⟨b1, 0, none⟩ (.int .i64 ((punctualref_F.f 3 0).Code)), .loaded ⟨b1, 1, none⟩ (.int .i64 ((punctualref_F.f 3 0).At))]) rfl (by kernel_rfl) ⟨hS12.cell 1 rfl rfl, hS12.cell 1 rfl rfl, trivial⟩ ⟨(.slice none 0 0), rfl, hS13⟩) a hF⟩)
  · rw [if_neg hc2] at h
    refine ge_known (t := 22) (b := decide (x1 < 0)) (c := false) (by kernel_rfl) (decide_eq_false hc2) ?_
    refine ge_batch [3, 4, 5] (ans := []) (vs := [(25, .bool (decide (x1 > 20000))), (24, .bool (decide (x1 > 20000))), (23, .int .i64 x1)]) (l := []) (by kernel_rfl) trivial ?_
    refine ge_nil fun a hF => hK6 _ _ ?_ a hF
    by_cases hc3 : x1 > 20000
    · rw [if_pos hc3] at h
      refine we_known (t := 25) (b := decide (x1 > 20000)) (v := true) (by kernel_rfl) (decide_eq_true hc3) ?_
      refine we_true (by kernel_rfl) ?_
      refine we_seq fun K8 hK8 => ?_
      refine we_region [(0, 1), (1, 0), (2, 2)] rfl ?_
      refine ge_call (d := some 26) (f := 21) (args := #[.int .i64 3, .int .i64 0]) (by kernel_rfl) (punctualref_F_ok 3 0 _ _ rfl) ?_
      rintro _ w7 ⟨rfl, hS14⟩
      refine ⟨_, rfl, hS14.below, ?_⟩
      have hS15 := hS.call hS14
      refine ge_batch [1] (ans := []) (vs := [(4, .slice none 0 0)]) (l := []) (by kernel_rfl) trivial ?_
      have hS16 := hS15.bring 1 rfl
      refine ge_set (b := b1) (j := 0) (cs := #[.int .i64 0, .int .i64 0]) (t := 26) (vs := [.int .i64 ((punctualref_F.f 3 0).Code), .int .i64 ((punctualref_F.f 3 0).At)]) hS16 (by kernel_rfl) rfl rfl fun w8 hS17 => ?_
      have hS18 : St w0 w8 [Own.blk b1 (.cells #[.int .i64 ((punctualref_F.f 3 0).Code), .int .i64 ((punctualref_F.f 3 0).At)] 26 (0, 0)), Own.blk b2 (.cells #[.int .i64 r1.Code, .int .i64 r1.At] 26 (0, 0))] := hS17
      refine ge_nil fun a hF => hK8 _ _ ?_ a hF
      have hS19 := hS18.nil (α := SCome) 53
      have hS20 := hS19.takeN 1
      obtain rfl := Option.some.inj h
      exact we_ret fun a hF => hQ _ _ _ (Outs.out nofun ⟨rfl, (post_ret (rs := [.tmp 4, .cell 5 26]) (ans := [.val (.int .i64 ((punctualref_F.f 3 0).Code)), .val (.int .i64 ((punctualref_F.f 3 0).At))]) (vs := [(.slice none 0 0), .agg #[.int .i64 ((punctualref_F.f 3 0).Code), .int .i64 ((punctualref_F.f 3 0).At)]]) (l := [.loaded ⟨b1, 0, none⟩ (.int .i64 ((punctualref_F.f 3 0).Code)), .loaded ⟨b1, 1, none⟩ (.int .i64 ((punctualref_F.f 3 0).At))]) rfl (by kernel_rfl) ⟨hS19.cell 1 rfl rfl, hS19.cell 1 rfl rfl, trivial⟩ ⟨(.slice none 0 0), rfl, hS20⟩) a hF⟩)
    · rw [if_neg hc3] at h
      refine we_known (t := 25) (b := decide (x1 > 20000)) (v := false) (by kernel_rfl) (decide_eq_false hc3) ?_
      refine we_false (by kernel_rfl) ?_
      have hS21 := hS.bring 1 rfl
      have hS22 := hS21.takeN 1
      obtain rfl := Option.some.inj h
      exact we_skip fun a hF => hQ _ _ _ (Outs.again ⟨hS22, hF.weaken ⟨by kernel_rfl, by kernel_rfl, by kernel_rfl, trivial⟩⟩)
abbrev punctualref_Soon.A1 (K : Nat) (w0 : World) (l0 : List STask) (A0 : Option Addr) (c0 : Nat) (x1 : Int) (hR0 : RdL w0 A0 l0) (hL0 : l0.length ≤ c0) (b1 : Nat) (r1 : SFault) (b2 : Nat) (hc1 : r1.Code = 0) : (Int × Nat) → Act → World → Prop := fun (s : Int × Nat) a w => St w0 w [Own.blk b1 (.cells #[.int .i64 0, .int .i64 0] 26 (0, 0))] ∧ Frm 89 a [(0, .slice A0 l0.length c0), (1, .int .i64 x1), (5, .pointer (some ⟨b1, 0, none⟩)), (7, .int .i64 s.1), (27, .slice A0 l0.length c0), (28, .int .i64 (l0.length : Int)), (29, .int .i64 (s.2 : Int))]
abbrev punctualref_Soon.B1 (K : Nat) (w0 : World) (l0 : List STask) (A0 : Option Addr) (c0 : Nat) (x1 : Int) (hR0 : RdL w0 A0 l0) (hL0 : l0.length ≤ c0) (b1 : Nat) (r1 : SFault) (b2 : Nat) (hc1 : r1.Code = 0) : (Int ⊕ ((List SCome) × SFault)) → Exit → Act → World → Prop := Exits 0 (fun (s : Int) a w => St w0 w [Own.blk b1 (.cells #[.int .i64 0, .int .i64 0] 26 (0, 0))] ∧ Frm 89 a [(0, .slice A0 l0.length c0), (1, .int .i64 x1), (5, .pointer (some ⟨b1, 0, none⟩)), (7, .int .i64 s)]) (Rets Tryd.prog Tryd.f46 (punctualref_Soon.Post w0))
theorem punctualref_Soon_r1 (K : Nat) (w0 : World) (l0 : List STask) (A0 : Option Addr) (c0 : Nat) (x1 : Int) (hR0 : RdL w0 A0 l0) (hL0 : l0.length ≤ c0) (b1 : Nat) (r1 : SFault) (b2 : Nat) (hc1 : r1.Code = 0) (s : Int × Nat) (o : (Int × Nat) ⊕ (Int ⊕ ((List SCome) × SFault))) (h : punctualref_Soon.r1 l0 x1 s = some o) (a : Act) (w : World) (hA : punctualref_Soon.A1 K w0 l0 A0 c0 x1 hR0 hL0 b1 r1 b2 hc1 s a w) (Q : Exit → Act → World → Prop) (hQ : ∀ x a w, Outs (punctualref_Soon.A1 K w0 l0 A0 c0 x1 hR0 hL0 b1 r1 b2 hc1) (punctualref_Soon.B1 K w0 l0 A0 c0 x1 hR0 hL0 b1 r1 b2 hc1) o x a w → Q x a w) : (subF Tryd.f46 [1, 1, 1, 1, 0, 1, 0, 0]).wp Tryd.prog Q a w := by
  obtain ⟨z1, i1⟩ := s
  obtain ⟨hS, hF⟩ := hA
  replace hS : St w0 w [Own.blk b1 (.cells #[.int .i64 0, .int .i64 0] 26 (0, 0))] := hS
  simp only [punctualref_Soon.r1] at h
  refine (?_ : WE Tryd.prog 89 (subF Tryd.f46 [1, 1, 1, 1, 0, 1, 0, 0]) Q [(0, .slice A0 l0.length c0), (1, .int .i64 x1), (5, .pointer (some ⟨b1, 0, none⟩)), (7, .int .i64 z1), (27, .slice A0 l0.length c0), (28, .int .i64 (l0.length : Int)), (29, .int .i64 (i1 : Int))] w) a hF
  clear hF a
  refine we_seq fun K12 hK12 => ?_
  refine we_region [(0, 0)] rfl ?_
  refine ge_batch [0] (ans := []) (vs := [(30, .bool (decide ((i1 : Int) < (l0.length : Int))))]) (l := []) (by kernel_rfl) trivial ?_
  refine ge_nil fun a hF => hK12 _ _ ?_ a hF
  refine we_seq fun K13 hK13 => ?_
  by_cases hc4 : (i1 : Int) < (l0.length : Int)
  · rw [if_pos hc4] at h
    refine we_known (t := 30) (b := decide ((i1 : Int) < (l0.length : Int))) (v := true) (by kernel_rfl) (decide_eq_true hc4) ?_
    refine we_true (by kernel_rfl) ?_
    refine we_skip fun a hF => hK13 _ _ ?_ a hF
    refine we_seq fun K14 hK14 => ?_
    refine we_block ?_
    refine we_seq fun K15 hK15 => ?_
    refine we_region [(0, 0), (1, 0), (2, 1), (3, 2)] rfl ?_
    rcases hx3 : l0[i1]? with _ | e1
    · rw [hx3] at h; cases h
    rw [hx3] at h
    simp only [] at h
    refine ge_index (d := 31) (ty := 0) (t := 40) (el := 46) (sz := 7) (m := l0.length) (c := c0) (x := (.tmp 27)) (y := (.tmp 29)) (A := A0) (k' := .i64) (j := (i1 : Int)) (jn := i1) (b0 := blkOf A0) (o0 := offOf A0) (by kernel_rfl) (by kernel_rfl) (by kernel_rfl) (by kernel_rfl) (by kernel_rfl) ((hS.rd hR0).eqSome (pos_of_get hx3)) rfl (lt_of_get hx3) ?_
    refine ge_batch [1] (ans := [.val (.string e1.Name), .val (.int .i64 e1.C), .val (.int .i64 e1.T), .val (.int .i64 e1.D), .val (.int .i64 e1.J), .val (.int .i64 e1.O), .val (.int .i64 e1.P)]) (vs := [(32, .agg #[.string e1.Name, .int .i64 e1.C, .int .i64 e1.T, .int .i64 e1.D, .int .i64 e1.J, .int .i64 e1.O, .int .i64 e1.P])]) (l := [.loaded ⟨blkOf A0, offOf A0 + i1 * 7, none⟩ (.string e1.Name), .loaded ⟨blkOf A0, offOf A0 + i1 * 7 + 1, none⟩ (.int .i64 e1.C), .loaded ⟨blkOf A0, offOf A0 + i1 * 7 + 2, none⟩ (.int .i64 e1.T), .loaded ⟨blkOf A0, offOf A0 + i1 * 7 + 3, none⟩ (.int .i64 e1.D), .loaded ⟨blkOf A0, offOf A0 + i1 * 7 + 4, none⟩ (.int .i64 e1.J), .loaded ⟨blkOf A0, offOf A0 + i1 * 7 + 5, none⟩ (.int .i64 e1.O), .loaded ⟨blkOf A0, offOf A0 + i1 * 7 + 6, none⟩ (.int .i64 e1.P)]) (by kernel_rfl) ⟨RdL.cell (j := 0) (hS.rd hR0) hx3 rfl, RdL.cell (j := 1) (hS.rd hR0) hx3 rfl, RdL.cell (j := 2) (hS.rd hR0) hx3 rfl, RdL.cell (j := 3) (hS.rd hR0) hx3 rfl, RdL.cell (j := 4) (hS.rd hR0) hx3 rfl, RdL.cell (j := 5) (hS.rd hR0) hx3 rfl, RdL.cell (j := 6) (hS.rd hR0) hx3 rfl, trivial⟩ ?_
    refine ge_new (d := some 9) (o := .cells #[.string (⟨#[]⟩), .int .i64 0, .int .i64 0, .int .i64 0, .int .i64 0, .int .i64 0, .int .i64 0] 46) (v := fun b => .pointer (some ⟨b, 0, none⟩)) hS (fun b => by kernel_rfl) fun b3 w10 hx4 hS24 => ?_
    refine ge_set (b := b3) (j := 0) (cs := #[.string (⟨#[]⟩), .int .i64 0, .int .i64 0, .int .i64 0, .int .i64 0, .int .i64 0, .int .i64 0]) (t := 46) (vs := [.string e1.Name, .int .i64 e1.C, .int .i64 e1.T, .int .i64 e1.D, .int .i64 e1.J, .int .i64 e1.O, .int .i64 e1.P]) hS24 (by kernel_rfl) rfl rfl fun w11 hS25 => ?_
    have hS26 : St w0 w11 [Own.blk b3 (.cells #[.string e1.Name, .int .i64 e1.C, .int .i64 e1.T, .int .i64 e1.D, .int .i64 e1.J, .int .i64 e1.O, .int .i64 e1.P] 46 (0, 0)), Own.blk b1 (.cells #[.int .i64 0, .int .i64 0] 26 (0, 0))] := hS25
    refine ge_nil fun a hF => hK15 _ _ ?_ a hF
    refine we_seq fun K16 hK16 => ?_
    refine we_region [(0, 0), (1, 0), (2, 0), (3, 0)] rfl ?_
    refine ge_batch [0, 1, 2, 3] (ans := [.val (.int .i64 e1.O)]) (vs := [(36, .bool (decide (x1 > e1.O))), (35, .int .i64 e1.O), (34, .pointer (some ⟨b3, 5, none⟩)), (33, .int .i64 x1)]) (l := [.loaded ⟨b3, 5, none⟩ (.int .i64 e1.O)]) (by kernel_rfl) ⟨hS26.cell 0 rfl rfl, trivial⟩ ?_
    refine ge_nil fun a hF => hK16 _ _ ?_ a hF
    by_cases hc5 : x1 > e1.O
    · rw [if_pos hc5] at h
      refine we_known (t := 36) (b := decide (x1 > e1.O)) (v := true) (by kernel_rfl) (decide_eq_true hc5) ?_
      refine we_true (by kernel_rfl) ?_
      refine we_region [(0, 0), (1, 0), (2, 0), (3, 0), (4, 0), (5, 0), (6, 0), (7, 0), (8, 0), (9, 0), (10, 0), (11, 0), (12, 0), (13, 0)] rfl ?_
      refine ge_batch [0, 1, 2, 3, 4, 5, 6, 7, 8, 9, 10] (ans := [.val (.int .i64 e1.O), .val (.int .i64 e1.T), .val (.int .i64 e1.T)]) (vs := [(47, .int .i64 e1.T), (46, .pointer (some ⟨b3, 2, none⟩)), (45, .int .i64 (IntKind.i64.wrap ((IntKind.i64.wrap ((IntKind.i64.wrap (x1 - e1.O)) + e1.T)) - 1))), (44, .int .i64 (IntKind.i64.wrap ((IntKind.i64.wrap (x1 - e1.O)) + e1.T))), (43, .int .i64 e1.T), (42, .pointer (some ⟨b3, 2, none⟩)), (41, .int .i64 (IntKind.i64.wrap (x1 - e1.O))), (40, .int .i64 e1.O), (39, .pointer (some ⟨b3, 5, none⟩)), (38, .int .i64 x1), (37, .int .i64 z1)]) (l := [.loaded ⟨b3, 5, none⟩ (.int .i64 e1.O), .loaded ⟨b3, 2, none⟩ (.int .i64 e1.T), .loaded ⟨b3, 2, none⟩ (.int .i64 e1.T)]) (by kernel_rfl) ⟨hS26.cell 0 rfl rfl, hS26.cell 0 rfl rfl, hS26.cell 0 rfl rfl, trivial⟩ ?_
      by_cases hc6 : e1.T = 0
      · rw [if_pos hc6] at h
        cases h
      · rw [if_neg hc6] at h
        refine ge_div (d := 48) (ty := 3) (op := .quo) (x := (.tmp 45)) (y := (.tmp 47)) (t := 3) (t2 := 3) (k := .i64) (p := (IntKind.i64.wrap ((IntKind.i64.wrap ((IntKind.i64.wrap (x1 - e1.O)) + e1.T)) - 1))) (q := e1.T) (v := .int .i64 (IntKind.i64.wrap (Int.tdiv (IntKind.i64.wrap ((IntKind.i64.wrap ((IntKind.i64.wrap (x1 - e1.O)) + e1.T)) - 1)) e1.T))) (by kernel_rfl) (by kernel_rfl) (by kernel_rfl) hc6 rfl ?_
        refine ge_batch [12, 13] (ans := []) (vs := [(7, .int .i64 (IntKind.i64.wrap (z1 + (IntKind.i64.wrap (Int.tdiv (IntKind.i64.wrap ((IntKind.i64.wrap ((IntKind.i64.wrap (x1 - e1.O)) + e1.T)) - 1)) e1.T))))), (49, .int .i64 (IntKind.i64.wrap (z1 + (IntKind.i64.wrap (Int.tdiv (IntKind.i64.wrap ((IntKind.i64.wrap ((IntKind.i64.wrap (x1 - e1.O)) + e1.T)) - 1)) e1.T)))))]) (l := []) (by kernel_rfl) trivial ?_
        refine ge_nil fun a hF => hK14 _ _ ?_ a hF
        refine we_region [(0, 0), (1, 0)] rfl ?_
        refine ge_addn (d := 50) (ty := 3) (x := (.tmp 29)) (y := (.const (.int .i64 1))) (t := 3) (t2 := 3) (k := .i64) (m := i1) (by kernel_rfl) (by kernel_rfl) (by kernel_rfl) (by have h0 := hR0.small; omega) ?_
        refine ge_batch [1] (ans := []) (vs := [(29, .int .i64 ((i1 + 1 : Nat) : Int))]) (l := []) (by kernel_rfl) trivial ?_
        have hS27 := hS26.bring 1 rfl
        have hS28 := hS27.takeN 1
        obtain rfl := Option.some.inj h
        exact ge_nil fun a hF => hQ _ _ _ (Outs.again ⟨hS28, hF.weaken ⟨by kernel_rfl, by kernel_rfl, by kernel_rfl, by kernel_rfl, by kernel_rfl, by kernel_rfl, by kernel_rfl, trivial⟩⟩)
    · rw [if_neg hc5] at h
      refine we_known (t := 36) (b := decide (x1 > e1.O)) (v := false) (by kernel_rfl) (decide_eq_false hc5) ?_
      refine we_false (by kernel_rfl) ?_
      refine we_skip fun a hF => hK14 _ _ ?_ a hF
      refine we_region [(0, 0), (1, 0)] rfl ?_
      refine ge_addn (d := 50) (ty := 3) (x := (.tmp 29)) (y := (.const (.int .i64 1))) (t := 3) (t2 := 3) (k := .i64) (m := i1) (by kernel_rfl) (by kernel_rfl) (by kernel_rfl) (by have h0 := hR0.small; omega) ?_
      refine ge_batch [1] (ans := []) (vs := [(29, .int .i64 ((i1 + 1 : Nat) : Int))]) (l := []) (by kernel_rfl) trivial ?_
      have hS29 := hS26.bring 1 rfl
      have hS30 := hS29.takeN 1
      obtain rfl := Option.some.inj h
      exact ge_nil fun a hF => hQ _ _ _ (Outs.again ⟨hS30, hF.weaken ⟨by kernel_rfl, by kernel_rfl, by kernel_rfl, by kernel_rfl, by kernel_rfl, by kernel_rfl, by kernel_rfl, trivial⟩⟩)
  · rw [if_neg hc4] at h
    refine we_known (t := 30) (b := decide ((i1 : Int) < (l0.length : Int))) (v := false) (by kernel_rfl) (decide_eq_false hc4) ?_
    refine we_false (by kernel_rfl) ?_
    obtain rfl := Option.some.inj h
    exact we_exit fun a hF => hQ _ _ _ (Outs.out nofun (Exits.here ⟨hS, hF.weaken ⟨by kernel_rfl, by kernel_rfl, by kernel_rfl, by kernel_rfl, trivial⟩⟩))
abbrev punctualref_Soon.A3 (K : Nat) (w0 : World) (l0 : List STask) (A0 : Option Addr) (c0 : Nat) (x1 : Int) (hR0 : RdL w0 A0 l0) (hL0 : l0.length ≤ c0) (b1 : Nat) (r1 : SFault) (b2 : Nat) (hc1 : r1.Code = 0) (z3 : Int) (hc7 : ¬ (z3 > 4000)) (m1 : List SCome) (z4 : Int) (hc8 : z4 < x1) (Z1 : Option Addr) (cz1 : Nat) : ((List SCome) × Nat) → Act → World → Prop := fun (s : (List SCome) × Nat) a w => ∃ (v3 : Value), St w0 w [Own.blk b1 (.cells #[.int .i64 0, .int .i64 0] 26 (0, 0)), Own.of v3 53 s.1] ∧ Frm 89 a [(0, .slice A0 l0.length c0), (1, .int .i64 x1), (5, .pointer (some ⟨b1, 0, none⟩)), (10, v3), (11, .int .i64 z4), (59, .slice A0 l0.length c0), (60, .int .i64 (l0.length : Int)), (61, .int .i64 (s.2 : Int))]
abbrev punctualref_Soon.B3 (K : Nat) (w0 : World) (l0 : List STask) (A0 : Option Addr) (c0 : Nat) (x1 : Int) (hR0 : RdL w0 A0 l0) (hL0 : l0.length ≤ c0) (b1 : Nat) (r1 : SFault) (b2 : Nat) (hc1 : r1.Code = 0) (z3 : Int) (hc7 : ¬ (z3 > 4000)) (m1 : List SCome) (z4 : Int) (hc8 : z4 < x1) (Z1 : Option Addr) (cz1 : Nat) : ((List SCome) ⊕ ((List SCome) × SFault)) → Exit → Act → World → Prop := Exits 4 (fun (s : (List SCome)) a w => ∃ (v4 : Value), St w0 w [Own.blk b1 (.cells #[.int .i64 0, .int .i64 0] 26 (0, 0)), Own.of v4 53 s] ∧ Frm 89 a [(0, .slice A0 l0.length c0), (1, .int .i64 x1), (5, .pointer (some ⟨b1, 0, none⟩)), (10, v4), (11, .int .i64 z4)]) (Rets Tryd.prog Tryd.f46 (punctualref_Soon.Post w0))
theorem punctualref_Soon_r3 (K : Nat) (w0 : World) (l0 : List STask) (A0 : Option Addr) (c0 : Nat) (x1 : Int) (hR0 : RdL w0 A0 l0) (hL0 : l0.length ≤ c0) (b1 : Nat) (r1 : SFault) (b2 : Nat) (hc1 : r1.Code = 0) (z3 : Int) (hc7 : ¬ (z3 > 4000)) (m1 : List SCome) (z4 : Int) (hc8 : z4 < x1) (Z1 : Option Addr) (cz1 : Nat) (s : (List SCome) × Nat) (o : ((List SCome) × Nat) ⊕ ((List SCome) ⊕ ((List SCome) × SFault))) (h : punctualref_Soon.r3 l0 z4 s = some o) (a : Act) (w : World) (hA : punctualref_Soon.A3 K w0 l0 A0 c0 x1 hR0 hL0 b1 r1 b2 hc1 z3 hc7 m1 z4 hc8 Z1 cz1 s a w) (Q : Exit → Act → World → Prop) (hQ : ∀ x a w, Outs (punctualref_Soon.A3 K w0 l0 A0 c0 x1 hR0 hL0 b1 r1 b2 hc1 z3 hc7 m1 z4 hc8 Z1 cz1) (punctualref_Soon.B3 K w0 l0 A0 c0 x1 hR0 hL0 b1 r1 b2 hc1 z3 hc7 m1 z4 hc8 Z1 cz1) o x a w → Q x a w) : (subF Tryd.f46 [1, 1, 1, 1, 1, 1, 1, 0, 1, 0, 0, 1, 0, 0, 1, 0, 0]).wp Tryd.prog Q a w := by
  obtain ⟨m3, i2⟩ := s
  obtain ⟨v3, hS, hF⟩ := hA
  replace hS : St w0 w [Own.blk b1 (.cells #[.int .i64 0, .int .i64 0] 26 (0, 0)), Own.of v3 53 m3] := hS
  simp only [punctualref_Soon.r3] at h
  refine (?_ : WE Tryd.prog 89 (subF Tryd.f46 [1, 1, 1, 1, 1, 1, 1, 0, 1, 0, 0, 1, 0, 0, 1, 0, 0]) Q [(0, .slice A0 l0.length c0), (1, .int .i64 x1), (5, .pointer (some ⟨b1, 0, none⟩)), (10, v3), (11, .int .i64 z4), (59, .slice A0 l0.length c0), (60, .int .i64 (l0.length : Int)), (61, .int .i64 (i2 : Int))] w) a hF
  clear hF a
  refine we_seq fun K27 hK27 => ?_
  refine we_region [(0, 0)] rfl ?_
  refine ge_batch [0] (ans := []) (vs := [(62, .bool (decide ((i2 : Int) < (l0.length : Int))))]) (l := []) (by kernel_rfl) trivial ?_
  refine ge_nil fun a hF => hK27 _ _ ?_ a hF
  refine we_seq fun K28 hK28 => ?_
  by_cases hc9 : (i2 : Int) < (l0.length : Int)
  · rw [if_pos hc9] at h
    refine we_known (t := 62) (b := decide ((i2 : Int) < (l0.length : Int))) (v := true) (by kernel_rfl) (decide_eq_true hc9) ?_
    refine we_true (by kernel_rfl) ?_
    refine we_skip fun a hF => hK28 _ _ ?_ a hF
    refine we_seq fun K29 hK29 => ?_
    refine we_block ?_
    refine we_seq fun K30 hK30 => ?_
    refine we_region [(0, 0), (1, 0), (2, 0), (3, 1), (4, 0), (5, 2)] rfl ?_
    refine ge_batch [0] (ans := []) (vs := [(63, .int .i64 (i2 : Int))]) (l := []) (by kernel_rfl) trivial ?_
    rcases hx5 : l0[i2]? with _ | e2
    · rw [hx5] at h; cases h
    rw [hx5] at h
    simp only [] at h
    refine ge_index (d := 64) (ty := 0) (t := 40) (el := 46) (sz := 7) (m := l0.length) (c := c0) (x := (.tmp 59)) (y := (.tmp 61)) (A := A0) (k' := .i64) (j := (i2 : Int)) (jn := i2) (b0 := blkOf A0) (o0 := offOf A0) (by kernel_rfl) (by kernel_rfl) (by kernel_rfl) (by kernel_rfl) (by kernel_rfl) ((hS.rd hR0).eqSome (pos_of_get hx5)) rfl (lt_of_get hx5) ?_
    refine ge_batch [2] (ans := [.val (.string e2.Name), .val (.int .i64 e2.C), .val (.int .i64 e2.T), .val (.int .i64 e2.D), .val (.int .i64 e2.J), .val (.int .i64 e2.O), .val (.int .i64 e2.P)]) (vs := [(65, .agg #[.string e2.Name, .int .i64 e2.C, .int .i64 e2.T, .int .i64 e2.D, .int .i64 e2.J, .int .i64 e2.O, .int .i64 e2.P])]) (l := [.loaded ⟨blkOf A0, offOf A0 + i2 * 7, none⟩ (.string e2.Name), .loaded ⟨blkOf A0, offOf A0 + i2 * 7 + 1, none⟩ (.int .i64 e2.C), .loaded ⟨blkOf A0, offOf A0 + i2 * 7 + 2, none⟩ (.int .i64 e2.T), .loaded ⟨blkOf A0, offOf A0 + i2 * 7 + 3, none⟩ (.int .i64 e2.D), .loaded ⟨blkOf A0, offOf A0 + i2 * 7 + 4, none⟩ (.int .i64 e2.J), .loaded ⟨blkOf A0, offOf A0 + i2 * 7 + 5, none⟩ (.int .i64 e2.O), .loaded ⟨blkOf A0, offOf A0 + i2 * 7 + 6, none⟩ (.int .i64 e2.P)]) (by kernel_rfl) ⟨RdL.cell (j := 0) (hS.rd hR0) hx5 rfl, RdL.cell (j := 1) (hS.rd hR0) hx5 rfl, RdL.cell (j := 2) (hS.rd hR0) hx5 rfl, RdL.cell (j := 3) (hS.rd hR0) hx5 rfl, RdL.cell (j := 4) (hS.rd hR0) hx5 rfl, RdL.cell (j := 5) (hS.rd hR0) hx5 rfl, RdL.cell (j := 6) (hS.rd hR0) hx5 rfl, trivial⟩ ?_
    refine ge_new (d := some 13) (o := .cells #[.string (⟨#[]⟩), .int .i64 0, .int .i64 0, .int .i64 0, .int .i64 0, .int .i64 0, .int .i64 0] 46) (v := fun b => .pointer (some ⟨b, 0, none⟩)) hS (fun b => by kernel_rfl) fun b4 w15 hx6 hS42 => ?_
    refine ge_batch [4] (ans := []) (vs := [(12, .int .i64 (i2 : Int))]) (l := []) (by kernel_rfl) trivial ?_
    refine ge_set (b := b4) (j := 0) (cs := #[.string (⟨#[]⟩), .int .i64 0, .int .i64 0, .int .i64 0, .int .i64 0, .int .i64 0, .int .i64 0]) (t := 46) (vs := [.string e2.Name, .int .i64 e2.C, .int .i64 e2.T, .int .i64 e2.D, .int .i64 e2.J, .int .i64 e2.O, .int .i64 e2.P]) hS42 (by kernel_rfl) rfl rfl fun w16 hS43 => ?_
    have hS44 : St w0 w16 [Own.blk b4 (.cells #[.string e2.Name, .int .i64 e2.C, .int .i64 e2.T, .int .i64 e2.D, .int .i64 e2.J, .int .i64 e2.O, .int .i64 e2.P] 46 (0, 0)), Own.blk b1 (.cells #[.int .i64 0, .int .i64 0] 26 (0, 0)), Own.of v3 53 m3] := hS43
    refine ge_nil fun a hF => hK30 _ _ ?_ a hF
    refine we_seq fun K31 hK31 => ?_
    refine we_region [(0, 0), (1, 0), (2, 0), (3, 0), (4, 0), (5, 0), (6, 0), (7, 0), (8, 0), (9, 0), (10, 0), (11, 0), (12, 0), (13, 0)] rfl ?_
    refine ge_batch [0, 1, 2, 3, 4] (ans := [.val (.int .i64 e2.O)]) (vs := [(70, .bool (decide (z4 ≥ e2.O))), (69, .bool (decide (z4 ≥ e2.O))), (68, .int .i64 e2.O), (67, .pointer (some ⟨b4, 5, none⟩)), (66, .int .i64 z4)]) (l := [.loaded ⟨b4, 5, none⟩ (.int .i64 e2.O)]) (by kernel_rfl) ⟨hS44.cell 0 rfl rfl, trivial⟩ ?_
    by_cases hc10 : z4 ≥ e2.O
    · rw [if_pos hc10] at h
      refine ge_known (t := 70) (b := decide (z4 ≥ e2.O)) (c := true) (by kernel_rfl) (decide_eq_true hc10) ?_
      refine ge_batch [5, 6, 7, 8, 9, 10] (ans := [.val (.int .i64 e2.O), .val (.int .i64 e2.T)]) (vs := [(76, .int .i64 e2.T), (75, .pointer (some ⟨b4, 2, none⟩)), (74, .int .i64 (IntKind.i64.wrap (z4 - e2.O))), (73, .int .i64 e2.O), (72, .pointer (some ⟨b4, 5, none⟩)), (71, .int .i64 z4)]) (l := [.loaded ⟨b4, 5, none⟩ (.int .i64 e2.O), .loaded ⟨b4, 2, none⟩ (.int .i64 e2.T)]) (by kernel_rfl) ⟨hS44.cell 0 rfl rfl, hS44.cell 0 rfl rfl, trivial⟩ ?_
      by_cases hc11 : e2.T = 0
      · rw [if_pos hc11] at h
        cases h
      · rw [if_neg hc11] at h
        refine ge_div (d := 77) (ty := 3) (op := .rem) (x := (.tmp 74)) (y := (.tmp 76)) (t := 3) (t2 := 3) (k := .i64) (p := (IntKind.i64.wrap (z4 - e2.O))) (q := e2.T) (v := .int .i64 (Int.tmod (IntKind.i64.wrap (z4 - e2.O)) e2.T)) (by kernel_rfl) (by kernel_rfl) (by kernel_rfl) hc11 rfl ?_
        refine ge_batch [12, 13] (ans := []) (vs := [(79, .bool ((Int.tmod (IntKind.i64.wrap (z4 - e2.O)) e2.T) == 0)), (78, .bool ((Int.tmod (IntKind.i64.wrap (z4 - e2.O)) e2.T) == 0))]) (l := []) (by kernel_rfl) trivial ?_
        refine ge_nil fun a hF => hK31 _ _ ?_ a hF
        by_cases hc12 : (Int.tmod (IntKind.i64.wrap (z4 - e2.O)) e2.T) = 0
        · rw [if_pos hc12] at h
          refine we_known (t := 79) (b := ((Int.tmod (IntKind.i64.wrap (z4 - e2.O)) e2.T) == 0)) (v := true) (by kernel_rfl) (beq_iff_eq.2 hc12) ?_
          refine we_true (by kernel_rfl) ?_
          refine we_region [(0, 0), (1, 0), (2, 0), (3, 0), (4, 1), (5, 2), (6, 0)] rfl ?_
          refine ge_batch [0, 1, 2, 3] (ans := []) (vs := [(83, .agg #[.int .i64 (i2 : Int), .int .i64 z4]), (82, .int .i64 z4), (81, .int .i64 (i2 : Int)), (80, v3)]) (l := []) (by kernel_rfl) trivial ?_
          refine ge_new (d := some 84) (o := .cells #[.int .i64 (i2 : Int), .int .i64 z4] 53) (v := fun b => .slice (some ⟨b, 0, none⟩) 1 1) hS44 (fun b => by kernel_rfl) fun b5 w17 hx7 hS45 => ?_
          have hS46 := hS45.bring 3 rfl
          by_cases hc13 : m3.length < 8796093022208
          · rw [if_pos hc13] at h
            refine ge_append (α := SCome) (m := 0) (d := 85) (t := 49) (el := 53) (bytes := 16) (c1 := 1) (b1 := b5) (x := (.tmp 80)) (y := (.tmp 84)) (ty := 49) (v := v3) (z := .agg #[.int .i64 0, .int .i64 0]) (l := m3) (u := (⟨(i2 : Int), z4⟩ : SCome)) (by kernel_rfl) (by kernel_rfl) (by kernel_rfl) (by kernel_rfl) (by kernel_rfl) rfl hS46 rfl (by omega) fun v5 w18 hS47 => ?_
            refine ge_batch [6] (ans := []) (vs := [(10, v5)]) (l := []) (by kernel_rfl) trivial ?_
            refine ge_nil fun a hF => hK29 _ _ ?_ a hF
            refine we_region [(0, 0), (1, 0)] rfl ?_
            refine ge_addn (d := 86) (ty := 3) (x := (.tmp 61)) (y := (.const (.int .i64 1))) (t := 3) (t2 := 3) (k := .i64) (m := i2) (by kernel_rfl) (by kernel_rfl) (by kernel_rfl) (by have h0 := hR0.small; omega) ?_
            refine ge_batch [1] (ans := []) (vs := [(61, .int .i64 ((i2 + 1 : Nat) : Int))]) (l := []) (by kernel_rfl) trivial ?_
            have hS48 := hS47.bring 2 rfl
            have hS49 := hS48.takeN 2
            obtain rfl := Option.some.inj h
            exact ge_nil fun a hF => hQ _ _ _ (Outs.again ⟨v5, hS49, hF.weaken ⟨by kernel_rfl, by kernel_rfl, by kernel_rfl, by kernel_rfl, by kernel_rfl, by kernel_rfl, by kernel_rfl, by kernel_rfl, trivial⟩⟩)
          · rw [if_neg hc13] at h
            cases h
        · rw [if_neg hc12] at h
          refine we_known (t := 79) (b := ((Int.tmod (IntKind.i64.wrap (z4 - e2.O)) e2.T) == 0)) (v := false) (by kernel_rfl) (beq_eq_false_iff_ne.2 hc12) ?_
          refine we_false (by kernel_rfl) ?_
          refine we_skip fun a hF => hK29 _ _ ?_ a hF
          refine we_region [(0, 0), (1, 0)] rfl ?_
          refine ge_addn (d := 86) (ty := 3) (x := (.tmp 61)) (y := (.const (.int .i64 1))) (t := 3) (t2 := 3) (k := .i64) (m := i2) (by kernel_rfl) (by kernel_rfl) (by kernel_rfl) (by have h0 := hR0.small; omega) ?_
          refine ge_batch [1] (ans := []) (vs := [(61, .int .i64 ((i2 + 1 : Nat) : Int))]) (l := []) (by kernel_rfl) trivial ?_
          have hS50 := hS44.bring 2 rfl
          have hS51 := hS50.bring 2 rfl
          have hS52 := hS51.takeN 2
          obtain rfl := Option.some.inj h
          exact ge_nil fun a hF => hQ _ _ _ (Outs.again ⟨v3, hS52, hF.weaken ⟨by kernel_rfl, by kernel_rfl, by kernel_rfl, by kernel_rfl, by kernel_rfl, by kernel_rfl, by kernel_rfl, by kernel_rfl, trivial⟩⟩)
    · rw [if_neg hc10] at h
      refine ge_known (t := 70) (b := decide (z4 ≥ e2.O)) (c := false) (by kernel_rfl) (decide_eq_false hc10) ?_
      refine ge_batch [5, 6, 7, 8, 9, 10, 11, 12, 13] (ans := []) (vs := [(79, .bool false), (78, undef), (77, undef), (76, undef), (75, undef), (74, undef), (73, undef), (72, undef), (71, undef)]) (l := []) (by kernel_rfl) trivial ?_
      refine ge_nil fun a hF => hK31 _ _ ?_ a hF
      refine we_false (by kernel_rfl) ?_
      refine we_skip fun a hF => hK29 _ _ ?_ a hF
      refine we_region [(0, 0), (1, 0)] rfl ?_
      refine ge_addn (d := 86) (ty := 3) (x := (.tmp 61)) (y := (.const (.int .i64 1))) (t := 3) (t2 := 3) (k := .i64) (m := i2) (by kernel_rfl) (by kernel_rfl) (by kernel_rfl) (by have h0 := hR0.small; omega) ?_
      refine ge_batch [1] (ans := []) (vs := [(61, .int .i64 ((i2 + 1 : Nat) : Int))]) (l := []) (by kernel_rfl) trivial ?_
      have hS53 := hS44.bring 2 rfl
      have hS54 := hS53.bring 2 rfl
      have hS55 := hS54.takeN 2
      obtain rfl := Option.some.inj h
      exact ge_nil fun a hF => hQ _ _ _ (Outs.again ⟨v3, hS55, hF.weaken ⟨by kernel_rfl, by kernel_rfl, by kernel_rfl, by kernel_rfl, by kernel_rfl, by kernel_rfl, by kernel_rfl, by kernel_rfl, trivial⟩⟩)
  · rw [if_neg hc9] at h
    refine we_known (t := 62) (b := decide ((i2 : Int) < (l0.length : Int))) (v := false) (by kernel_rfl) (decide_eq_false hc9) ?_
    refine we_false (by kernel_rfl) ?_
    have hS56 := hS.bring 1 rfl
    have hS57 := hS56.bring 1 rfl
    obtain rfl := Option.some.inj h
    exact we_exit fun a hF => hQ _ _ _ (Outs.out nofun (Exits.here ⟨v3, hS57, hF.weaken ⟨by kernel_rfl, by kernel_rfl, by kernel_rfl, by kernel_rfl, by kernel_rfl, trivial⟩⟩))
abbrev punctualref_Soon.A2 (K : Nat) (w0 : World) (l0 : List STask) (A0 : Option Addr) (c0 : Nat) (x1 : Int) (hR0 : RdL w0 A0 l0) (hL0 : l0.length ≤ c0) (b1 : Nat) (r1 : SFault) (b2 : Nat) (hc1 : r1.Code = 0) (z3 : Int) (hc7 : ¬ (z3 > 4000)) : ((List SCome) × Int) → Act → World → Prop := fun (s : (List SCome) × Int) a w => ∃ (v1 : Value), St w0 w [Own.blk b1 (.cells #[.int .i64 0, .int .i64 0] 26 (0, 0)), Own.of v1 53 s.1] ∧ Frm 89 a [(0, .slice A0 l0.length c0), (1, .int .i64 x1), (5, .pointer (some ⟨b1, 0, none⟩)), (10, v1), (11, .int .i64 s.2)]
abbrev punctualref_Soon.B2 (K : Nat) (w0 : World) (l0 : List STask) (A0 : Option Addr) (c0 : Nat) (x1 : Int) (hR0 : RdL w0 A0 l0) (hL0 : l0.length ≤ c0) (b1 : Nat) (r1 : SFault) (b2 : Nat) (hc1 : r1.Code = 0) (z3 : Int) (hc7 : ¬ (z3 > 4000)) : ((List SCome) ⊕ ((List SCome) × SFault)) → Exit → Act → World → Prop := Exits 2 (fun (s : (List SCome)) a w => ∃ (v2 : Value), St w0 w [Own.blk b1 (.cells #[.int .i64 0, .int .i64 0] 26 (0, 0)), Own.of v2 53 s] ∧ Frm 89 a [(5, .pointer (some ⟨b1, 0, none⟩)), (10, v2)]) (Rets Tryd.prog Tryd.f46 (punctualref_Soon.Post w0))
theorem punctualref_Soon_r2 (K : Nat) (w0 : World) (l0 : List STask) (A0 : Option Addr) (c0 : Nat) (x1 : Int) (hR0 : RdL w0 A0 l0) (hL0 : l0.length ≤ c0) (b1 : Nat) (r1 : SFault) (b2 : Nat) (hc1 : r1.Code = 0) (z3 : Int) (hc7 : ¬ (z3 > 4000)) (s : (List SCome) × Int) (o : ((List SCome) × Int) ⊕ ((List SCome) ⊕ ((List SCome) × SFault))) (h : punctualref_Soon.r2 K l0 x1 s = some o) (a : Act) (w : World) (hA : punctualref_Soon.A2 K w0 l0 A0 c0 x1 hR0 hL0 b1 r1 b2 hc1 z3 hc7 s a w) (Q : Exit → Act → World → Prop) (hQ : ∀ x a w, Outs (punctualref_Soon.A2 K w0 l0 A0 c0 x1 hR0 hL0 b1 r1 b2 hc1 z3 hc7) (punctualref_Soon.B2 K w0 l0 A0 c0 x1 hR0 hL0 b1 r1 b2 hc1 z3 hc7) o x a w → Q x a w) : (subF Tryd.f46 [1, 1, 1, 1, 1, 1, 1, 0, 1, 0, 0]).wp Tryd.prog Q a w := by
  obtain ⟨m1, z4⟩ := s
  obtain ⟨v1, hS, hF⟩ := hA
  replace hS : St w0 w [Own.blk b1 (.cells #[.int .i64 0, .int .i64 0] 26 (0, 0)), Own.of v1 53 m1] := hS
  simp only [punctualref_Soon.r2] at h
  refine (?_ : WE Tryd.prog 89 (subF Tryd.f46 [1, 1, 1, 1, 1, 1, 1, 0, 1, 0, 0]) Q [(0, .slice A0 l0.length c0), (1, .int .i64 x1), (5, .pointer (some ⟨b1, 0, none⟩)), (10, v1), (11, .int .i64 z4)] w) a hF
  clear hF a
  refine we_seq fun K23 hK23 => ?_
  refine we_seq fun K24 hK24 => ?_
  refine we_region [(0, 0), (1, 0), (2, 0)] rfl ?_
  refine ge_batch [0, 1, 2] (ans := []) (vs := [(56, .bool (decide (z4 < x1))), (55, .int .i64 x1), (54, .int .i64 z4)]) (l := []) (by kernel_rfl) trivial ?_
  refine ge_nil fun a hF => hK24 _ _ ?_ a hF
  by_cases hc8 : z4 < x1
  · rw [if_pos hc8] at h
    refine we_known (t := 56) (b := decide (z4 < x1)) (v := true) (by kernel_rfl) (decide_eq_true hc8) ?_
    refine we_true (by kernel_rfl) ?_
    refine we_skip fun a hF => hK23 _ _ ?_ a hF
    refine we_seq fun K25 hK25 => ?_
    refine we_block ?_
    refine we_seq fun K26 hK26 => ?_
    refine we_region [(0, 0), (1, 0), (2, 0)] rfl ?_
    refine ge_batch [0, 1, 2] (ans := []) (vs := [(61, .int .i64 0), (60, .int .i64 (l0.length : Int)), (59, .slice A0 l0.length c0)]) (l := []) (by kernel_rfl) trivial ?_
    refine ge_nil fun a hF => hK26 _ _ ?_ a hF
    refine we_block ?_
    obtain ⟨Z1, cz1, rfl⟩ := hS.open 1 rfl
    have hS40 := hS.bring 1 rfl
    have hS41 := hS40.bring 1 rfl
    rcases hq7 : iter (punctualref_Soon.r3 l0 z4) K (m1, 0) with _ | (m5 | rr1)
    · rw [hq7] at h; cases h
    · rw [hq7] at h
      simp only [] at h
      refine we_iter (A := punctualref_Soon.A3 K w0 l0 A0 c0 x1 hR0 hL0 b1 r1 b2 hc1 z3 hc7 m1 z4 hc8 Z1 cz1) (B := punctualref_Soon.B3 K w0 l0 A0 c0 x1 hR0 hL0 b1 r1 b2 hc1 z3 hc7 m1 z4 hc8 Z1 cz1) hq7 (fun a hF => ⟨(.slice Z1 m1.length cz1), hS41, hF.weaken ⟨by kernel_rfl, by kernel_rfl, by kernel_rfl, by kernel_rfl, by kernel_rfl, by kernel_rfl, by kernel_rfl, by kernel_rfl, trivial⟩⟩) (fun s o hf a w hA Q hQ => punctualref_Soon_r3 K w0 l0 A0 c0 x1 hR0 hL0 b1 r1 b2 hc1 z3 hc7 m1 z4 hc8 Z1 cz1 s o hf a w hA Q hQ) ?_
      rintro _ a w19 _ ⟨rfl, v6, hS58, hF⟩
      replace hS58 : St w0 w19 [Own.blk b1 (.cells #[.int .i64 0, .int .i64 0] 26 (0, 0)), Own.of v6 53 m5] := hS58
      refine hK25 [(0, .slice A0 l0.length c0), (1, .int .i64 x1), (5, .pointer (some ⟨b1, 0, none⟩)), (10, v6), (11, .int .i64 z4)] w19 ?_ a hF
      refine we_region [(0, 0), (1, 0), (2, 0)] rfl ?_
      refine ge_batch [0, 1, 2] (ans := []) (vs := [(11, .int .i64 (IntKind.i64.wrap (z4 + 1))), (58, .int .i64 (IntKind.i64.wrap (z4 + 1))), (57, .int .i64 z4)]) (l := []) (by kernel_rfl) trivial ?_
      have hS59 := hS58.bring 1 rfl
      have hS60 := hS59.bring 1 rfl
      obtain rfl := Option.some.inj h
      exact ge_nil fun a hF => hQ _ _ _ (Outs.again ⟨v6, hS60, hF.weaken ⟨by kernel_rfl, by kernel_rfl, by kernel_rfl, by kernel_rfl, by kernel_rfl, trivial⟩⟩)
    · rw [hq7] at h
      simp only [] at h
      refine we_iter (A := punctualref_Soon.A3 K w0 l0 A0 c0 x1 hR0 hL0 b1 r1 b2 hc1 z3 hc7 m1 z4 hc8 Z1 cz1) (B := punctualref_Soon.B3 K w0 l0 A0 c0 x1 hR0 hL0 b1 r1 b2 hc1 z3 hc7 m1 z4 hc8 Z1 cz1) hq7 (fun a hF => ⟨(.slice Z1 m1.length cz1), hS41, hF.weaken ⟨by kernel_rfl, by kernel_rfl, by kernel_rfl, by kernel_rfl, by kernel_rfl, by kernel_rfl, by kernel_rfl, by kernel_rfl, trivial⟩⟩) (fun s o hf a w hA Q hQ => punctualref_Soon_r3 K w0 l0 A0 c0 x1 hR0 hL0 b1 r1 b2 hc1 z3 hc7 m1 z4 hc8 Z1 cz1 s o hf a w hA Q hQ) ?_
      rintro _ a w1 _ ⟨rfl, hb⟩
      obtain rfl := Option.some.inj h
      exact hQ _ _ _ (Outs.out nofun (Exits.on ⟨rfl, hb⟩))
  · rw [if_neg hc8] at h
    refine we_known (t := 56) (b := decide (z4 < x1)) (v := false) (by kernel_rfl) (decide_eq_false hc8) ?_
    refine we_false (by kernel_rfl) ?_
    have hS61 := hS.bring 1 rfl
    have hS62 := hS61.bring 1 rfl
    obtain rfl := Option.some.inj h
    exact we_exit fun a hF => hQ _ _ _ (Outs.out nofun (Exits.here ⟨v1, hS62, hF.weaken ⟨by kernel_rfl, by kernel_rfl, trivial⟩⟩))
theorem punctualref_Soon_ok (K : Nat) (l0 : List STask) (A0 : Option Addr) (c0 : Nat) (x1 : Int) (w0 : World) (hR0 : RdL w0 A0 l0) (hL0 : l0.length ≤ c0) (r : (List SCome) × SFault) (h : punctualref_Soon.f K l0 x1 = some r) :
    Calls Tryd.prog 46 #[.slice A0 l0.length c0, .int .i64 x1] w0 (punctualref_Soon.Post w0 r) := by
  have hS := St.start w0
  unfold punctualref_Soon.f at h
  refine calls_enter (n := 89) (args := [.slice A0 l0.length c0, .int .i64 x1]) (fn := Tryd.f46) rfl rfl rfl rfl ?_
  show WE _ _ _ _ [(0, .slice A0 l0.length c0), (1, .int .i64 x1)] _
  refine we_seq fun K1 hK1 => ?_
  refine we_region [(0, 0), (1, 1)] rfl ?_
  refine ge_batch [0] (ans := []) (vs := [(4, .slice none 0 0)]) (l := []) (by kernel_rfl) trivial ?_
  refine ge_new (d := some 5) (o := .cells #[.int .i64 0, .int .i64 0] 26) (v := fun b => .pointer (some ⟨b, 0, none⟩)) hS (fun b => by kernel_rfl) fun b1 w1 hx1 hS1 => ?_
  refine ge_nil fun a hF => hK1 _ _ ?_ a hF
  refine we_seq fun K2 hK2 => ?_
  refine we_seq fun K3 hK3 => ?_
  refine we_region [(0, 0), (1, 1), (2, 1), (3, 2)] rfl ?_
  rcases hq1 : punctualref_CheckSet.f K l0 with _ | r1
  · rw [hq1] at h; cases h
  rw [hq1] at h
  simp only [] at h
  refine ge_batch [0] (ans := []) (vs := [(14, .slice A0 l0.length c0)]) (l := []) (by kernel_rfl) trivial ?_
  refine ge_call (d := some 15) (f := 23) (args := #[.slice A0 l0.length c0]) (by kernel_rfl) (punctualref_CheckSet_ok K l0 A0 c0 _ (hS1.rd hR0) hL0 _ hq1) ?_
  rintro _ w2 ⟨rfl, hS2⟩
  refine ⟨_, rfl, hS2.below, ?_⟩
  have hS3 := hS1.call hS2
  refine ge_new (d := some 6) (o := .cells #[.int .i64 0, .int .i64 0] 26) (v := fun b => .pointer (some ⟨b, 0, none⟩)) hS3 (fun b => by kernel_rfl) fun b2 w3 hx2 hS4 => ?_
  refine ge_set (b := b2) (j := 0) (cs := #[.int .i64 0, .int .i64 0]) (t := 26) (vs := [.int .i64 r1.Code, .int .i64 r1.At]) hS4 (by kernel_rfl) rfl rfl fun w4 hS5 => ?_
  have hS6 : St w0 w4 [Own.blk b2 (.cells #[.int .i64 r1.Code, .int .i64 r1.At] 26 (0, 0)), Own.blk b1 (.cells #[.int .i64 0, .int .i64 0] 26 (0, 0))] := hS5
  refine ge_nil fun a hF => hK3 _ _ ?_ a hF
  refine we_seq fun K4 hK4 => ?_
  refine we_region [(0, 0), (1, 0), (2, 0)] rfl ?_
  refine ge_batch [0, 1, 2] (ans := [.val (.int .i64 r1.Code)]) (vs := [(18, .bool (r1.Code != 0)), (17, .int .i64 r1.Code), (16, .pointer (some ⟨b2, 0, none⟩))]) (l := [.loaded ⟨b2, 0, none⟩ (.int .i64 r1.Code)]) (by kernel_rfl) ⟨hS6.cell 0 rfl rfl, trivial⟩ ?_
  refine ge_nil fun a hF => hK4 _ _ ?_ a hF
  by_cases hc1 : r1.Code = 0
  · rw [if_pos hc1] at h
    refine we_known (t := 18) (b := (r1.Code != 0)) (v := false) (by kernel_rfl) (bne_eq_false_iff_eq.2 hc1) ?_
    refine we_false (by kernel_rfl) ?_
    refine we_skip fun a hF => hK2 _ _ ?_ a hF
    refine we_seq fun K5 hK5 => ?_
    rcases hq4 : punctualref_Soon.p0 x1 with _ | (_ | rr4)
    · rw [hq4] at h; cases h
    · rw [hq4] at h
      simp only [] at h
      refine we_keep (e' := [(0, .slice A0 l0.length c0), (1, .int .i64 x1), (4, .slice none 0 0), (5, .pointer (some ⟨b1, 0, none⟩)), (6, .pointer (some ⟨b2, 0, none⟩)), (14, .slice A0 l0.length c0), (15, .agg #[.int .i64 r1.Code, .int .i64 r1.At]), (16, .pointer (some ⟨b2, 0, none⟩)), (17, .int .i64 r1.Code), (18, .bool false)]) ⟨by kernel_rfl, by kernel_rfl, by kernel_rfl, by kernel_rfl, by kernel_rfl, by kernel_rfl, by kernel_rfl, by kernel_rfl, by kernel_rfl, by kernel_rfl, trivial⟩ (punctualref_Soon_p0 K w0 l0 A0 c0 x1 hR0 hL0 b1 r1 b2 hc1 _ hq4 _ hS6 _ ?_)
      rintro _ a w9 ⟨rfl, hS23, hF⟩
      replace hS23 : St w0 w9 [Own.blk b1 (.cells #[.int .i64 0, .int .i64 0] 26 (0, 0))] := hS23
      refine hK5 [(0, .slice A0 l0.length c0), (1, .int .i64 x1), (5, .pointer (some ⟨b1, 0, none⟩))] w9 ?_ a hF
      refine we_seq fun K9 hK9 => ?_
      refine we_region [(0, 0)] rfl ?_
      refine ge_batch [0] (ans := []) (vs := [(7, .int .i64 0)]) (l := []) (by kernel_rfl) trivial ?_
      refine ge_nil fun a hF => hK9 _ _ ?_ a hF
      refine we_seq fun K10 hK10 => ?_
      refine we_seq fun K11 hK11 => ?_
      refine we_region [(0, 0), (1, 0), (2, 0)] rfl ?_
      refine ge_batch [0, 1, 2] (ans := []) (vs := [(29, .int .i64 0), (28, .int .i64 (l0.length : Int)), (27, .slice A0 l0.length c0)]) (l := []) (by kernel_rfl) trivial ?_
      refine ge_nil fun a hF => hK11 _ _ ?_ a hF
      refine we_block ?_
      rcases hq5 : iter (punctualref_Soon.r1 l0 x1) K (0, 0) with _ | (z3 | rr3)
      · rw [hq5] at h; cases h
      · rw [hq5] at h
        simp only [] at h
        refine we_iter (A := punctualref_Soon.A1 K w0 l0 A0 c0 x1 hR0 hL0 b1 r1 b2 hc1) (B := punctualref_Soon.B1 K w0 l0 A0 c0 x1 hR0 hL0 b1 r1 b2 hc1) hq5 (fun a hF => ⟨hS23, hF.weaken ⟨by kernel_rfl, by kernel_rfl, by kernel_rfl, by kernel_rfl, by kernel_rfl, by kernel_rfl, by kernel_rfl, trivial⟩⟩) (fun s o hf a w hA Q hQ => punctualref_Soon_r1 K w0 l0 A0 c0 x1 hR0 hL0 b1 r1 b2 hc1 s o hf a w hA Q hQ) ?_
        rintro _ a w12 _ ⟨rfl, hS31, hF⟩
        replace hS31 : St w0 w12 [Own.blk b1 (.cells #[.int .i64 0, .int .i64 0] 26 (0, 0))] := hS31
        refine hK10 [(0, .slice A0 l0.length c0), (1, .int .i64 x1), (5, .pointer (some ⟨b1, 0, none⟩)), (7, .int .i64 z3)] w12 ?_ a hF
        refine we_seq fun K17 hK17 => ?_
        refine we_seq fun K18 hK18 => ?_
        refine we_region [(0, 0), (1, 0)] rfl ?_
        refine ge_batch [0, 1] (ans := []) (vs := [(52, .bool (decide (z3 > 4000))), (51, .int .i64 z3)]) (l := []) (by kernel_rfl) trivial ?_
        refine ge_nil fun a hF => hK18 _ _ ?_ a hF
        by_cases hc7 : z3 > 4000
        · rw [if_pos hc7] at h
          refine we_known (t := 52) (b := decide (z3 > 4000)) (v := true) (by kernel_rfl) (decide_eq_true hc7) ?_
          refine we_true (by kernel_rfl) ?_
          refine we_seq fun K19 hK19 => ?_
          refine we_region [(0, 1), (1, 0), (2, 2)] rfl ?_
          refine ge_call (d := some 53) (f := 21) (args := #[.int .i64 2, .int .i64 0]) (by kernel_rfl) (punctualref_F_ok 2 0 _ _ rfl) ?_
          rintro _ w13 ⟨rfl, hS32⟩
          refine ⟨_, rfl, hS32.below, ?_⟩
          have hS33 := hS31.call hS32
          refine ge_batch [1] (ans := []) (vs := [(4, .slice none 0 0)]) (l := []) (by kernel_rfl) trivial ?_
          refine ge_set (b := b1) (j := 0) (cs := #[.int .i64 0, .int .i64 0]) (t := 26) (vs := [.int .i64 ((punctualref_F.f 2 0).Code), .int .i64 ((punctualref_F.f 2 0).At)]) hS33 (by kernel_rfl) rfl rfl fun w14 hS34 => ?_
          have hS35 : St w0 w14 [Own.blk b1 (.cells #[.int .i64 ((punctualref_F.f 2 0).Code), .int .i64 ((punctualref_F.f 2 0).At)] 26 (0, 0))] := hS34
          refine ge_nil fun a hF => hK19 _ _ ?_ a hF
          have hS36 := hS35.nil (α := SCome) 53
          have hS37 := hS36.takeN 1
          obtain rfl := Option.some.inj h
          exact we_ret (post_ret (rs := [.tmp 4, .cell 5 26]) (ans := [.val (.int .i64 ((punctualref_F.f 2 0).Code)), .val (.int .i64 ((punctualref_F.f 2 0).At))]) (vs := [(.slice none 0 0), .agg #[.int .i64 ((punctualref_F.f 2 0).Code), .int .i64 ((punctualref_F.f 2 0).At)]]) (l := [.loaded ⟨b1, 0, none⟩ (.int .i64 ((punctualref_F.f 2 0).Code)), .loaded ⟨b1, 1, none⟩ (.int .i64 ((punctualref_F.f 2 0).At))]) rfl (by kernel_rfl) ⟨hS36.cell 1 rfl rfl, hS36.cell 1 rfl rfl, trivial⟩ ⟨(.slice none 0 0), rfl, hS37⟩)
        · rw [if_neg hc7] at h
          refine we_known (t := 52) (b := decide (z3 > 4000)) (v := false) (by kernel_rfl) (decide_eq_false hc7) ?_
          refine we_false (by kernel_rfl) ?_
          refine we_skip fun a hF => hK17 _ _ ?_ a hF
          refine we_seq fun K20 hK20 => ?_
          refine we_region [(0, 0)] rfl ?_
          refine ge_batch [0] (ans := []) (vs := [(10, .slice none 0 0)]) (l := []) (by kernel_rfl) trivial ?_
          refine ge_nil fun a hF => hK20 _ _ ?_ a hF
          refine we_seq fun K21 hK21 => ?_
          refine we_seq fun K22 hK22 => ?_
          refine we_region [(0, 0)] rfl ?_
          refine ge_batch [0] (ans := []) (vs := [(11, .int .i64 0)]) (l := []) (by kernel_rfl) trivial ?_
          refine ge_nil fun a hF => hK22 _ _ ?_ a hF
          refine we_block ?_
          have hS38 := hS31.nil (α := SCome) 53
          have hS39 := hS38.bring 1 rfl
          rcases hq8 : iter (punctualref_Soon.r2 K l0 x1) K (([] : List SCome), 0) with _ | (m6 | rr2)
          · rw [hq8] at h; cases h
          · rw [hq8] at h
            simp only [] at h
            refine we_iter (A := punctualref_Soon.A2 K w0 l0 A0 c0 x1 hR0 hL0 b1 r1 b2 hc1 z3 hc7) (B := punctualref_Soon.B2 K w0 l0 A0 c0 x1 hR0 hL0 b1 r1 b2 hc1 z3 hc7) hq8 (fun a hF => ⟨(.slice none 0 0), hS39, hF.weaken ⟨by kernel_rfl, by kernel_rfl, by kernel_rfl, by kernel_rfl, by kernel_rfl, trivial⟩⟩) (fun s o hf a w hA Q hQ => punctualref_Soon_r2 K w0 l0 A0 c0 x1 hR0 hL0 b1 r1 b2 hc1 z3 hc7 s o hf a w hA Q hQ) ?_
            rintro _ a w20 _ ⟨rfl, v7, hS63, hF⟩
            replace hS63 : St w0 w20 [Own.blk b1 (.cells #[.int .i64 0, .int .i64 0] 26 (0, 0)), Own.of v7 53 m6] := hS63
            refine hK21 [(5, .pointer (some ⟨b1, 0, none⟩)), (10, v7)] w20 ?_ a hF
            refine we_seq fun K32 hK32 => ?_
            refine we_region [(0, 0), (1, 0), (2, 0), (3, 2)] rfl ?_
            refine ge_batch [0, 1, 2] (ans := []) (vs := [(4, v7), (88, .agg #[.int .i64 0, .int .i64 0]), (87, v7)]) (l := []) (by kernel_rfl) trivial ?_
            refine ge_set (b := b1) (j := 0) (cs := #[.int .i64 0, .int .i64 0]) (t := 26) (vs := [.int .i64 0, .int .i64 0]) hS63 (by kernel_rfl) rfl rfl fun w21 hS64 => ?_
            have hS65 : St w0 w21 [Own.blk b1 (.cells #[.int .i64 0, .int .i64 0] 26 (0, 0)), Own.of v7 53 m6] := hS64
            refine ge_nil fun a hF => hK32 _ _ ?_ a hF
            have hS66 := hS65.bring 1 rfl
            have hS67 := hS66.takeN 1
            obtain rfl := Option.some.inj h
            exact we_ret (post_ret (rs := [.tmp 4, .cell 5 26]) (ans := [.val (.int .i64 0), .val (.int .i64 0)]) (vs := [v7, .agg #[.int .i64 0, .int .i64 0]]) (l := [.loaded ⟨b1, 0, none⟩ (.int .i64 0), .loaded ⟨b1, 1, none⟩ (.int .i64 0)]) rfl (by kernel_rfl) ⟨hS65.cell 0 rfl rfl, hS65.cell 0 rfl rfl, trivial⟩ ⟨v7, rfl, hS67⟩)
          · rw [hq8] at h
            simp only [] at h
            refine we_iter (A := punctualref_Soon.A2 K w0 l0 A0 c0 x1 hR0 hL0 b1 r1 b2 hc1 z3 hc7) (B := punctualref_Soon.B2 K w0 l0 A0 c0 x1 hR0 hL0 b1 r1 b2 hc1 z3 hc7) hq8 (fun a hF => ⟨(.slice none 0 0), hS39, hF.weaken ⟨by kernel_rfl, by kernel_rfl, by kernel_rfl, by kernel_rfl, by kernel_rfl, trivial⟩⟩) (fun s o hf a w hA Q hQ => punctualref_Soon_r2 K w0 l0 A0 c0 x1 hR0 hL0 b1 r1 b2 hc1 z3 hc7 s o hf a w hA Q hQ) ?_
            rintro _ a w1 _ ⟨rfl, hb⟩
            obtain rfl := Option.some.inj h
            exact hb
      · rw [hq5] at h
        simp only [] at h
        refine we_iter (A := punctualref_Soon.A1 K w0 l0 A0 c0 x1 hR0 hL0 b1 r1 b2 hc1) (B := punctualref_Soon.B1 K w0 l0 A0 c0 x1 hR0 hL0 b1 r1 b2 hc1) hq5 (fun a hF => ⟨hS23, hF.weaken ⟨by kernel_rfl, by kernel_rfl, by kernel_rfl, by kernel_rfl, by kernel_rfl, by kernel_rfl, by kernel_rfl, trivial⟩⟩) (fun s o hf a w hA Q hQ => punctualref_Soon_r1 K w0 l0 A0 c0 x1 hR0 hL0 b1 r1 b2 hc1 s o hf a w hA Q hQ) ?_
        rintro _ a w1 _ ⟨rfl, hb⟩
        obtain rfl := Option.some.inj h
        exact hb
    · rw [hq4] at h
      simp only [] at h
      refine we_keep (e' := [(0, .slice A0 l0.length c0), (1, .int .i64 x1), (4, .slice none 0 0), (5, .pointer (some ⟨b1, 0, none⟩)), (6, .pointer (some ⟨b2, 0, none⟩)), (14, .slice A0 l0.length c0), (15, .agg #[.int .i64 r1.Code, .int .i64 r1.At]), (16, .pointer (some ⟨b2, 0, none⟩)), (17, .int .i64 r1.Code), (18, .bool false)]) ⟨by kernel_rfl, by kernel_rfl, by kernel_rfl, by kernel_rfl, by kernel_rfl, by kernel_rfl, by kernel_rfl, by kernel_rfl, by kernel_rfl, by kernel_rfl, trivial⟩ (punctualref_Soon_p0 K w0 l0 A0 c0 x1 hR0 hL0 b1 r1 b2 hc1 _ hq4 _ hS6 _ ?_)
      rintro _ a w1 ⟨_, rfl, hb⟩
      obtain rfl := Option.some.inj h
      exact hb
  · rw [if_neg hc1] at h
    refine we_known (t := 18) (b := (r1.Code != 0)) (v := true) (by kernel_rfl) (bne_iff_ne.2 hc1) ?_
    refine we_true (by kernel_rfl) ?_
    refine we_seq fun K33 hK33 => ?_
    refine we_draws (by kernel_rfl) [(0, 0), (1, 0), (2, 2)] (by kernel_rfl) ?_
    have hS68 := hS6.drew
    refine ge_batch [0, 1] (ans := [.val (.int .i64 r1.Code), .val (.int .i64 r1.At)]) (vs := [(4, .slice none 0 0), (19, .agg #[.int .i64 r1.Code, .int .i64 r1.At])]) (l := [.loaded ⟨b2, 0, none⟩ (.int .i64 r1.Code), .loaded ⟨b2, 1, none⟩ (.int .i64 r1.At)]) (by kernel_rfl) ⟨hS68.cell 0 rfl rfl, hS68.cell 0 rfl rfl, trivial⟩ ?_
    have hS69 := hS68.bring 1 rfl
    refine ge_set (b := b1) (j := 0) (cs := #[.int .i64 0, .int .i64 0]) (t := 26) (vs := [.int .i64 r1.Code, .int .i64 r1.At]) hS69 (by kernel_rfl) rfl rfl fun w22 hS70 => ?_
    have hS71 : St w0 w22 [Own.blk b1 (.cells #[.int .i64 r1.Code, .int .i64 r1.At] 26 (0, 0)), Own.blk b2 (.cells #[.int .i64 r1.Code, .int .i64 r1.At] 26 (0, 0))] := hS70
    refine ge_nil fun a hF => hK33 _ _ ?_ a hF
    have hS72 := hS71.nil (α := SCome) 53
    have hS73 := hS72.takeN 1
    obtain rfl := Option.some.inj h
    exact we_ret (post_ret (rs := [.tmp 4, .cell 5 26]) (ans := [.val (.int .i64 r1.Code), .val (.int .i64 r1.At)]) (vs := [(.slice none 0 0), .agg #[.int .i64 r1.Code, .int .i64 r1.At]]) (l := [.loaded ⟨b1, 0, none⟩ (.int .i64 r1.Code), .loaded ⟨b1, 1, none⟩ (.int .i64 r1.At)]) rfl (by kernel_rfl) ⟨hS72.cell 1 rfl rfl, hS72.cell 1 rfl rfl, trivial⟩ ⟨(.slice none 0 0), rfl, hS73⟩)

/-! punctual/punctualsame.Spoil[punctual/api.Come] -/
theorem punctualsame_Spoil_api_Come_ok (w0 w : World) {L : List Own} (A : Option Addr) (n c : Nat) (l : List SCome) (hS : St w0 w (Own.of (.slice A n c) 53 l :: L)) : Calls Tryd.prog 47 #[.slice A n c] w (fun e w' => e = .returned (.tuple #[]) ∧ St w0 w' L) := by
  refine calls_enter (n := 6) (args := [.slice A n c]) (fn := Tryd.f47) rfl rfl rfl rfl ?_
  show WE _ _ _ _ [(0, .slice A n c)] _
  refine we_region [(0, 0), (1, 0), (2, 0), (3, 0), (4, 2)] rfl ?_
  refine ge_batch [0, 1, 2] (ans := []) (vs := [(4, .int .i64 (c : Int)), (3, .slice A n c), (2, .slice A n c)]) (l := []) (by kernel_rfl) trivial ?_
  refine ge_sliceHi (d := 5) (ty := 49) (t := 49) (el := 53) (sz := 2) (m := n) (c := c) (hn := c) (x := (.tmp 2)) (y := (.tmp 4)) (A := A) (k' := .i64) (hi := (c : Int)) (by kernel_rfl) (by kernel_rfl) (by kernel_rfl) rfl (by kernel_rfl) (by kernel_rfl) (Nat.le_refl _) ?_
  refine ge_clear (α := SCome) (m := 0) (t := 49) (el := 53) (c := c) (k := n) (bytes := 16) (x := (.tmp 5)) (ty := 0) (A := A) (z := .agg #[.int .i64 0, .int .i64 0]) (l := l) (by kernel_rfl) (by kernel_rfl) (by kernel_rfl) (by kernel_rfl) rfl rfl hS fun w1 hS1 => ?_
  exact ge_nil (post_end (rs := []) (ans := []) (vs := []) (l := []) rfl (by kernel_rfl) trivial ⟨rfl, hS1⟩)
end Go.Proofs.YtlipdmblinjjaaaDoor.GV
