/- Walks of single functions, written by a program of this work. -/
import Derived.Test.YtlipdmblinjjaaaDoorGWTasksJobs2
namespace Go.Proofs.YtlipdmblinjjaaaDoor.GV
open Go Go.RowKit
set_option linter.unusedVariables false
set_option linter.unusedSimpArgs false
set_option maxRecDepth 100000

/-! punctual/punctualsame.Lend[punctual/api.Task] -/
abbrev punctualsame_Lend_api_Task.Post (w0 : World) (n : Nat) (r : List STask) (e : Ending) (w : World) : Prop := ∃ (A : Option Addr) (c : Nat), e = .returned (.slice A n c) ∧ r.length ≤ c ∧ St w0 w [Own.of (.slice A r.length c) 46 r]
def punctualsame_Lend_api_Task.f (l0 : List STask) (x1 : STask) : Option (List STask) :=
  if 0 ≤ (IntKind.i64.wrap ((l0.length : Int) + 3)) then
    if ((IntKind.i64.wrap ((l0.length : Int) + 3)).toNat) ≤ 2199023255552 then
      if (List.replicate 0 (⟨⟨#[]⟩, 0, 0, 0, 0, 0, 0⟩ : STask)).length + l0.length ≤ 2199023255552 then
        if ((List.replicate 0 (⟨⟨#[]⟩, 0, 0, 0, 0, 0, 0⟩ : STask)) ++ l0).length + 3 ≤ 2199023255552 then
          some (((List.replicate 0 (⟨⟨#[]⟩, 0, 0, 0, 0, 0, 0⟩ : STask)) ++ l0) ++ ([x1, x1, x1] : List STask))
        else
          none
      else
        none
    else
      none
  else
    none
theorem punctualsame_Lend_api_Task_ok (l0 : List STask) (A0 : Option Addr) (c0 : Nat) (x1 : STask) (w0 : World) (hR0 : RdL w0 A0 l0) (hL0 : l0.length ≤ c0) (r : List STask) (h : punctualsame_Lend_api_Task.f l0 x1 = some r) :
    Calls Tryd.prog 22 #[.slice A0 l0.length c0, .agg #[.string x1.Name, .int .i64 x1.C, .int .i64 x1.T, .int .i64 x1.D, .int .i64 x1.J, .int .i64 x1.O, .int .i64 x1.P]] w0 (punctualsame_Lend_api_Task.Post w0 l0.length r) := by
  have hS := St.start w0
  unfold punctualsame_Lend_api_Task.f at h
  refine calls_enter (n := 21) (args := [.slice A0 l0.length c0, .agg #[.string x1.Name, .int .i64 x1.C, .int .i64 x1.T, .int .i64 x1.D, .int .i64 x1.J, .int .i64 x1.O, .int .i64 x1.P]]) (fn := Tryd.f22) rfl rfl rfl rfl ?_
  show WE _ _ _ _ [(0, .slice A0 l0.length c0), (1, .agg #[.string x1.Name, .int .i64 x1.C, .int .i64 x1.T, .int .i64 x1.D, .int .i64 x1.J, .int .i64 x1.O, .int .i64 x1.P])] _
  refine we_seq fun K1 hK1 => ?_
  refine we_region [(0, 1), (1, 0)] rfl ?_
  refine ge_new (d := some 3) (o := .cells #[.string x1.Name, .int .i64 x1.C, .int .i64 x1.T, .int .i64 x1.D, .int .i64 x1.J, .int .i64 x1.O, .int .i64 x1.P] 46) (v := fun b => .pointer (some ⟨b, 0, none⟩)) hS (fun b => by kernel_rfl) fun b1 w1 hx1 hS1 => ?_
  refine ge_batch [1] (ans := []) (vs := [(4, .slice none 0 0)]) (l := []) (by kernel_rfl) trivial ?_
  refine ge_nil fun a hF => hK1 _ _ ?_ a hF
  refine we_seq fun K2 hK2 => ?_
  refine we_orders (by kernel_rfl) [⟨b1, 0, none⟩, ⟨b1, 1, none⟩, ⟨b1, 2, none⟩, ⟨b1, 3, none⟩, ⟨b1, 4, none⟩, ⟨b1, 5, none⟩, ⟨b1, 6, none⟩] (.vals [0] (.vals [1] (.vals [2] (.vals [4] (.vals [6] (.vals [7] (.vals [8] (.alt 3 1 (.alt 5 2 (.alt 9 1 (.alt 10 2 (.vals [11] .fin) .nomore) .nomore) (.alt 9 1 (.alt 5 2 (.alt 10 2 (.vals [11] .fin) .nomore) .nomore) .nomore)) (.alt 9 1 (.alt 3 1 (.alt 5 2 (.alt 10 2 (.vals [11] .fin) .nomore) .nomore) .nomore) .nomore))))))))) (by kernel_rfl) ?_
  have hS2 := hS1.drew
  refine go_batch [0, 1, 2, 4, 6, 7, 8] (ans := [.val (.string x1.Name), .val (.int .i64 x1.C), .val (.int .i64 x1.T), .val (.int .i64 x1.D), .val (.int .i64 x1.J), .val (.int .i64 x1.O), .val (.int .i64 x1.P), .val (.string x1.Name), .val (.int .i64 x1.C), .val (.int .i64 x1.T), .val (.int .i64 x1.D), .val (.int .i64 x1.J), .val (.int .i64 x1.O), .val (.int .i64 x1.P), .val (.string x1.Name), .val (.int .i64 x1.C), .val (.int .i64 x1.T), .val (.int .i64 x1.D), .val (.int .i64 x1.J), .val (.int .i64 x1.O), .val (.int .i64 x1.P)]) (vs := [(14, .agg #[.string x1.Name, .int .i64 x1.C, .int .i64 x1.T, .int .i64 x1.D, .int .i64 x1.J, .int .i64 x1.O, .int .i64 x1.P]), (13, .agg #[.string x1.Name, .int .i64 x1.C, .int .i64 x1.T, .int .i64 x1.D, .int .i64 x1.J, .int .i64 x1.O, .int .i64 x1.P]), (12, .agg #[.string x1.Name, .int .i64 x1.C, .int .i64 x1.T, .int .i64 x1.D, .int .i64 x1.J, .int .i64 x1.O, .int .i64 x1.P]), (10, .slice A0 l0.length c0), (8, .int .i64 (IntKind.i64.wrap ((l0.length : Int) + 3))), (7, .int .i64 (l0.length : Int)), (6, .slice A0 l0.length c0)]) (l := [.loaded ⟨b1, 0, none⟩ (.string x1.Name), .loaded ⟨b1, 1, none⟩ (.int .i64 x1.C), .loaded ⟨b1, 2, none⟩ (.int .i64 x1.T), .loaded ⟨b1, 3, none⟩ (.int .i64 x1.D), .loaded ⟨b1, 4, none⟩ (.int .i64 x1.J), .loaded ⟨b1, 5, none⟩ (.int .i64 x1.O), .loaded ⟨b1, 6, none⟩ (.int .i64 x1.P), .loaded ⟨b1, 0, none⟩ (.string x1.Name), .loaded ⟨b1, 1, none⟩ (.int .i64 x1.C), .loaded ⟨b1, 2, none⟩ (.int .i64 x1.T), .loaded ⟨b1, 3, none⟩ (.int .i64 x1.D), .loaded ⟨b1, 4, none⟩ (.int .i64 x1.J), .loaded ⟨b1, 5, none⟩ (.int .i64 x1.O), .loaded ⟨b1, 6, none⟩ (.int .i64 x1.P), .loaded ⟨b1, 0, none⟩ (.string x1.Name), .loaded ⟨b1, 1, none⟩ (.int .i64 x1.C), .loaded ⟨b1, 2, none⟩ (.int .i64 x1.T), .loaded ⟨b1, 3, none⟩ (.int .i64 x1.D), .loaded ⟨b1, 4, none⟩ (.int .i64 x1.J), .loaded ⟨b1, 5, none⟩ (.int .i64 x1.O), .loaded ⟨b1, 6, none⟩ (.int .i64 x1.P)]) (by kernel_rfl) ⟨hS2.cell 0 rfl rfl, hS2.cell 0 rfl rfl, hS2.cell 0 rfl rfl, hS2.cell 0 rfl rfl, hS2.cell 0 rfl rfl, hS2.cell 0 rfl rfl, hS2.cell 0 rfl rfl, hS2.cell 0 rfl rfl, hS2.cell 0 rfl rfl, hS2.cell 0 rfl rfl, hS2.cell 0 rfl rfl, hS2.cell 0 rfl rfl, hS2.cell 0 rfl rfl, hS2.cell 0 rfl rfl, hS2.cell 0 rfl rfl, hS2.cell 0 rfl rfl, hS2.cell 0 rfl rfl, hS2.cell 0 rfl rfl, hS2.cell 0 rfl rfl, hS2.cell 0 rfl rfl, hS2.cell 0 rfl rfl, trivial⟩ (by simp [didAddrs]) ?_
  by_cases hc1 : 0 ≤ (IntKind.i64.wrap ((l0.length : Int) + 3))
  · rw [if_pos hc1] at h
    by_cases hc2 : ((IntKind.i64.wrap ((l0.length : Int) + 3)).toNat) ≤ 2199023255552
    · rw [if_pos hc2] at h
      refine go_alt (fun K hK => ?_) ?_
      · refine ge_one2 ?_
        refine ge_make (α := STask) (d := 9) (t := 40) (el := 46) (bytes := 64) (l := 0) (c := ((IntKind.i64.wrap ((l0.length : Int) + 3)).toNat)) (x := (.const (.int .i64 0))) (y := (.tmp 8)) (ty := 40) (k1 := .i64) (k2 := .i64) (li := 0) (ci := (IntKind.i64.wrap ((l0.length : Int) + 3))) (z := .agg #[.string (⟨#[]⟩), .int .i64 0, .int .i64 0, .int .i64 0, .int .i64 0, .int .i64 0, .int .i64 0]) (z' := (⟨⟨#[]⟩, 0, 0, 0, 0, 0, 0⟩ : STask)) (by kernel_rfl) (by kernel_rfl) (by kernel_rfl) rfl (Int.toNat_of_nonneg hc1).symm (by kernel_rfl) (by kernel_rfl) rfl hS2 (Nat.zero_le _) rfl (by omega) fun v1 w2 _ hS3 => ?_
        refine ge_nil fun a hF => hK _ _ (RS.of (l := [.loaded ⟨b1, 0, none⟩ (.string x1.Name), .loaded ⟨b1, 1, none⟩ (.int .i64 x1.C), .loaded ⟨b1, 2, none⟩ (.int .i64 x1.T), .loaded ⟨b1, 3, none⟩ (.int .i64 x1.D), .loaded ⟨b1, 4, none⟩ (.int .i64 x1.J), .loaded ⟨b1, 5, none⟩ (.int .i64 x1.O), .loaded ⟨b1, 6, none⟩ (.int .i64 x1.P)]) ⟨hS2.cell 0 rfl rfl, hS2.cell 0 rfl rfl, hS2.cell 0 rfl rfl, hS2.cell 0 rfl rfl, hS2.cell 0 rfl rfl, hS2.cell 0 rfl rfl, hS2.cell 0 rfl rfl, trivial⟩ ⟨hS3.cell 1 rfl rfl, hS3.cell 1 rfl rfl, hS3.cell 1 rfl rfl, hS3.cell 1 rfl rfl, hS3.cell 1 rfl rfl, hS3.cell 1 rfl rfl, hS3.cell 1 rfl rfl, trivial⟩) ?_ a hF
        refine go_alt (fun K hK => ?_) ?_
        · by_cases hc3 : (List.replicate 0 (⟨⟨#[]⟩, 0, 0, 0, 0, 0, 0⟩ : STask)).length + l0.length ≤ 2199023255552
          · rw [if_pos hc3] at h
            refine ge_appendL (α := STask) (m := 0) (d := 11) (t := 40) (el := 46) (bytes := 64) (c1 := c0) (A1 := A0) (x := (.tmp 9)) (y := (.tmp 10)) (ty := 40) (v := v1) (z := .agg #[.string (⟨#[]⟩), .int .i64 0, .int .i64 0, .int .i64 0, .int .i64 0, .int .i64 0, .int .i64 0]) (l := (List.replicate 0 (⟨⟨#[]⟩, 0, 0, 0, 0, 0, 0⟩ : STask))) (us := l0) (by kernel_rfl) (by kernel_rfl) (by kernel_rfl) (by kernel_rfl) (by kernel_rfl) rfl hS3 (hS3.rd hR0) rfl (Nat.mul_le_of_le_div _ _ _ hc3) fun v2 w3 hS4 => ?_
            have hS5 : St w0 w3 [Own.of v2 46 ((List.replicate 0 (⟨⟨#[]⟩, 0, 0, 0, 0, 0, 0⟩ : STask)) ++ l0), Own.blk b1 (.cells #[.string x1.Name, .int .i64 x1.C, .int .i64 x1.T, .int .i64 x1.D, .int .i64 x1.J, .int .i64 x1.O, .int .i64 x1.P] 46 (0, 0))] := hS4
            refine ge_nil fun a hF => hK _ _ (RS.of (l := [.loaded ⟨b1, 0, none⟩ (.string x1.Name), .loaded ⟨b1, 1, none⟩ (.int .i64 x1.C), .loaded ⟨b1, 2, none⟩ (.int .i64 x1.T), .loaded ⟨b1, 3, none⟩ (.int .i64 x1.D), .loaded ⟨b1, 4, none⟩ (.int .i64 x1.J), .loaded ⟨b1, 5, none⟩ (.int .i64 x1.O), .loaded ⟨b1, 6, none⟩ (.int .i64 x1.P)]) ⟨hS3.cell 1 rfl rfl, hS3.cell 1 rfl rfl, hS3.cell 1 rfl rfl, hS3.cell 1 rfl rfl, hS3.cell 1 rfl rfl, hS3.cell 1 rfl rfl, hS3.cell 1 rfl rfl, trivial⟩ ⟨hS5.cell 1 rfl rfl, hS5.cell 1 rfl rfl, hS5.cell 1 rfl rfl, hS5.cell 1 rfl rfl, hS5.cell 1 rfl rfl, hS5.cell 1 rfl rfl, hS5.cell 1 rfl rfl, trivial⟩) ?_ a hF
            refine go_alt (fun K hK => ?_) ?_
            · refine ge_one2 ?_
              refine ge_new (d := some 15) (o := .cells #[.string x1.Name, .int .i64 x1.C, .int .i64 x1.T, .int .i64 x1.D, .int .i64 x1.J, .int .i64 x1.O, .int .i64 x1.P, .string x1.Name, .int .i64 x1.C, .int .i64 x1.T, .int .i64 x1.D, .int .i64 x1.J, .int .i64 x1.O, .int .i64 x1.P, .string x1.Name, .int .i64 x1.C, .int .i64 x1.T, .int .i64 x1.D, .int .i64 x1.J, .int .i64 x1.O, .int .i64 x1.P] 46) (v := fun b => .slice (some ⟨b, 0, none⟩) 3 3) hS5 (fun b => by kernel_rfl) fun b2 w4 hx2 hS6 => ?_
              refine ge_nil fun a hF => hK _ _ (RS.of (l := [.loaded ⟨b1, 0, none⟩ (.string x1.Name), .loaded ⟨b1, 1, none⟩ (.int .i64 x1.C), .loaded ⟨b1, 2, none⟩ (.int .i64 x1.T), .loaded ⟨b1, 3, none⟩ (.int .i64 x1.D), .loaded ⟨b1, 4, none⟩ (.int .i64 x1.J), .loaded ⟨b1, 5, none⟩ (.int .i64 x1.O), .loaded ⟨b1, 6, none⟩ (.int .i64 x1.P)]) ⟨hS5.cell 1 rfl rfl, hS5.cell 1 rfl rfl, hS5.cell 1 rfl rfl, hS5.cell 1 rfl rfl, hS5.cell 1 rfl rfl, hS5.cell 1 rfl rfl, hS5.cell 1 rfl rfl, trivial⟩ ⟨hS6.cell 2 rfl rfl, hS6.cell 2 rfl rfl, hS6.cell 2 rfl rfl, hS6.cell 2 rfl rfl, hS6.cell 2 rfl rfl, hS6.cell 2 rfl rfl, hS6.cell 2 rfl rfl, trivial⟩) ?_ a hF
              refine go_alt (fun K hK => ?_) ?_
              · have hS7 := hS6.bring 1 rfl
                by_cases hc4 : ((List.replicate 0 (⟨⟨#[]⟩, 0, 0, 0, 0, 0, 0⟩ : STask)) ++ l0).length + 3 ≤ 2199023255552
                · rw [if_pos hc4] at h
                  refine ge_appendL (α := STask) (m := 0) (d := 16) (t := 40) (el := 46) (bytes := 64) (c1 := 3) (A1 := (some ⟨b2, 0, none⟩)) (x := (.tmp 11)) (y := (.tmp 15)) (ty := 40) (v := v2) (z := .agg #[.string (⟨#[]⟩), .int .i64 0, .int .i64 0, .int .i64 0, .int .i64 0, .int .i64 0, .int .i64 0]) (l := ((List.replicate 0 (⟨⟨#[]⟩, 0, 0, 0, 0, 0, 0⟩ : STask)) ++ l0)) (us := ([x1, x1, x1] : List STask)) (by kernel_rfl) (by kernel_rfl) (by kernel_rfl) (by kernel_rfl) (by kernel_rfl) rfl hS7 (hS7.rdBlk 1 ([x1, x1, x1] : List STask) rfl rfl rfl) rfl (Nat.mul_le_of_le_div _ _ _ hc4) fun v3 w5 hS8 => ?_
                  have hS9 : St w0 w5 [Own.of v3 46 (((List.replicate 0 (⟨⟨#[]⟩, 0, 0, 0, 0, 0, 0⟩ : STask)) ++ l0) ++ ([x1, x1, x1] : List STask)), Own.blk b2 (.cells #[.string x1.Name, .int .i64 x1.C, .int .i64 x1.T, .int .i64 x1.D, .int .i64 x1.J, .int .i64 x1.O, .int .i64 x1.P, .string x1.Name, .int .i64 x1.C, .int .i64 x1.T, .int .i64 x1.D, .int .i64 x1.J, .int .i64 x1.O, .int .i64 x1.P, .string x1.Name, .int .i64 x1.C, .int .i64 x1.T, .int .i64 x1.D, .int .i64 x1.J, .int .i64 x1.O, .int .i64 x1.P] 46 (0, 0)), Own.blk b1 (.cells #[.string x1.Name, .int .i64 x1.C, .int .i64 x1.T, .int .i64 x1.D, .int .i64 x1.J, .int .i64 x1.O, .int .i64 x1.P] 46 (0, 0))] := hS8
                  refine ge_nil fun a hF => hK _ _ (RS.of (l := [.loaded ⟨b1, 0, none⟩ (.string x1.Name), .loaded ⟨b1, 1, none⟩ (.int .i64 x1.C), .loaded ⟨b1, 2, none⟩ (.int .i64 x1.T), .loaded ⟨b1, 3, none⟩ (.int .i64 x1.D), .loaded ⟨b1, 4, none⟩ (.int .i64 x1.J), .loaded ⟨b1, 5, none⟩ (.int .i64 x1.O), .loaded ⟨b1, 6, none⟩ (.int .i64 x1.P)]) ⟨hS6.cell 2 rfl rfl, hS6.cell 2 rfl rfl, hS6.cell 2 rfl rfl, hS6.cell 2 rfl rfl, hS6.cell 2 rfl rfl, hS6.cell 2 rfl rfl, hS6.cell 2 rfl rfl, trivial⟩ ⟨hS9.cell 2 rfl rfl, hS9.cell 2 rfl rfl, hS9.cell 2 rfl rfl, hS9.cell 2 rfl rfl, hS9.cell 2 rfl rfl, hS9.cell 2 rfl rfl, hS9.cell 2 rfl rfl, trivial⟩) ?_ a hF
                  refine go_batch [11] (ans := []) (vs := [(5, v3)]) (l := []) (by kernel_rfl) trivial (by simp [didAddrs]) ?_
                  refine go_fin fun a hF => hK2 _ _ ?_ a hF
                  refine we_seq fun K3 hK3 => ?_
                  refine we_region [(0, 0), (1, 0), (2, 0), (3, 0), (4, 0)] rfl ?_
                  refine ge_batch [0, 1, 2] (ans := []) (vs := [(19, .int .i64 (l0.length : Int)), (18, .slice A0 l0.length c0), (17, v3)]) (l := []) (by kernel_rfl) trivial ?_
                  obtain ⟨Z1, cz1, rfl, hcp1⟩ := hS9.open2 0 rfl
                  refine ge_sliceHi (d := 20) (ty := 40) (t := 40) (el := 46) (sz := 7) (m := ((((List.replicate 0 (⟨⟨#[]⟩, 0, 0, 0, 0, 0, 0⟩ : STask)) ++ l0) ++ ([x1, x1, x1] : List STask)).length)) (c := cz1) (hn := l0.length) (x := (.tmp 17)) (y := (.tmp 19)) (A := Z1) (k' := .i64) (hi := (l0.length : Int)) (by kernel_rfl) (by kernel_rfl) (by kernel_rfl) rfl (by kernel_rfl) (by kernel_rfl) (by have h0 := hcp1; simp only [List.length_append, List.length_cons, List.length_nil] at h0; omega) ?_
                  refine ge_batch [4] (ans := []) (vs := [(4, .slice Z1 l0.length cz1)]) (l := []) (by kernel_rfl) trivial ?_
                  refine ge_nil fun a hF => hK3 _ _ ?_ a hF
                  have hS10 := hS9.takeN 1
                  obtain rfl := Option.some.inj h
                  exact we_ret (post_ret (rs := [.tmp 4]) (ans := []) (vs := [.slice Z1 l0.length cz1]) (l := []) rfl (by kernel_rfl) trivial ⟨Z1, cz1, rfl, hcp1, hS10⟩)
                · rw [if_neg hc4] at h
                  cases h
              exact go_nomore
            exact go_nomore
          · rw [if_neg hc3] at h
            cases h
        refine go_alt (fun K hK => ?_) ?_
        · refine ge_one2 ?_
          refine ge_new (d := some 15) (o := .cells #[.string x1.Name, .int .i64 x1.C, .int .i64 x1.T, .int .i64 x1.D, .int .i64 x1.J, .int .i64 x1.O, .int .i64 x1.P, .string x1.Name, .int .i64 x1.C, .int .i64 x1.T, .int .i64 x1.D, .int .i64 x1.J, .int .i64 x1.O, .int .i64 x1.P, .string x1.Name, .int .i64 x1.C, .int .i64 x1.T, .int .i64 x1.D, .int .i64 x1.J, .int .i64 x1.O, .int .i64 x1.P] 46) (v := fun b => .slice (some ⟨b, 0, none⟩) 3 3) hS3 (fun b => by kernel_rfl) fun b2 w3 hx2 hS4 => ?_
          refine ge_nil fun a hF => hK _ _ (RS.of (l := [.loaded ⟨b1, 0, none⟩ (.string x1.Name), .loaded ⟨b1, 1, none⟩ (.int .i64 x1.C), .loaded ⟨b1, 2, none⟩ (.int .i64 x1.T), .loaded ⟨b1, 3, none⟩ (.int .i64 x1.D), .loaded ⟨b1, 4, none⟩ (.int .i64 x1.J), .loaded ⟨b1, 5, none⟩ (.int .i64 x1.O), .loaded ⟨b1, 6, none⟩ (.int .i64 x1.P)]) ⟨hS3.cell 1 rfl rfl, hS3.cell 1 rfl rfl, hS3.cell 1 rfl rfl, hS3.cell 1 rfl rfl, hS3.cell 1 rfl rfl, hS3.cell 1 rfl rfl, hS3.cell 1 rfl rfl, trivial⟩ ⟨hS4.cell 2 rfl rfl, hS4.cell 2 rfl rfl, hS4.cell 2 rfl rfl, hS4.cell 2 rfl rfl, hS4.cell 2 rfl rfl, hS4.cell 2 rfl rfl, hS4.cell 2 rfl rfl, trivial⟩) ?_ a hF
          refine go_alt (fun K hK => ?_) ?_
          · have hS5 := hS4.bring 1 rfl
            by_cases hc3 : (List.replicate 0 (⟨⟨#[]⟩, 0, 0, 0, 0, 0, 0⟩ : STask)).length + l0.length ≤ 2199023255552
            · rw [if_pos hc3] at h
              refine ge_appendL (α := STask) (m := 0) (d := 11) (t := 40) (el := 46) (bytes := 64) (c1 := c0) (A1 := A0) (x := (.tmp 9)) (y := (.tmp 10)) (ty := 40) (v := v1) (z := .agg #[.string (⟨#[]⟩), .int .i64 0, .int .i64 0, .int .i64 0, .int .i64 0, .int .i64 0, .int .i64 0]) (l := (List.replicate 0 (⟨⟨#[]⟩, 0, 0, 0, 0, 0, 0⟩ : STask))) (us := l0) (by kernel_rfl) (by kernel_rfl) (by kernel_rfl) (by kernel_rfl) (by kernel_rfl) rfl hS5 (hS5.rd hR0) rfl (Nat.mul_le_of_le_div _ _ _ hc3) fun v2 w4 hS6 => ?_
              have hS7 : St w0 w4 [Own.of v2 46 ((List.replicate 0 (⟨⟨#[]⟩, 0, 0, 0, 0, 0, 0⟩ : STask)) ++ l0), Own.blk b2 (.cells #[.string x1.Name, .int .i64 x1.C, .int .i64 x1.T, .int .i64 x1.D, .int .i64 x1.J, .int .i64 x1.O, .int .i64 x1.P, .string x1.Name, .int .i64 x1.C, .int .i64 x1.T, .int .i64 x1.D, .int .i64 x1.J, .int .i64 x1.O, .int .i64 x1.P, .string x1.Name, .int .i64 x1.C, .int .i64 x1.T, .int .i64 x1.D, .int .i64 x1.J, .int .i64 x1.O, .int .i64 x1.P] 46 (0, 0)), Own.blk b1 (.cells #[.string x1.Name, .int .i64 x1.C, .int .i64 x1.T, .int .i64 x1.D, .int .i64 x1.J, .int .i64 x1.O, .int .i64 x1.P] 46 (0, 0))] := hS6
              refine ge_nil fun a hF => hK _ _ (RS.of (l := [.loaded ⟨b1, 0, none⟩ (.string x1.Name), .loaded ⟨b1, 1, none⟩ (.int .i64 x1.C), .loaded ⟨b1, 2, none⟩ (.int .i64 x1.T), .loaded ⟨b1, 3, none⟩ (.int .i64 x1.D), .loaded ⟨b1, 4, none⟩ (.int .i64 x1.J), .loaded ⟨b1, 5, none⟩ (.int .i64 x1.O), .loaded ⟨b1, 6, none⟩ (.int .i64 x1.P)]) ⟨hS4.cell 2 rfl rfl, hS4.cell 2 rfl rfl, hS4.cell 2 rfl rfl, hS4.cell 2 rfl rfl, hS4.cell 2 rfl rfl, hS4.cell 2 rfl rfl, hS4.cell 2 rfl rfl, trivial⟩ ⟨hS7.cell 2 rfl rfl, hS7.cell 2 rfl rfl, hS7.cell 2 rfl rfl, hS7.cell 2 rfl rfl, hS7.cell 2 rfl rfl, hS7.cell 2 rfl rfl, hS7.cell 2 rfl rfl, trivial⟩) ?_ a hF
              refine go_alt (fun K hK => ?_) ?_
              · by_cases hc4 : ((List.replicate 0 (⟨⟨#[]⟩, 0, 0, 0, 0, 0, 0⟩ : STask)) ++ l0).length + 3 ≤ 2199023255552
                · rw [if_pos hc4] at h
                  refine ge_appendL (α := STask) (m := 0) (d := 16) (t := 40) (el := 46) (bytes := 64) (c1 := 3) (A1 := (some ⟨b2, 0, none⟩)) (x := (.tmp 11)) (y := (.tmp 15)) (ty := 40) (v := v2) (z := .agg #[.string (⟨#[]⟩), .int .i64 0, .int .i64 0, .int .i64 0, .int .i64 0, .int .i64 0, .int .i64 0]) (l := ((List.replicate 0 (⟨⟨#[]⟩, 0, 0, 0, 0, 0, 0⟩ : STask)) ++ l0)) (us := ([x1, x1, x1] : List STask)) (by kernel_rfl) (by kernel_rfl) (by kernel_rfl) (by kernel_rfl) (by kernel_rfl) rfl hS7 (hS7.rdBlk 1 ([x1, x1, x1] : List STask) rfl rfl rfl) rfl (Nat.mul_le_of_le_div _ _ _ hc4) fun v3 w5 hS8 => ?_
                  have hS9 : St w0 w5 [Own.of v3 46 (((List.replicate 0 (⟨⟨#[]⟩, 0, 0, 0, 0, 0, 0⟩ : STask)) ++ l0) ++ ([x1, x1, x1] : List STask)), Own.blk b2 (.cells #[.string x1.Name, .int .i64 x1.C, .int .i64 x1.T, .int .i64 x1.D, .int .i64 x1.J, .int .i64 x1.O, .int .i64 x1.P, .string x1.Name, .int .i64 x1.C, .int .i64 x1.T, .int .i64 x1.D, .int .i64 x1.J, .int .i64 x1.O, .int .i64 x1.P, .string x1.Name, .int .i64 x1.C, .int .i64 x1.T, .int .i64 x1.D, .int .i64 x1.J, .int .i64 x1.O, .int .i64 x1.P] 46 (0, 0)), Own.blk b1 (.cells #[.string x1.Name, .int .i64 x1.C, .int .i64 x1.T, .int .i64 x1.D, .int .i64 x1.J, .int .i64 x1.O, .int .i64 x1.P] 46 (0, 0))] := hS8
                  refine ge_nil fun a hF => hK _ _ (RS.of (l := [.loaded ⟨b1, 0, none⟩ (.string x1.Name), .loaded ⟨b1, 1, none⟩ (.int .i64 x1.C), .loaded ⟨b1, 2, none⟩ (.int .i64 x1.T), .loaded ⟨b1, 3, none⟩ (.int .i64 x1.D), .loaded ⟨b1, 4, none⟩ (.int .i64 x1.J), .loaded ⟨b1, 5, none⟩ (.int .i64 x1.O), .loaded ⟨b1, 6, none⟩ (.int .i64 x1.P)]) ⟨hS7.cell 2 rfl rfl, hS7.cell 2 rfl rfl, hS7.cell 2 rfl rfl, hS7.cell 2 rfl rfl, hS7.cell 2 rfl rfl, hS7.cell 2 rfl rfl, hS7.cell 2 rfl rfl, trivial⟩ ⟨hS9.cell 2 rfl rfl, hS9.cell 2 rfl rfl, hS9.cell 2 rfl rfl, hS9.cell 2 rfl rfl, hS9.cell 2 rfl rfl, hS9.cell 2 rfl rfl, hS9.cell 2 rfl rfl, trivial⟩) ?_ a hF
                  refine go_batch [11] (ans := []) (vs := [(5, v3)]) (l := []) (by kernel_rfl) trivial (by simp [didAddrs]) ?_
                  refine go_fin fun a hF => hK2 _ _ ?_ a hF
                  refine we_seq fun K3 hK3 => ?_
                  refine we_region [(0, 0), (1, 0), (2, 0), (3, 0), (4, 0)] rfl ?_
                  refine ge_batch [0, 1, 2] (ans := []) (vs := [(19, .int .i64 (l0.length : Int)), (18, .slice A0 l0.length c0), (17, v3)]) (l := []) (by kernel_rfl) trivial ?_
                  obtain ⟨Z1, cz1, rfl, hcp1⟩ := hS9.open2 0 rfl
                  refine ge_sliceHi (d := 20) (ty := 40) (t := 40) (el := 46) (sz := 7) (m := ((((List.replicate 0 (⟨⟨#[]⟩, 0, 0, 0, 0, 0, 0⟩ : STask)) ++ l0) ++ ([x1, x1, x1] : List STask)).length)) (c := cz1) (hn := l0.length) (x := (.tmp 17)) (y := (.tmp 19)) (A := Z1) (k' := .i64) (hi := (l0.length : Int)) (by kernel_rfl) (by kernel_rfl) (by kernel_rfl) rfl (by kernel_rfl) (by kernel_rfl) (by have h0 := hcp1; simp only [List.length_append, List.length_cons, List.length_nil] at h0; omega) ?_
                  refine ge_batch [4] (ans := []) (vs := [(4, .slice Z1 l0.length cz1)]) (l := []) (by kernel_rfl) trivial ?_
                  refine ge_nil fun a hF => hK3 _ _ ?_ a hF
                  have hS10 := hS9.takeN 1
                  obtain rfl := Option.some.inj h
                  exact we_ret (post_ret (rs := [.tmp 4]) (ans := []) (vs := [.slice Z1 l0.length cz1]) (l := []) rfl (by kernel_rfl) trivial ⟨Z1, cz1, rfl, hcp1, hS10⟩)
                · rw [if_neg hc4] at h
                  cases h
              exact go_nomore
            · rw [if_neg hc3] at h
              cases h
          exact go_nomore
        exact go_nomore
      refine go_alt (fun K hK => ?_) ?_
      · refine ge_one2 ?_
        refine ge_new (d := some 15) (o := .cells #[.string x1.Name, .int .i64 x1.C, .int .i64 x1.T, .int .i64 x1.D, .int .i64 x1.J, .int .i64 x1.O, .int .i64 x1.P, .string x1.Name, .int .i64 x1.C, .int .i64 x1.T, .int .i64 x1.D, .int .i64 x1.J, .int .i64 x1.O, .int .i64 x1.P, .string x1.Name, .int .i64 x1.C, .int .i64 x1.T, .int .i64 x1.D, .int .i64 x1.J, .int .i64 x1.O, .int .i64 x1.P] 46) (v := fun b => .slice (some ⟨b, 0, none⟩) 3 3) hS2 (fun b => by kernel_rfl) fun b2 w2 hx2 hS3 => ?_
        refine ge_nil fun a hF => hK _ _ (RS.of (l := [.loaded ⟨b1, 0, none⟩ (.string x1.Name), .loaded ⟨b1, 1, none⟩ (.int .i64 x1.C), .loaded ⟨b1, 2, none⟩ (.int .i64 x1.T), .loaded ⟨b1, 3, none⟩ (.int .i64 x1.D), .loaded ⟨b1, 4, none⟩ (.int .i64 x1.J), .loaded ⟨b1, 5, none⟩ (.int .i64 x1.O), .loaded ⟨b1, 6, none⟩ (.int .i64 x1.P)]) ⟨hS2.cell 0 rfl rfl, hS2.cell 0 rfl rfl, hS2.cell 0 rfl rfl, hS2.cell 0 rfl rfl, hS2.cell 0 rfl rfl, hS2.cell 0 rfl rfl, hS2.cell 0 rfl rfl, trivial⟩ ⟨hS3.cell 1 rfl rfl, hS3.cell 1 rfl rfl, hS3.cell 1 rfl rfl, hS3.cell 1 rfl rfl, hS3.cell 1 rfl rfl, hS3.cell 1 rfl rfl, hS3.cell 1 rfl rfl, trivial⟩) ?_ a hF
        refine go_alt (fun K hK => ?_) ?_
        · refine ge_one2 ?_
          refine ge_make (α := STask) (d := 9) (t := 40) (el := 46) (bytes := 64) (l := 0) (c := ((IntKind.i64.wrap ((l0.length : Int) + 3)).toNat)) (x := (.const (.int .i64 0))) (y := (.tmp 8)) (ty := 40) (k1 := .i64) (k2 := .i64) (li := 0) (ci := (IntKind.i64.wrap ((l0.length : Int) + 3))) (z := .agg #[.string (⟨#[]⟩), .int .i64 0, .int .i64 0, .int .i64 0, .int .i64 0, .int .i64 0, .int .i64 0]) (z' := (⟨⟨#[]⟩, 0, 0, 0, 0, 0, 0⟩ : STask)) (by kernel_rfl) (by kernel_rfl) (by kernel_rfl) rfl (Int.toNat_of_nonneg hc1).symm (by kernel_rfl) (by kernel_rfl) rfl hS3 (Nat.zero_le _) rfl (by omega) fun v1 w3 _ hS4 => ?_
          refine ge_nil fun a hF => hK _ _ (RS.of (l := [.loaded ⟨b1, 0, none⟩ (.string x1.Name), .loaded ⟨b1, 1, none⟩ (.int .i64 x1.C), .loaded ⟨b1, 2, none⟩ (.int .i64 x1.T), .loaded ⟨b1, 3, none⟩ (.int .i64 x1.D), .loaded ⟨b1, 4, none⟩ (.int .i64 x1.J), .loaded ⟨b1, 5, none⟩ (.int .i64 x1.O), .loaded ⟨b1, 6, none⟩ (.int .i64 x1.P)]) ⟨hS3.cell 1 rfl rfl, hS3.cell 1 rfl rfl, hS3.cell 1 rfl rfl, hS3.cell 1 rfl rfl, hS3.cell 1 rfl rfl, hS3.cell 1 rfl rfl, hS3.cell 1 rfl rfl, trivial⟩ ⟨hS4.cell 2 rfl rfl, hS4.cell 2 rfl rfl, hS4.cell 2 rfl rfl, hS4.cell 2 rfl rfl, hS4.cell 2 rfl rfl, hS4.cell 2 rfl rfl, hS4.cell 2 rfl rfl, trivial⟩) ?_ a hF
          refine go_alt (fun K hK => ?_) ?_
          · by_cases hc3 : (List.replicate 0 (⟨⟨#[]⟩, 0, 0, 0, 0, 0, 0⟩ : STask)).length + l0.length ≤ 2199023255552
            · rw [if_pos hc3] at h
              refine ge_appendL (α := STask) (m := 0) (d := 11) (t := 40) (el := 46) (bytes := 64) (c1 := c0) (A1 := A0) (x := (.tmp 9)) (y := (.tmp 10)) (ty := 40) (v := v1) (z := .agg #[.string (⟨#[]⟩), .int .i64 0, .int .i64 0, .int .i64 0, .int .i64 0, .int .i64 0, .int .i64 0]) (l := (List.replicate 0 (⟨⟨#[]⟩, 0, 0, 0, 0, 0, 0⟩ : STask))) (us := l0) (by kernel_rfl) (by kernel_rfl) (by kernel_rfl) (by kernel_rfl) (by kernel_rfl) rfl hS4 (hS4.rd hR0) rfl (Nat.mul_le_of_le_div _ _ _ hc3) fun v2 w4 hS5 => ?_
              have hS6 : St w0 w4 [Own.of v2 46 ((List.replicate 0 (⟨⟨#[]⟩, 0, 0, 0, 0, 0, 0⟩ : STask)) ++ l0), Own.blk b2 (.cells #[.string x1.Name, .int .i64 x1.C, .int .i64 x1.T, .int .i64 x1.D, .int .i64 x1.J, .int .i64 x1.O, .int .i64 x1.P, .string x1.Name, .int .i64 x1.C, .int .i64 x1.T, .int .i64 x1.D, .int .i64 x1.J, .int .i64 x1.O, .int .i64 x1.P, .string x1.Name, .int .i64 x1.C, .int .i64 x1.T, .int .i64 x1.D, .int .i64 x1.J, .int .i64 x1.O, .int .i64 x1.P] 46 (0, 0)), Own.blk b1 (.cells #[.string x1.Name, .int .i64 x1.C, .int .i64 x1.T, .int .i64 x1.D, .int .i64 x1.J, .int .i64 x1.O, .int .i64 x1.P] 46 (0, 0))] := hS5
              refine ge_nil fun a hF => hK _ _ (RS.of (l := [.loaded ⟨b1, 0, none⟩ (.string x1.Name), .loaded ⟨b1, 1, none⟩ (.int .i64 x1.C), .loaded ⟨b1, 2, none⟩ (.int .i64 x1.T), .loaded ⟨b1, 3, none⟩ (.int .i64 x1.D), .loaded ⟨b1, 4, none⟩ (.int .i64 x1.J), .loaded ⟨b1, 5, none⟩ (.int .i64 x1.O), .loaded ⟨b1, 6, none⟩ (.int .i64 x1.P)]) ⟨hS4.cell 2 rfl rfl, hS4.cell 2 rfl rfl, hS4.cell 2 rfl rfl, hS4.cell 2 rfl rfl, hS4.cell 2 rfl rfl, hS4.cell 2 rfl rfl, hS4.cell 2 rfl rfl, trivial⟩ ⟨hS6.cell 2 rfl rfl, hS6.cell 2 rfl rfl, hS6.cell 2 rfl rfl, hS6.cell 2 rfl rfl, hS6.cell 2 rfl rfl, hS6.cell 2 rfl rfl, hS6.cell 2 rfl rfl, trivial⟩) ?_ a hF
              refine go_alt (fun K hK => ?_) ?_
              · by_cases hc4 : ((List.replicate 0 (⟨⟨#[]⟩, 0, 0, 0, 0, 0, 0⟩ : STask)) ++ l0).length + 3 ≤ 2199023255552
                · rw [if_pos hc4] at h
                  refine ge_appendL (α := STask) (m := 0) (d := 16) (t := 40) (el := 46) (bytes := 64) (c1 := 3) (A1 := (some ⟨b2, 0, none⟩)) (x := (.tmp 11)) (y := (.tmp 15)) (ty := 40) (v := v2) (z := .agg #[.string (⟨#[]⟩), .int .i64 0, .int .i64 0, .int .i64 0, .int .i64 0, .int .i64 0, .int .i64 0]) (l := ((List.replicate 0 (⟨⟨#[]⟩, 0, 0, 0, 0, 0, 0⟩ : STask)) ++ l0)) (us := ([x1, x1, x1] : List STask)) (by kernel_rfl) (by kernel_rfl) (by kernel_rfl) (by kernel_rfl) (by kernel_rfl) rfl hS6 (hS6.rdBlk 1 ([x1, x1, x1] : List STask) rfl rfl rfl) rfl (Nat.mul_le_of_le_div _ _ _ hc4) fun v3 w5 hS7 => ?_
                  have hS8 : St w0 w5 [Own.of v3 46 (((List.replicate 0 (⟨⟨#[]⟩, 0, 0, 0, 0, 0, 0⟩ : STask)) ++ l0) ++ ([x1, x1, x1] : List STask)), Own.blk b2 (.cells #[.string x1.Name, .int .i64 x1.C, .int .i64 x1.T, .int .i64 x1.D, .int .i64 x1.J, .int .i64 x1.O, .int .i64 x1.P, .string x1.Name, .int .i64 x1.C, .int .i64 x1.T, .int .i64 x1.D, .int .i64 x1.J, .int .i64 x1.O, .int .i64 x1.P, .string x1.Name, .int .i64 x1.C, .int .i64 x1.T, .int .i64 x1.D, .int .i64 x1.J, .int .i64 x1.O, .int .i64 x1.P] 46 (0, 0)), Own.blk b1 (.cells #[.string x1.Name, .int .i64 x1.C, .int .i64 x1.T, .int .i64 x1.D, .int .i64 x1.J, .int .i64 x1.O, .int .i64 x1.P] 46 (0, 0))] := hS7
                  refine ge_nil fun a hF => hK _ _ (RS.of (l := [.loaded ⟨b1, 0, none⟩ (.string x1.Name), .loaded ⟨b1, 1, none⟩ (.int .i64 x1.C), .loaded ⟨b1, 2, none⟩ (.int .i64 x1.T), .loaded ⟨b1, 3, none⟩ (.int .i64 x1.D), .loaded ⟨b1, 4, none⟩ (.int .i64 x1.J), .loaded ⟨b1, 5, none⟩ (.int .i64 x1.O), .loaded ⟨b1, 6, none⟩ (.int .i64 x1.P)]) ⟨hS6.cell 2 rfl rfl, hS6.cell 2 rfl rfl, hS6.cell 2 rfl rfl, hS6.cell 2 rfl rfl, hS6.cell 2 rfl rfl, hS6.cell 2 rfl rfl, hS6.cell 2 rfl rfl, trivial⟩ ⟨hS8.cell 2 rfl rfl, hS8.cell 2 rfl rfl, hS8.cell 2 rfl rfl, hS8.cell 2 rfl rfl, hS8.cell 2 rfl rfl, hS8.cell 2 rfl rfl, hS8.cell 2 rfl rfl, trivial⟩) ?_ a hF
                  refine go_batch [11] (ans := []) (vs := [(5, v3)]) (l := []) (by kernel_rfl) trivial (by simp [didAddrs]) ?_
                  refine go_fin fun a hF => hK2 _ _ ?_ a hF
                  refine we_seq fun K3 hK3 => ?_
                  refine we_region [(0, 0), (1, 0), (2, 0), (3, 0), (4, 0)] rfl ?_
                  refine ge_batch [0, 1, 2] (ans := []) (vs := [(19, .int .i64 (l0.length : Int)), (18, .slice A0 l0.length c0), (17, v3)]) (l := []) (by kernel_rfl) trivial ?_
                  obtain ⟨Z1, cz1, rfl, hcp1⟩ := hS8.open2 0 rfl
                  refine ge_sliceHi (d := 20) (ty := 40) (t := 40) (el := 46) (sz := 7) (m := ((((List.replicate 0 (⟨⟨#[]⟩, 0, 0, 0, 0, 0, 0⟩ : STask)) ++ l0) ++ ([x1, x1, x1] : List STask)).length)) (c := cz1) (hn := l0.length) (x := (.tmp 17)) (y := (.tmp 19)) (A := Z1) (k' := .i64) (hi := (l0.length : Int)) (by kernel_rfl) (by kernel_rfl) (by kernel_rfl) rfl (by kernel_rfl) (by kernel_rfl) (by have h0 := hcp1; simp only [List.length_append, List.length_cons, List.length_nil] at h0; omega) ?_
                  refine ge_batch [4] (ans := []) (vs := [(4, .slice Z1 l0.length cz1)]) (l := []) (by kernel_rfl) trivial ?_
                  refine ge_nil fun a hF => hK3 _ _ ?_ a hF
                  have hS9 := hS8.takeN 1
                  obtain rfl := Option.some.inj h
                  exact we_ret (post_ret (rs := [.tmp 4]) (ans := []) (vs := [.slice Z1 l0.length cz1]) (l := []) rfl (by kernel_rfl) trivial ⟨Z1, cz1, rfl, hcp1, hS9⟩)
                · rw [if_neg hc4] at h
                  cases h
              exact go_nomore
            · rw [if_neg hc3] at h
              cases h
          exact go_nomore
        exact go_nomore
      exact go_nomore
    · rw [if_neg hc2] at h
      cases h
  · rw [if_neg hc1] at h
    cases h
theorem punctualsame_Lend_api_Task_full (l0 : List STask) (x1 : STask) {r : List STask} (h : punctualsame_Lend_api_Task.f l0 x1 = some r) : r = l0 ++ [x1, x1, x1] := by
  unfold punctualsame_Lend_api_Task.f at h
  repeat' split at h
  all_goals first | (exact (Option.some.inj h).symm) | cases h

/-! punctual/punctualsame.Lend[punctual/api.Come] -/
abbrev punctualsame_Lend_api_Come.Post (w0 : World) (n : Nat) (r : List SCome) (e : Ending) (w : World) : Prop := ∃ (A : Option Addr) (c : Nat), e = .returned (.slice A n c) ∧ r.length ≤ c ∧ St w0 w [Own.of (.slice A r.length c) 53 r]
def punctualsame_Lend_api_Come.f (l0 : List SCome) (x1 : SCome) : Option (List SCome) :=
  if 0 ≤ (IntKind.i64.wrap ((l0.length : Int) + 3)) then
    if ((IntKind.i64.wrap ((l0.length : Int) + 3)).toNat) ≤ 8796093022208 then
      if (List.replicate 0 (⟨0, 0⟩ : SCome)).length + l0.length ≤ 8796093022208 then
        if ((List.replicate 0 (⟨0, 0⟩ : SCome)) ++ l0).length + 3 ≤ 8796093022208 then
          some (((List.replicate 0 (⟨0, 0⟩ : SCome)) ++ l0) ++ ([x1, x1, x1] : List SCome))
        else
          none
      else
        none
    else
      none
  else
    none
theorem punctualsame_Lend_api_Come_ok (l0 : List SCome) (A0 : Option Addr) (c0 : Nat) (x1 : SCome) (w0 : World) (hR0 : RdL w0 A0 l0) (hL0 : l0.length ≤ c0) (r : List SCome) (h : punctualsame_Lend_api_Come.f l0 x1 = some r) :
    Calls Tryd.prog 28 #[.slice A0 l0.length c0, .agg #[.int .i64 x1.Task, .int .i64 x1.At]] w0 (punctualsame_Lend_api_Come.Post w0 l0.length r) := by
  have hS := St.start w0
  unfold punctualsame_Lend_api_Come.f at h
  refine calls_enter (n := 21) (args := [.slice A0 l0.length c0, .agg #[.int .i64 x1.Task, .int .i64 x1.At]]) (fn := Tryd.f28) rfl rfl rfl rfl ?_
  show WE _ _ _ _ [(0, .slice A0 l0.length c0), (1, .agg #[.int .i64 x1.Task, .int .i64 x1.At])] _
  refine we_seq fun K1 hK1 => ?_
  refine we_region [(0, 1), (1, 0)] rfl ?_
  refine ge_new (d := some 3) (o := .cells #[.int .i64 x1.Task, .int .i64 x1.At] 53) (v := fun b => .pointer (some ⟨b, 0, none⟩)) hS (fun b => by kernel_rfl) fun b1 w1 hx1 hS1 => ?_
  refine ge_batch [1] (ans := []) (vs := [(4, .slice none 0 0)]) (l := []) (by kernel_rfl) trivial ?_
  refine ge_nil fun a hF => hK1 _ _ ?_ a hF
  refine we_seq fun K2 hK2 => ?_
  refine we_orders (by kernel_rfl) [⟨b1, 0, none⟩, ⟨b1, 1, none⟩] (.vals [0] (.vals [1] (.vals [2] (.vals [4] (.vals [6] (.vals [7] (.vals [8] (.alt 3 1 (.alt 5 2 (.alt 9 1 (.alt 10 2 (.vals [11] .fin) .nomore) .nomore) (.alt 9 1 (.alt 5 2 (.alt 10 2 (.vals [11] .fin) .nomore) .nomore) .nomore)) (.alt 9 1 (.alt 3 1 (.alt 5 2 (.alt 10 2 (.vals [11] .fin) .nomore) .nomore) .nomore) .nomore))))))))) (by kernel_rfl) ?_
  have hS2 := hS1.drew
  refine go_batch [0, 1, 2, 4, 6, 7, 8] (ans := [.val (.int .i64 x1.Task), .val (.int .i64 x1.At), .val (.int .i64 x1.Task), .val (.int .i64 x1.At), .val (.int .i64 x1.Task), .val (.int .i64 x1.At)]) (vs := [(14, .agg #[.int .i64 x1.Task, .int .i64 x1.At]), (13, .agg #[.int .i64 x1.Task, .int .i64 x1.At]), (12, .agg #[.int .i64 x1.Task, .int .i64 x1.At]), (10, .slice A0 l0.length c0), (8, .int .i64 (IntKind.i64.wrap ((l0.length : Int) + 3))), (7, .int .i64 (l0.length : Int)), (6, .slice A0 l0.length c0)]) (l := [.loaded ⟨b1, 0, none⟩ (.int .i64 x1.Task), .loaded ⟨b1, 1, none⟩ (.int .i64 x1.At), .loaded ⟨b1, 0, none⟩ (.int .i64 x1.Task), .loaded ⟨b1, 1, none⟩ (.int .i64 x1.At), .loaded ⟨b1, 0, none⟩ (.int .i64 x1.Task), .loaded ⟨b1, 1, none⟩ (.int .i64 x1.At)]) (by kernel_rfl) ⟨hS2.cell 0 rfl rfl, hS2.cell 0 rfl rfl, hS2.cell 0 rfl rfl, hS2.cell 0 rfl rfl, hS2.cell 0 rfl rfl, hS2.cell 0 rfl rfl, trivial⟩ (by simp [didAddrs]) ?_
  by_cases hc1 : 0 ≤ (IntKind.i64.wrap ((l0.length : Int) + 3))
  · rw [if_pos hc1] at h
    by_cases hc2 : ((IntKind.i64.wrap ((l0.length : Int) + 3)).toNat) ≤ 8796093022208
    · rw [if_pos hc2] at h
      refine go_alt (fun K hK => ?_) ?_
      · refine ge_one2 ?_
        refine ge_make (α := SCome) (d := 9) (t := 49) (el := 53) (bytes := 16) (l := 0) (c := ((IntKind.i64.wrap ((l0.length : Int) + 3)).toNat)) (x := (.const (.int .i64 0))) (y := (.tmp 8)) (ty := 49) (k1 := .i64) (k2 := .i64) (li := 0) (ci := (IntKind.i64.wrap ((l0.length : Int) + 3))) (z := .agg #[.int .i64 0, .int .i64 0]) (z' := (⟨0, 0⟩ : SCome)) (by kernel_rfl) (by kernel_rfl) (by kernel_rfl) rfl (Int.toNat_of_nonneg hc1).symm (by kernel_rfl) (by kernel_rfl) rfl hS2 (Nat.zero_le _) rfl (by omega) fun v1 w2 _ hS3 => ?_
        refine ge_nil fun a hF => hK _ _ (RS.of (l := [.loaded ⟨b1, 0, none⟩ (.int .i64 x1.Task), .loaded ⟨b1, 1, none⟩ (.int .i64 x1.At)]) ⟨hS2.cell 0 rfl rfl, hS2.cell 0 rfl rfl, trivial⟩ ⟨hS3.cell 1 rfl rfl, hS3.cell 1 rfl rfl, trivial⟩) ?_ a hF
        refine go_alt (fun K hK => ?_) ?_
        · by_cases hc3 : (List.replicate 0 (⟨0, 0⟩ : SCome)).length + l0.length ≤ 8796093022208
          · rw [if_pos hc3] at h
            refine ge_appendL (α := SCome) (m := 0) (d := 11) (t := 49) (el := 53) (bytes := 16) (c1 := c0) (A1 := A0) (x := (.tmp 9)) (y := (.tmp 10)) (ty := 49) (v := v1) (z := .agg #[.int .i64 0, .int .i64 0]) (l := (List.replicate 0 (⟨0, 0⟩ : SCome))) (us := l0) (by kernel_rfl) (by kernel_rfl) (by kernel_rfl) (by kernel_rfl) (by kernel_rfl) rfl hS3 (hS3.rd hR0) rfl (Nat.mul_le_of_le_div _ _ _ hc3) fun v2 w3 hS4 => ?_
            have hS5 : St w0 w3 [Own.of v2 53 ((List.replicate 0 (⟨0, 0⟩ : SCome)) ++ l0), Own.blk b1 (.cells #[.int .i64 x1.Task, .int .i64 x1.At] 53 (0, 0))] := hS4
            refine ge_nil fun a hF => hK _ _ (RS.of (l := [.loaded ⟨b1, 0, none⟩ (.int .i64 x1.Task), .loaded ⟨b1, 1, none⟩ (.int .i64 x1.At)]) ⟨hS3.cell 1 rfl rfl, hS3.cell 1 rfl rfl, trivial⟩ ⟨hS5.cell 1 rfl rfl, hS5.cell 1 rfl rfl, trivial⟩) ?_ a hF
            refine go_alt (fun K hK => ?_) ?_
            · refine ge_one2 ?_
              refine ge_new (d := some 15) (o := .cells #[.int .i64 x1.Task, .int .i64 x1.At, .int .i64 x1.Task, .int .i64 x1.At, .int .i64 x1.Task, .int .i64 x1.At] 53) (v := fun b => .slice (some ⟨b, 0, none⟩) 3 3) hS5 (fun b => by kernel_rfl) fun b2 w4 hx2 hS6 => ?_
              refine ge_nil fun a hF => hK _ _ (RS.of (l := [.loaded ⟨b1, 0, none⟩ (.int .i64 x1.Task), .loaded ⟨b1, 1, none⟩ (.int .i64 x1.At)]) ⟨hS5.cell 1 rfl rfl, hS5.cell 1 rfl rfl, trivial⟩ ⟨hS6.cell 2 rfl rfl, hS6.cell 2 rfl rfl, trivial⟩) ?_ a hF
              refine go_alt (fun K hK => ?_) ?_
              · have hS7 := hS6.bring 1 rfl
                by_cases hc4 : ((List.replicate 0 (⟨0, 0⟩ : SCome)) ++ l0).length + 3 ≤ 8796093022208
                · rw [if_pos hc4] at h
                  refine ge_appendL (α := SCome) (m := 0) (d := 16) (t := 49) (el := 53) (bytes := 16) (c1 := 3) (A1 := (some ⟨b2, 0, none⟩)) (x := (.tmp 11)) (y := (.tmp 15)) (ty := 49) (v := v2) (z := .agg #[.int .i64 0, .int .i64 0]) (l := ((List.replicate 0 (⟨0, 0⟩ : SCome)) ++ l0)) (us := ([x1, x1, x1] : List SCome)) (by kernel_rfl) (by kernel_rfl) (by kernel_rfl) (by kernel_rfl) (by kernel_rfl) rfl hS7 (hS7.rdBlk 1 ([x1, x1, x1] : List SCome) rfl rfl rfl) rfl (Nat.mul_le_of_le_div _ _ _ hc4) fun v3 w5 hS8 => ?_
                  have hS9 : St w0 w5 [Own.of v3 53 (((List.replicate 0 (⟨0, 0⟩ : SCome)) ++ l0) ++ ([x1, x1, x1] : List SCome)), Own.blk b2 (.cells #[.int .i64 x1.Task, .int .i64 x1.At, .int .i64 x1.Task, .int .i64 x1.At, .int .i64 x1.Task, .int .i64 x1.At] 53 (0, 0)), Own.blk b1 (.cells #[.int .i64 x1.Task, .int .i64 x1.At] 53 (0, 0))] := hS8
                  refine ge_nil fun a hF => hK _ _ (RS.of (l := [.loaded ⟨b1, 0, none⟩ (.int .i64 x1.Task), .loaded ⟨b1, 1, none⟩ (.int .i64 x1.At)]) ⟨hS6.cell 2 rfl rfl, hS6.cell 2 rfl rfl, trivial⟩ ⟨hS9.cell 2 rfl rfl, hS9.cell 2 rfl rfl, trivial⟩) ?_ a hF
                  refine go_batch [11] (ans := []) (vs := [(5, v3)]) (l := []) (by kernel_rfl) trivial (by simp [didAddrs]) ?_
                  refine go_fin fun a hF => hK2 _ _ ?_ a hF
                  refine we_seq fun K3 hK3 => ?_
                  refine we_region [(0, 0), (1, 0), (2, 0), (3, 0), (4, 0)] rfl ?_
                  refine ge_batch [0, 1, 2] (ans := []) (vs := [(19, .int .i64 (l0.length : Int)), (18, .slice A0 l0.length c0), (17, v3)]) (l := []) (by kernel_rfl) trivial ?_
                  obtain ⟨Z1, cz1, rfl, hcp1⟩ := hS9.open2 0 rfl
                  refine ge_sliceHi (d := 20) (ty := 49) (t := 49) (el := 53) (sz := 2) (m := ((((List.replicate 0 (⟨0, 0⟩ : SCome)) ++ l0) ++ ([x1, x1, x1] : List SCome)).length)) (c := cz1) (hn := l0.length) (x := (.tmp 17)) (y := (.tmp 19)) (A := Z1) (k' := .i64) (hi := (l0.length : Int)) (by kernel_rfl) (by kernel_rfl) (by kernel_rfl) rfl (by kernel_rfl) (by kernel_rfl) (by have h0 := hcp1; simp only [List.length_append, List.length_cons, List.length_nil] at h0; omega) ?_
                  refine ge_batch [4] (ans := []) (vs := [(4, .slice Z1 l0.length cz1)]) (l := []) (by kernel_rfl) trivial ?_
                  refine ge_nil fun a hF => hK3 _ _ ?_ a hF
                  have hS10 := hS9.takeN 1
                  obtain rfl := Option.some.inj h
                  exact we_ret (post_ret (rs := [.tmp 4]) (ans := []) (vs := [.slice Z1 l0.length cz1]) (l := []) rfl (by kernel_rfl) trivial ⟨Z1, cz1, rfl, hcp1, hS10⟩)
                · rw [if_neg hc4] at h
                  cases h
              exact go_nomore
            exact go_nomore
          · rw [if_neg hc3] at h
            cases h
        refine go_alt (fun K hK => ?_) ?_
        · refine ge_one2 ?_
          refine ge_new (d := some 15) (o := .cells #[.int .i64 x1.Task, .int .i64 x1.At, .int .i64 x1.Task, .int .i64 x1.At, .int .i64 x1.Task, .int .i64 x1.At] 53) (v := fun b => .slice (some ⟨b, 0, none⟩) 3 3) hS3 (fun b => by kernel_rfl) fun b2 w3 hx2 hS4 => ?_
          refine ge_nil fun a hF => hK _ _ (RS.of (l := [.loaded ⟨b1, 0, none⟩ (.int .i64 x1.Task), .loaded ⟨b1, 1, none⟩ (.int .i64 x1.At)]) ⟨hS3.cell 1 rfl rfl, hS3.cell 1 rfl rfl, trivial⟩ ⟨hS4.cell 2 rfl rfl, hS4.cell 2 rfl rfl, trivial⟩) ?_ a hF
          refine go_alt (fun K hK => ?_) ?_
          · have hS5 := hS4.bring 1 rfl
            by_cases hc3 : (List.replicate 0 (⟨0, 0⟩ : SCome)).length + l0.length ≤ 8796093022208
            · rw [if_pos hc3] at h
              refine ge_appendL (α := SCome) (m := 0) (d := 11) (t := 49) (el := 53) (bytes := 16) (c1 := c0) (A1 := A0) (x := (.tmp 9)) (y := (.tmp 10)) (ty := 49) (v := v1) (z := .agg #[.int .i64 0, .int .i64 0]) (l := (List.replicate 0 (⟨0, 0⟩ : SCome))) (us := l0) (by kernel_rfl) (by kernel_rfl) (by kernel_rfl) (by kernel_rfl) (by kernel_rfl) rfl hS5 (hS5.rd hR0) rfl (Nat.mul_le_of_le_div _ _ _ hc3) fun v2 w4 hS6 => ?_
              have hS7 : St w0 w4 [Own.of v2 53 ((List.replicate 0 (⟨0, 0⟩ : SCome)) ++ l0), Own.blk b2 (.cells #[.int .i64 x1.Task, .int .i64 x1.At, .int .i64 x1.Task, .int .i64 x1.At, .int .i64 x1.Task, .int .i64 x1.At] 53 (0, 0)), Own.blk b1 (.cells #[.int .i64 x1.Task, .int .i64 x1.At] 53 (0, 0))] := hS6
              refine ge_nil fun a hF => hK _ _ (RS.of (l := [.loaded ⟨b1, 0, none⟩ (.int .i64 x1.Task), .loaded ⟨b1, 1, none⟩ (.int .i64 x1.At)]) ⟨hS4.cell 2 rfl rfl, hS4.cell 2 rfl rfl, trivial⟩ ⟨hS7.cell 2 rfl rfl, hS7.cell 2 rfl rfl, trivial⟩) ?_ a hF
              refine go_alt (fun K hK => ?_) ?_
              · by_cases hc4 : ((List.replicate 0 (⟨0, 0⟩ : SCome)) ++ l0).length + 3 ≤ 8796093022208
                · rw [if_pos hc4] at h
                  refine ge_appendL (α := SCome) (m := 0) (d := 16) (t := 49) (el := 53) (bytes := 16) (c1 := 3) (A1 := (some ⟨b2, 0, none⟩)) (x := (.tmp 11)) (y := (.tmp 15)) (ty := 49) (v := v2) (z := .agg #[.int .i64 0, .int .i64 0]) (l := ((List.replicate 0 (⟨0, 0⟩ : SCome)) ++ l0)) (us := ([x1, x1, x1] : List SCome)) (by kernel_rfl) (by kernel_rfl) (by kernel_rfl) (by kernel_rfl) (by kernel_rfl) rfl hS7 (hS7.rdBlk 1 ([x1, x1, x1] : List SCome) rfl rfl rfl) rfl (Nat.mul_le_of_le_div _ _ _ hc4) fun v3 w5 hS8 => ?_
                  have hS9 : St w0 w5 [Own.of v3 53 (((List.replicate 0 (⟨0, 0⟩ : SCome)) ++ l0) ++ ([x1, x1, x1] : List SCome)), Own.blk b2 (.cells #[.int .i64 x1.Task, .int .i64 x1.At, .int .i64 x1.Task, .int .i64 x1.At, .int .i64 x1.Task, .int .i64 x1.At] 53 (0, 0)), Own.blk b1 (.cells #[.int .i64 x1.Task, .int .i64 x1.At] 53 (0, 0))] := hS8
                  refine ge_nil fun a hF => hK _ _ (RS.of (l := [.loaded ⟨b1, 0, none⟩ (.int .i64 x1.Task), .loaded ⟨b1, 1, none⟩ (.int .i64 x1.At)]) ⟨hS7.cell 2 rfl rfl, hS7.cell 2 rfl rfl, trivial⟩ ⟨hS9.cell 2 rfl rfl, hS9.cell 2 rfl rfl, trivial⟩) ?_ a hF
                  refine go_batch [11] (ans := []) (vs := [(5, v3)]) (l := []) (by kernel_rfl) trivial (by simp [didAddrs]) ?_
                  refine go_fin fun a hF => hK2 _ _ ?_ a hF
                  refine we_seq fun K3 hK3 => ?_
                  refine we_region [(0, 0), (1, 0), (2, 0), (3, 0), (4, 0)] rfl ?_
                  refine ge_batch [0, 1, 2] (ans := []) (vs := [(19, .int .i64 (l0.length : Int)), (18, .slice A0 l0.length c0), (17, v3)]) (l := []) (by kernel_rfl) trivial ?_
                  obtain ⟨Z1, cz1, rfl, hcp1⟩ := hS9.open2 0 rfl
                  refine ge_sliceHi (d := 20) (ty := 49) (t := 49) (el := 53) (sz := 2) (m := ((((List.replicate 0 (⟨0, 0⟩ : SCome)) ++ l0) ++ ([x1, x1, x1] : List SCome)).length)) (c := cz1) (hn := l0.length) (x := (.tmp 17)) (y := (.tmp 19)) (A := Z1) (k' := .i64) (hi := (l0.length : Int)) (by kernel_rfl) (by kernel_rfl) (by kernel_rfl) rfl (by kernel_rfl) (by kernel_rfl) (by have h0 := hcp1; simp only [List.length_append, List.length_cons, List.length_nil] at h0; omega) ?_
                  refine ge_batch [4] (ans := []) (vs := [(4, .slice Z1 l0.length cz1)]) (l := []) (by kernel_rfl) trivial ?_
                  refine ge_nil fun a hF => hK3 _ _ ?_ a hF
                  have hS10 := hS9.takeN 1
                  obtain rfl := Option.some.inj h
                  exact we_ret (post_ret (rs := [.tmp 4]) (ans := []) (vs := [.slice Z1 l0.length cz1]) (l := []) rfl (by kernel_rfl) trivial ⟨Z1, cz1, rfl, hcp1, hS10⟩)
                · rw [if_neg hc4] at h
                  cases h
              exact go_nomore
            · rw [if_neg hc3] at h
              cases h
          exact go_nomore
        exact go_nomore
      refine go_alt (fun K hK => ?_) ?_
      · refine ge_one2 ?_
        refine ge_new (d := some 15) (o := .cells #[.int .i64 x1.Task, .int .i64 x1.At, .int .i64 x1.Task, .int .i64 x1.At, .int .i64 x1.Task, .int .i64 x1.At] 53) (v := fun b => .slice (some ⟨b, 0, none⟩) 3 3) hS2 (fun b => by kernel_rfl) fun b2 w2 hx2 hS3 => ?_
        refine ge_nil fun a hF => hK _ _ (RS.of (l := [.loaded ⟨b1, 0, none⟩ (.int .i64 x1.Task), .loaded ⟨b1, 1, none⟩ (.int .i64 x1.At)]) ⟨hS2.cell 0 rfl rfl, hS2.cell 0 rfl rfl, trivial⟩ ⟨hS3.cell 1 rfl rfl, hS3.cell 1 rfl rfl, trivial⟩) ?_ a hF
        refine go_alt (fun K hK => ?_) ?_
        · refine ge_one2 ?_
          refine ge_make (α := SCome) (d := 9) (t := 49) (el := 53) (bytes := 16) (l := 0) (c := ((IntKind.i64.wrap ((l0.length : Int) + 3)).toNat)) (x := (.const (.int .i64 0))) (y := (.tmp 8)) (ty := 49) (k1 := .i64) (k2 := .i64) (li := 0) (ci := (IntKind.i64.wrap ((l0.length : Int) + 3))) (z := .agg #[.int .i64 0, .int .i64 0]) (z' := (⟨0, 0⟩ : SCome)) (by kernel_rfl) (by kernel_rfl) (by kernel_rfl) rfl (Int.toNat_of_nonneg hc1).symm (by kernel_rfl) (by kernel_rfl) rfl hS3 (Nat.zero_le _) rfl (by omega) fun v1 w3 _ hS4 => ?_
          refine ge_nil fun a hF => hK _ _ (RS.of (l := [.loaded ⟨b1, 0, none⟩ (.int .i64 x1.Task), .loaded ⟨b1, 1, none⟩ (.int .i64 x1.At)]) ⟨hS3.cell 1 rfl rfl, hS3.cell 1 rfl rfl, trivial⟩ ⟨hS4.cell 2 rfl rfl, hS4.cell 2 rfl rfl, trivial⟩) ?_ a hF
          refine go_alt (fun K hK => ?_) ?_
          · by_cases hc3 : (List.replicate 0 (⟨0, 0⟩ : SCome)).length + l0.length ≤ 8796093022208
            · rw [if_pos hc3] at h
              refine ge_appendL (α := SCome) (m := 0) (d := 11) (t := 49) (el := 53) (bytes := 16) (c1 := c0) (A1 := A0) (x := (.tmp 9)) (y := (.tmp 10)) (ty := 49) (v := v1) (z := .agg #[.int .i64 0, .int .i64 0]) (l := (List.replicate 0 (⟨0, 0⟩ : SCome))) (us := l0) (by kernel_rfl) (by kernel_rfl) (by kernel_rfl) (by kernel_rfl) (by kernel_rfl) rfl hS4 (hS4.rd hR0) rfl (Nat.mul_le_of_le_div _ _ _ hc3) fun v2 w4 hS5 => ?_
              have hS6 : St w0 w4 [Own.of v2 53 ((List.replicate 0 (⟨0, 0⟩ : SCome)) ++ l0), Own.blk b2 (.cells #[.int .i64 x1.Task, .int .i64 x1.At, .int .i64 x1.Task, .int .i64 x1.At, .int .i64 x1.Task, .int .i64 x1.At] 53 (0, 0)), Own.blk b1 (.cells #[.int .i64 x1.Task, .int .i64 x1.At] 53 (0, 0))] := hS5
              refine ge_nil fun a hF => hK _ _ (RS.of (l := [.loaded ⟨b1, 0, none⟩ (.int .i64 x1.Task), .loaded ⟨b1, 1, none⟩ (.int .i64 x1.At)]) ⟨hS4.cell 2 rfl rfl, hS4.cell 2 rfl rfl, trivial⟩ ⟨hS6.cell 2 rfl rfl, hS6.cell 2 rfl rfl, trivial⟩) ?_ a hF
              refine go_alt (fun K hK => ?_) ?_
              · by_cases hc4 : ((List.replicate 0 (⟨0, 0⟩ : SCome)) ++ l0).length + 3 ≤ 8796093022208
                · rw [if_pos hc4] at h
                  refine ge_appendL (α := SCome) (m := 0) (d := 16) (t := 49) (el := 53) (bytes := 16) (c1 := 3) (A1 := (some ⟨b2, 0, none⟩)) (x := (.tmp 11)) (y := (.tmp 15)) (ty := 49) (v := v2) (z := .agg #[.int .i64 0, .int .i64 0]) (l := ((List.replicate 0 (⟨0, 0⟩ : SCome)) ++ l0)) (us := ([x1, x1, x1] : List SCome)) (by kernel_rfl) (by kernel_rfl) (by kernel_rfl) (by kernel_rfl) (by kernel_rfl) rfl hS6 (hS6.rdBlk 1 ([x1, x1, x1] : List SCome) rfl rfl rfl) rfl (Nat.mul_le_of_le_div _ _ _ hc4) fun v3 w5 hS7 => ?_
                  have hS8 : St w0 w5 [Own.of v3 53 (((List.replicate 0 (⟨0, 0⟩ : SCome)) ++ l0) ++ ([x1, x1, x1] : List SCome)), Own.blk b2 (.cells #[.int .i64 x1.Task, .int .i64 x1.At, .int .i64 x1.Task, .int .i64 x1.At, .int .i64 x1.Task, .int .i64 x1.At] 53 (0, 0)), Own.blk b1 (.cells #[.int .i64 x1.Task, .int .i64 x1.At] 53 (0, 0))] := hS7
                  refine ge_nil fun a hF => hK _ _ (RS.of (l := [.loaded ⟨b1, 0, none⟩ (.int .i64 x1.Task), .loaded ⟨b1, 1, none⟩ (.int .i64 x1.At)]) ⟨hS6.cell 2 rfl rfl, hS6.cell 2 rfl rfl, trivial⟩ ⟨hS8.cell 2 rfl rfl, hS8.cell 2 rfl rfl, trivial⟩) ?_ a hF
                  refine go_batch [11] (ans := []) (vs := [(5, v3)]) (l := []) (by kernel_rfl) trivial (by simp [didAddrs]) ?_
                  refine go_fin fun a hF => hK2 _ _ ?_ a hF
                  refine we_seq fun K3 hK3 => ?_
                  refine we_region [(0, 0), (1, 0), (2, 0), (3, 0), (4, 0)] rfl ?_
                  refine ge_batch [0, 1, 2] (ans := []) (vs := [(19, .int .i64 (l0.length : Int)), (18, .slice A0 l0.length c0), (17, v3)]) (l := []) (by kernel_rfl) trivial ?_
                  obtain ⟨Z1, cz1, rfl, hcp1⟩ := hS8.open2 0 rfl
                  refine ge_sliceHi (d := 20) (ty := 49) (t := 49) (el := 53) (sz := 2) (m := ((((List.replicate 0 (⟨0, 0⟩ : SCome)) ++ l0) ++ ([x1, x1, x1] : List SCome)).length)) (c := cz1) (hn := l0.length) (x := (.tmp 17)) (y := (.tmp 19)) (A := Z1) (k' := .i64) (hi := (l0.length : Int)) (by kernel_rfl) (by kernel_rfl) (by kernel_rfl) rfl (by kernel_rfl) (by kernel_rfl) (by have h0 := hcp1; simp only [List.length_append, List.length_cons, List.length_nil] at h0; omega) ?_
                  refine ge_batch [4] (ans := []) (vs := [(4, .slice Z1 l0.length cz1)]) (l := []) (by kernel_rfl) trivial ?_
                  refine ge_nil fun a hF => hK3 _ _ ?_ a hF
                  have hS9 := hS8.takeN 1
                  obtain rfl := Option.some.inj h
                  exact we_ret (post_ret (rs := [.tmp 4]) (ans := []) (vs := [.slice Z1 l0.length cz1]) (l := []) rfl (by kernel_rfl) trivial ⟨Z1, cz1, rfl, hcp1, hS9⟩)
                · rw [if_neg hc4] at h
                  cases h
              exact go_nomore
            · rw [if_neg hc3] at h
              cases h
          exact go_nomore
        exact go_nomore
      exact go_nomore
    · rw [if_neg hc2] at h
      cases h
  · rw [if_neg hc1] at h
    cases h
theorem punctualsame_Lend_api_Come_full (l0 : List SCome) (x1 : SCome) {r : List SCome} (h : punctualsame_Lend_api_Come.f l0 x1 = some r) : r = l0 ++ [x1, x1, x1] := by
  unfold punctualsame_Lend_api_Come.f at h
  repeat' split at h
  all_goals first | (exact (Option.some.inj h).symm) | cases h

/-! punctual/punctualsame.Lend[int] -/
abbrev punctualsame_Lend_int.Post (w0 : World) (n : Nat) (r : List Int) (e : Ending) (w : World) : Prop := ∃ (A : Option Addr) (c : Nat), e = .returned (.slice A n c) ∧ r.length ≤ c ∧ St w0 w [Own.of (.slice A r.length c) 3 r]
def punctualsame_Lend_int.f (l0 : List Int) (x1 : Int) : Option (List Int) :=
  if 0 ≤ (IntKind.i64.wrap ((l0.length : Int) + 3)) then
    if ((IntKind.i64.wrap ((l0.length : Int) + 3)).toNat) ≤ 17592186044416 then
      if (List.replicate 0 (0 : Int)).length + l0.length ≤ 17592186044416 then
        if ((List.replicate 0 (0 : Int)) ++ l0).length + 3 ≤ 17592186044416 then
          some (((List.replicate 0 (0 : Int)) ++ l0) ++ ([x1, x1, x1] : List Int))
        else
          none
      else
        none
    else
      none
  else
    none
theorem punctualsame_Lend_int_ok (l0 : List Int) (A0 : Option Addr) (c0 : Nat) (x1 : Int) (w0 : World) (hR0 : RdL w0 A0 l0) (hL0 : l0.length ≤ c0) (r : List Int) (h : punctualsame_Lend_int.f l0 x1 = some r) :
    Calls Tryd.prog 15 #[.slice A0 l0.length c0, .int .i64 x1] w0 (punctualsame_Lend_int.Post w0 l0.length r) := by
  have hS := St.start w0
  unfold punctualsame_Lend_int.f at h
  refine calls_enter (n := 21) (args := [.slice A0 l0.length c0, .int .i64 x1]) (fn := Tryd.f15) rfl rfl rfl rfl ?_
  show WE _ _ _ _ [(0, .slice A0 l0.length c0), (1, .int .i64 x1)] _
  refine we_seq fun K1 hK1 => ?_
  refine we_region [(0, 0)] rfl ?_
  refine ge_batch [0] (ans := []) (vs := [(4, .slice none 0 0)]) (l := []) (by kernel_rfl) trivial ?_
  refine ge_nil fun a hF => hK1 _ _ ?_ a hF
  refine we_seq fun K2 hK2 => ?_
  refine we_region [(0, 0), (1, 0), (2, 0), (3, 1), (4, 0), (5, 2), (6, 0), (7, 0), (8, 0), (9, 1), (10, 2), (11, 0)] rfl ?_
  refine ge_batch [0, 1, 2] (ans := []) (vs := [(8, .int .i64 (IntKind.i64.wrap ((l0.length : Int) + 3))), (7, .int .i64 (l0.length : Int)), (6, .slice A0 l0.length c0)]) (l := []) (by kernel_rfl) trivial ?_
  by_cases hc1 : 0 ≤ (IntKind.i64.wrap ((l0.length : Int) + 3))
  · rw [if_pos hc1] at h
    by_cases hc2 : ((IntKind.i64.wrap ((l0.length : Int) + 3)).toNat) ≤ 17592186044416
    · rw [if_pos hc2] at h
      refine ge_make (α := Int) (d := 9) (t := 23) (el := 3) (bytes := 8) (l := 0) (c := ((IntKind.i64.wrap ((l0.length : Int) + 3)).toNat)) (x := (.const (.int .i64 0))) (y := (.tmp 8)) (ty := 23) (k1 := .i64) (k2 := .i64) (li := 0) (ci := (IntKind.i64.wrap ((l0.length : Int) + 3))) (z := .int .i64 0) (z' := (0 : Int)) (by kernel_rfl) (by kernel_rfl) (by kernel_rfl) rfl (Int.toNat_of_nonneg hc1).symm (by kernel_rfl) (by kernel_rfl) rfl hS (Nat.zero_le _) rfl (by omega) fun v1 w1 _ hS1 => ?_
      refine ge_batch [4] (ans := []) (vs := [(10, .slice A0 l0.length c0)]) (l := []) (by kernel_rfl) trivial ?_
      by_cases hc3 : (List.replicate 0 (0 : Int)).length + l0.length ≤ 17592186044416
      · rw [if_pos hc3] at h
        refine ge_appendL (α := Int) (m := 0) (d := 11) (t := 23) (el := 3) (bytes := 8) (c1 := c0) (A1 := A0) (x := (.tmp 9)) (y := (.tmp 10)) (ty := 23) (v := v1) (z := .int .i64 0) (l := (List.replicate 0 (0 : Int))) (us := l0) (by kernel_rfl) (by kernel_rfl) (by kernel_rfl) (by kernel_rfl) (by kernel_rfl) rfl hS1 (hS1.rd hR0) rfl (Nat.mul_le_of_le_div _ _ _ hc3) fun v2 w2 hS2 => ?_
        have hS3 : St w0 w2 [Own.of v2 3 ((List.replicate 0 (0 : Int)) ++ l0)] := hS2
        refine ge_batch [6, 7, 8] (ans := []) (vs := [(14, .int .i64 x1), (13, .int .i64 x1), (12, .int .i64 x1)]) (l := []) (by kernel_rfl) trivial ?_
        refine ge_new (d := some 15) (o := .cells #[.int .i64 x1, .int .i64 x1, .int .i64 x1] 3) (v := fun b => .slice (some ⟨b, 0, none⟩) 3 3) hS3 (fun b => by kernel_rfl) fun b1 w3 hx1 hS4 => ?_
        have hS5 := hS4.bring 1 rfl
        by_cases hc4 : ((List.replicate 0 (0 : Int)) ++ l0).length + 3 ≤ 17592186044416
        · rw [if_pos hc4] at h
          refine ge_appendL (α := Int) (m := 0) (d := 16) (t := 23) (el := 3) (bytes := 8) (c1 := 3) (A1 := (some ⟨b1, 0, none⟩)) (x := (.tmp 11)) (y := (.tmp 15)) (ty := 23) (v := v2) (z := .int .i64 0) (l := ((List.replicate 0 (0 : Int)) ++ l0)) (us := ([x1, x1, x1] : List Int)) (by kernel_rfl) (by kernel_rfl) (by kernel_rfl) (by kernel_rfl) (by kernel_rfl) rfl hS5 (hS5.rdBlk 1 ([x1, x1, x1] : List Int) rfl rfl rfl) rfl (Nat.mul_le_of_le_div _ _ _ hc4) fun v3 w4 hS6 => ?_
          have hS7 : St w0 w4 [Own.of v3 3 (((List.replicate 0 (0 : Int)) ++ l0) ++ ([x1, x1, x1] : List Int)), Own.blk b1 (.cells #[.int .i64 x1, .int .i64 x1, .int .i64 x1] 3 (0, 0))] := hS6
          refine ge_batch [11] (ans := []) (vs := [(5, v3)]) (l := []) (by kernel_rfl) trivial ?_
          refine ge_nil fun a hF => hK2 _ _ ?_ a hF
          refine we_seq fun K3 hK3 => ?_
          refine we_region [(0, 0), (1, 0), (2, 0), (3, 0), (4, 0)] rfl ?_
          refine ge_batch [0, 1, 2] (ans := []) (vs := [(19, .int .i64 (l0.length : Int)), (18, .slice A0 l0.length c0), (17, v3)]) (l := []) (by kernel_rfl) trivial ?_
          obtain ⟨Z1, cz1, rfl, hcp1⟩ := hS7.open2 0 rfl
          refine ge_sliceHi (d := 20) (ty := 23) (t := 23) (el := 3) (sz := 1) (m := ((((List.replicate 0 (0 : Int)) ++ l0) ++ ([x1, x1, x1] : List Int)).length)) (c := cz1) (hn := l0.length) (x := (.tmp 17)) (y := (.tmp 19)) (A := Z1) (k' := .i64) (hi := (l0.length : Int)) (by kernel_rfl) (by kernel_rfl) (by kernel_rfl) rfl (by kernel_rfl) (by kernel_rfl) (by have h0 := hcp1; simp only [List.length_append, List.length_cons, List.length_nil] at h0; omega) ?_
          refine ge_batch [4] (ans := []) (vs := [(4, .slice Z1 l0.length cz1)]) (l := []) (by kernel_rfl) trivial ?_
          refine ge_nil fun a hF => hK3 _ _ ?_ a hF
          have hS8 := hS7.takeN 1
          obtain rfl := Option.some.inj h
          exact we_ret (post_ret (rs := [.tmp 4]) (ans := []) (vs := [.slice Z1 l0.length cz1]) (l := []) rfl (by kernel_rfl) trivial ⟨Z1, cz1, rfl, hcp1, hS8⟩)
        · rw [if_neg hc4] at h
          cases h
      · rw [if_neg hc3] at h
        cases h
    · rw [if_neg hc2] at h
      cases h
  · rw [if_neg hc1] at h
    cases h
theorem punctualsame_Lend_int_full (l0 : List Int) (x1 : Int) {r : List Int} (h : punctualsame_Lend_int.f l0 x1 = some r) : r = l0 ++ [x1, x1, x1] := by
  unfold punctualsame_Lend_int.f at h
  repeat' split at h
  all_goals first | (exact (Option.some.inj h).symm) | cases h

/-! punctual/punctualsame.Spoil[punctual/api.Job] -/
theorem punctualsame_Spoil_api_Job_ok (w0 w : World) {L : List Own} (A : Option Addr) (n c : Nat) (l : List SJob) (hS : St w0 w (Own.of (.slice A n c) 30 l :: L)) : Calls Tryd.prog 29 #[.slice A n c] w (fun e w' => e = .returned (.tuple #[]) ∧ St w0 w' L) := by
  refine calls_enter (n := 6) (args := [.slice A n c]) (fn := Tryd.f29) rfl rfl rfl rfl ?_
  show WE _ _ _ _ [(0, .slice A n c)] _
  refine we_region [(0, 0), (1, 0), (2, 0), (3, 0), (4, 2)] rfl ?_
  refine ge_batch [0, 1, 2] (ans := []) (vs := [(4, .int .i64 (c : Int)), (3, .slice A n c), (2, .slice A n c)]) (l := []) (by kernel_rfl) trivial ?_
  refine ge_sliceHi (d := 5) (ty := 22) (t := 22) (el := 30) (sz := 5) (m := n) (c := c) (hn := c) (x := (.tmp 2)) (y := (.tmp 4)) (A := A) (k' := .i64) (hi := (c : Int)) (by kernel_rfl) (by kernel_rfl) (by kernel_rfl) rfl (by kernel_rfl) (by kernel_rfl) (Nat.le_refl _) ?_
  refine ge_clear (α := SJob) (m := 0) (t := 22) (el := 30) (c := c) (k := n) (bytes := 40) (x := (.tmp 5)) (ty := 0) (A := A) (z := .agg #[.int .i64 0, .int .i64 0, .int .i64 0, .int .i64 0, .int .i64 0]) (l := l) (by kernel_rfl) (by kernel_rfl) (by kernel_rfl) (by kernel_rfl) rfl rfl hS fun w1 hS1 => ?_
  exact ge_nil (post_end (rs := []) (ans := []) (vs := []) (l := []) rfl (by kernel_rfl) trivial ⟨rfl, hS1⟩)

/-! punctual/punctualsame.Still[punctual/api.Task] -/
abbrev punctualsame_Still_api_Task.Post (w0 : World) (r : Bool) (e : Ending) (w : World) : Prop := e = .returned (.bool r) ∧ St w0 w []
def punctualsame_Still_api_Task.r0 (f0 : List STask) (l1 : List STask) (x2 : STask) : Nat → Option (Nat ⊕ (Unit ⊕ Bool))
  | i1 =>
    if (i1 : Int) < (f0.length : Int) then
      match f0[i1]? with
      | none => none
      | some e1 =>
        if (i1 : Int) < (l1.length : Int) then
          match l1[i1]? with
          | none => none
          | some e2 =>
            if (STask.eqb e1 e2) = true then
              if (i1 : Int) ≥ (l1.length : Int) then
                if (STask.eqb e1 x2) = true then
                  some (.inl (i1 + 1))
                else
                  some (.inr (.inr false))
              else
                some (.inl (i1 + 1))
            else
              some (.inr (.inr false))
        else
          if (i1 : Int) ≥ (l1.length : Int) then
            if (STask.eqb e1 x2) = true then
              some (.inl (i1 + 1))
            else
              some (.inr (.inr false))
          else
            some (.inl (i1 + 1))
    else
      some (.inr (.inl ()))
def punctualsame_Still_api_Task.f (K : Nat) (f0 : List STask) (l1 : List STask) (x2 : STask) : Option Bool :=
  if (IntKind.i64.wrap ((l1.length : Int) + 3)) = (f0.length : Int) then
    match iter (punctualsame_Still_api_Task.r0 f0 l1 x2) K 0 with
    | none => none
    | some (.inl _) =>
      some true
    | some (.inr rr1) =>
      some rr1
  else
    none
abbrev punctualsame_Still_api_Task.A0 (K : Nat) (w0 : World) (f0 : List STask) (A0 : Option Addr) (n0 : Nat) (c0 : Nat) (l1 : List STask) (A1 : Option Addr) (c1 : Nat) (x2 : STask) (hR0 : RdL w0 A0 f0) (hc0 : f0.length ≤ c0) (hR1 : RdL w0 A1 l1) (hL1 : l1.length ≤ c1) (b1 : Nat) (hc1 : (IntKind.i64.wrap ((l1.length : Int) + 3)) = (f0.length : Int)) : Nat → Act → World → Prop := fun (s : Nat) a w => St w0 w [Own.blk b1 (.cells #[.string x2.Name, .int .i64 x2.C, .int .i64 x2.T, .int .i64 x2.D, .int .i64 x2.J, .int .i64 x2.O, .int .i64 x2.P] 46 (0, 0))] ∧ Frm 46 a [(1, .slice A1 l1.length c1), (5, .pointer (some ⟨b1, 0, none⟩)), (15, .slice A0 f0.length c0), (16, .int .i64 (f0.length : Int)), (17, .int .i64 (s : Int))]
abbrev punctualsame_Still_api_Task.B0 (K : Nat) (w0 : World) (f0 : List STask) (A0 : Option Addr) (n0 : Nat) (c0 : Nat) (l1 : List STask) (A1 : Option Addr) (c1 : Nat) (x2 : STask) (hR0 : RdL w0 A0 f0) (hc0 : f0.length ≤ c0) (hR1 : RdL w0 A1 l1) (hL1 : l1.length ≤ c1) (b1 : Nat) (hc1 : (IntKind.i64.wrap ((l1.length : Int) + 3)) = (f0.length : Int)) : (Unit ⊕ Bool) → Exit → Act → World → Prop := Exits 0 (fun (s : Unit) a w => St w0 w [] ∧ Frm 46 a []) (Rets Tryd.prog Tryd.f24 (punctualsame_Still_api_Task.Post w0))
theorem punctualsame_Still_api_Task_r0 (K : Nat) (w0 : World) (f0 : List STask) (A0 : Option Addr) (n0 : Nat) (c0 : Nat) (l1 : List STask) (A1 : Option Addr) (c1 : Nat) (x2 : STask) (hR0 : RdL w0 A0 f0) (hc0 : f0.length ≤ c0) (hR1 : RdL w0 A1 l1) (hL1 : l1.length ≤ c1) (b1 : Nat) (hc1 : (IntKind.i64.wrap ((l1.length : Int) + 3)) = (f0.length : Int)) (s : Nat) (o : Nat ⊕ (Unit ⊕ Bool)) (h : punctualsame_Still_api_Task.r0 f0 l1 x2 s = some o) (a : Act) (w : World) (hA : punctualsame_Still_api_Task.A0 K w0 f0 A0 n0 c0 l1 A1 c1 x2 hR0 hc0 hR1 hL1 b1 hc1 s a w) (Q : Exit → Act → World → Prop) (hQ : ∀ x a w, Outs (punctualsame_Still_api_Task.A0 K w0 f0 A0 n0 c0 l1 A1 c1 x2 hR0 hc0 hR1 hL1 b1 hc1) (punctualsame_Still_api_Task.B0 K w0 f0 A0 n0 c0 l1 A1 c1 x2 hR0 hc0 hR1 hL1 b1 hc1) o x a w → Q x a w) : (subF Tryd.f24 [1, 1, 0, 1, 0, 0]).wp Tryd.prog Q a w := by
  obtain ⟨i1, hs⟩ : ∃ z, z = s := ⟨s, rfl⟩
  subst hs
  obtain ⟨hS, hF⟩ := hA
  replace hS : St w0 w [Own.blk b1 (.cells #[.string x2.Name, .int .i64 x2.C, .int .i64 x2.T, .int .i64 x2.D, .int .i64 x2.J, .int .i64 x2.O, .int .i64 x2.P] 46 (0, 0))] := hS
  simp only [punctualsame_Still_api_Task.r0] at h
  refine (?_ : WE Tryd.prog 46 (subF Tryd.f24 [1, 1, 0, 1, 0, 0]) Q [(1, .slice A1 l1.length c1), (5, .pointer (some ⟨b1, 0, none⟩)), (15, .slice A0 f0.length c0), (16, .int .i64 (f0.length : Int)), (17, .int .i64 (i1 : Int))] w) a hF
  clear hF a
  refine we_seq fun K5 hK5 => ?_
  refine we_region [(0, 0)] rfl ?_
  refine ge_batch [0] (ans := []) (vs := [(18, .bool (decide ((i1 : Int) < (f0.length : Int))))]) (l := []) (by kernel_rfl) trivial ?_
  refine ge_nil fun a hF => hK5 _ _ ?_ a hF
  refine we_seq fun K6 hK6 => ?_
  by_cases hc2 : (i1 : Int) < (f0.length : Int)
  · rw [if_pos hc2] at h
    refine we_known (t := 18) (b := decide ((i1 : Int) < (f0.length : Int))) (v := true) (by kernel_rfl) (decide_eq_true hc2) ?_
    refine we_true (by kernel_rfl) ?_
    refine we_skip fun a hF => hK6 _ _ ?_ a hF
    refine we_seq fun K7 hK7 => ?_
    refine we_block ?_
    refine we_seq fun K8 hK8 => ?_
    refine we_region [(0, 0), (1, 0), (2, 0), (3, 1), (4, 0), (5, 2)] rfl ?_
    refine ge_batch [0] (ans := []) (vs := [(19, .int .i64 (i1 : Int))]) (l := []) (by kernel_rfl) trivial ?_
    rcases hx2 : f0[i1]? with _ | e1
    · rw [hx2] at h; cases h
    rw [hx2] at h
    simp only [] at h
    refine ge_index (d := 20) (ty := 0) (t := 40) (el := 46) (sz := 7) (m := f0.length) (c := c0) (x := (.tmp 15)) (y := (.tmp 17)) (A := A0) (k' := .i64) (j := (i1 : Int)) (jn := i1) (b0 := blkOf A0) (o0 := offOf A0) (by kernel_rfl) (by kernel_rfl) (by kernel_rfl) (by kernel_rfl) (by kernel_rfl) ((hS.rd hR0).eqSome (pos_of_get hx2)) rfl (lt_of_get hx2) ?_
    refine ge_batch [2] (ans := [.val (.string e1.Name), .val (.int .i64 e1.C), .val (.int .i64 e1.T), .val (.int .i64 e1.D), .val (.int .i64 e1.J), .val (.int .i64 e1.O), .val (.int .i64 e1.P)]) (vs := [(21, .agg #[.string e1.Name, .int .i64 e1.C, .int .i64 e1.T, .int .i64 e1.D, .int .i64 e1.J, .int .i64 e1.O, .int .i64 e1.P])]) (l := [.loaded ⟨blkOf A0, offOf A0 + i1 * 7, none⟩ (.string e1.Name), .loaded ⟨blkOf A0, offOf A0 + i1 * 7 + 1, none⟩ (.int .i64 e1.C), .loaded ⟨blkOf A0, offOf A0 + i1 * 7 + 2, none⟩ (.int .i64 e1.T), .loaded ⟨blkOf A0, offOf A0 + i1 * 7 + 3, none⟩ (.int .i64 e1.D), .loaded ⟨blkOf A0, offOf A0 + i1 * 7 + 4, none⟩ (.int .i64 e1.J), .loaded ⟨blkOf A0, offOf A0 + i1 * 7 + 5, none⟩ (.int .i64 e1.O), .loaded ⟨blkOf A0, offOf A0 + i1 * 7 + 6, none⟩ (.int .i64 e1.P)]) (by kernel_rfl) ⟨RdL.cell (j := 0) (hS.rd hR0) hx2 rfl, RdL.cell (j := 1) (hS.rd hR0) hx2 rfl, RdL.cell (j := 2) (hS.rd hR0) hx2 rfl, RdL.cell (j := 3) (hS.rd hR0) hx2 rfl, RdL.cell (j := 4) (hS.rd hR0) hx2 rfl, RdL.cell (j := 5) (hS.rd hR0) hx2 rfl, RdL.cell (j := 6) (hS.rd hR0) hx2 rfl, trivial⟩ ?_
    refine ge_new (d := some 9) (o := .cells #[.string (⟨#[]⟩), .int .i64 0, .int .i64 0, .int .i64 0, .int .i64 0, .int .i64 0, .int .i64 0] 46) (v := fun b => .pointer (some ⟨b, 0, none⟩)) hS (fun b => by kernel_rfl) fun b2 w2 hx3 hS2 => ?_
    refine ge_batch [4] (ans := []) (vs := [(8, .int .i64 (i1 : Int))]) (l := []) (by kernel_rfl) trivial ?_
    refine ge_set (b := b2) (j := 0) (cs := #[.string (⟨#[]⟩), .int .i64 0, .int .i64 0, .int .i64 0, .int .i64 0, .int .i64 0, .int .i64 0]) (t := 46) (vs := [.string e1.Name, .int .i64 e1.C, .int .i64 e1.T, .int .i64 e1.D, .int .i64 e1.J, .int .i64 e1.O, .int .i64 e1.P]) hS2 (by kernel_rfl) rfl rfl fun w3 hS3 => ?_
    have hS4 : St w0 w3 [Own.blk b2 (.cells #[.string e1.Name, .int .i64 e1.C, .int .i64 e1.T, .int .i64 e1.D, .int .i64 e1.J, .int .i64 e1.O, .int .i64 e1.P] 46 (0, 0)), Own.blk b1 (.cells #[.string x2.Name, .int .i64 x2.C, .int .i64 x2.T, .int .i64 x2.D, .int .i64 x2.J, .int .i64 x2.O, .int .i64 x2.P] 46 (0, 0))] := hS3
    refine ge_nil fun a hF => hK8 _ _ ?_ a hF
    refine we_seq fun K9 hK9 => ?_
    refine we_draws (by kernel_rfl) [(0, 0), (1, 0), (2, 0), (3, 0), (4, 0), (5, 0), (6, 0), (7, 0), (8, 0), (9, 0), (10, 0), (11, 0), (12, 0), (13, 0), (14, 0), (15, 0), (16, 0), (17, 0), (18, 0), (19, 0), (20, 0), (21, 0), (22, 0)] (by kernel_rfl) ?_
    have hS5 := hS4.drew
    refine ge_batch [0, 1, 2, 3, 4] (ans := []) (vs := [(26, .bool (decide ((i1 : Int) < (l1.length : Int)))), (25, .bool (decide ((i1 : Int) < (l1.length : Int)))), (24, .int .i64 (l1.length : Int)), (23, .slice A1 l1.length c1), (22, .int .i64 (i1 : Int))]) (l := []) (by kernel_rfl) trivial ?_
    by_cases hc3 : (i1 : Int) < (l1.length : Int)
    · rw [if_pos hc3] at h
      refine ge_known (t := 26) (b := decide ((i1 : Int) < (l1.length : Int))) (c := true) (by kernel_rfl) (decide_eq_true hc3) ?_
      refine ge_batch [5, 6, 7] (ans := [.val (.string e1.Name), .val (.int .i64 e1.C), .val (.int .i64 e1.T), .val (.int .i64 e1.D), .val (.int .i64 e1.J), .val (.int .i64 e1.O), .val (.int .i64 e1.P)]) (vs := [(29, .int .i64 (i1 : Int)), (28, .slice A1 l1.length c1), (27, .agg #[.string e1.Name, .int .i64 e1.C, .int .i64 e1.T, .int .i64 e1.D, .int .i64 e1.J, .int .i64 e1.O, .int .i64 e1.P])]) (l := [.loaded ⟨b2, 0, none⟩ (.string e1.Name), .loaded ⟨b2, 1, none⟩ (.int .i64 e1.C), .loaded ⟨b2, 2, none⟩ (.int .i64 e1.T), .loaded ⟨b2, 3, none⟩ (.int .i64 e1.D), .loaded ⟨b2, 4, none⟩ (.int .i64 e1.J), .loaded ⟨b2, 5, none⟩ (.int .i64 e1.O), .loaded ⟨b2, 6, none⟩ (.int .i64 e1.P)]) (by kernel_rfl) ⟨hS5.cell 0 rfl rfl, hS5.cell 0 rfl rfl, hS5.cell 0 rfl rfl, hS5.cell 0 rfl rfl, hS5.cell 0 rfl rfl, hS5.cell 0 rfl rfl, hS5.cell 0 rfl rfl, trivial⟩ ?_
      rcases hx4 : l1[i1]? with _ | e2
      · rw [hx4] at h; cases h
      rw [hx4] at h
      simp only [] at h
      refine ge_index (d := 30) (ty := 0) (t := 40) (el := 46) (sz := 7) (m := l1.length) (c := c1) (x := (.tmp 28)) (y := (.tmp 29)) (A := A1) (k' := .i64) (j := (i1 : Int)) (jn := i1) (b0 := blkOf A1) (o0 := offOf A1) (by kernel_rfl) (by kernel_rfl) (by kernel_rfl) (by kernel_rfl) (by kernel_rfl) ((hS5.rd hR1).eqSome (pos_of_get hx4)) rfl (lt_of_get hx4) ?_
      refine ge_batch [9] (ans := [.val (.string e2.Name), .val (.int .i64 e2.C), .val (.int .i64 e2.T), .val (.int .i64 e2.D), .val (.int .i64 e2.J), .val (.int .i64 e2.O), .val (.int .i64 e2.P)]) (vs := [(31, .agg #[.string e2.Name, .int .i64 e2.C, .int .i64 e2.T, .int .i64 e2.D, .int .i64 e2.J, .int .i64 e2.O, .int .i64 e2.P])]) (l := [.loaded ⟨blkOf A1, offOf A1 + i1 * 7, none⟩ (.string e2.Name), .loaded ⟨blkOf A1, offOf A1 + i1 * 7 + 1, none⟩ (.int .i64 e2.C), .loaded ⟨blkOf A1, offOf A1 + i1 * 7 + 2, none⟩ (.int .i64 e2.T), .loaded ⟨blkOf A1, offOf A1 + i1 * 7 + 3, none⟩ (.int .i64 e2.D), .loaded ⟨blkOf A1, offOf A1 + i1 * 7 + 4, none⟩ (.int .i64 e2.J), .loaded ⟨blkOf A1, offOf A1 + i1 * 7 + 5, none⟩ (.int .i64 e2.O), .loaded ⟨blkOf A1, offOf A1 + i1 * 7 + 6, none⟩ (.int .i64 e2.P)]) (by kernel_rfl) ⟨RdL.cell (j := 0) (hS5.rd hR1) hx4 rfl, RdL.cell (j := 1) (hS5.rd hR1) hx4 rfl, RdL.cell (j := 2) (hS5.rd hR1) hx4 rfl, RdL.cell (j := 3) (hS5.rd hR1) hx4 rfl, RdL.cell (j := 4) (hS5.rd hR1) hx4 rfl, RdL.cell (j := 5) (hS5.rd hR1) hx4 rfl, RdL.cell (j := 6) (hS5.rd hR1) hx4 rfl, trivial⟩ ?_
      refine ge_eqs (d := 32) (ty := 4) (op := .neq) (x := (.tmp 27)) (y := (.tmp 31)) (t := 46) (t2 := 46) (xs := #[.string e1.Name, .int .i64 e1.C, .int .i64 e1.T, .int .i64 e1.D, .int .i64 e1.J, .int .i64 e1.O, .int .i64 e1.P]) (ys := #[.string e2.Name, .int .i64 e2.C, .int .i64 e2.T, .int .i64 e2.D, .int .i64 e2.J, .int .i64 e2.O, .int .i64 e2.P]) (r := (STask.eqb e1 e2)) (v := !(STask.eqb e1 e2)) (by kernel_rfl) (by kernel_rfl) (by kernel_rfl) (by kernel_rfl) (by kernel_rfl) rfl ?_
      refine ge_batch [11, 12] (ans := []) (vs := [(34, .bool (!(STask.eqb e1 e2))), (33, .bool (!(STask.eqb e1 e2)))]) (l := []) (by kernel_rfl) trivial ?_
      by_cases hc4 : (STask.eqb e1 e2) = true
      · rw [if_pos hc4] at h
        refine ge_known (t := 34) (b := !(STask.eqb e1 e2)) (c := false) (by kernel_rfl) (congrArg (fun z => !z) hc4) ?_
        refine ge_batch [13, 14, 15, 16, 17] (ans := []) (vs := [(39, .bool (decide ((i1 : Int) ≥ (l1.length : Int)))), (38, .bool (decide ((i1 : Int) ≥ (l1.length : Int)))), (37, .int .i64 (l1.length : Int)), (36, .slice A1 l1.length c1), (35, .int .i64 (i1 : Int))]) (l := []) (by kernel_rfl) trivial ?_
        by_cases hc5 : (i1 : Int) ≥ (l1.length : Int)
        · rw [if_pos hc5] at h
          refine ge_known (t := 39) (b := decide ((i1 : Int) ≥ (l1.length : Int))) (c := true) (by kernel_rfl) (decide_eq_true hc5) ?_
          refine ge_batch [18, 19] (ans := [.val (.string e1.Name), .val (.int .i64 e1.C), .val (.int .i64 e1.T), .val (.int .i64 e1.D), .val (.int .i64 e1.J), .val (.int .i64 e1.O), .val (.int .i64 e1.P), .val (.string x2.Name), .val (.int .i64 x2.C), .val (.int .i64 x2.T), .val (.int .i64 x2.D), .val (.int .i64 x2.J), .val (.int .i64 x2.O), .val (.int .i64 x2.P)]) (vs := [(41, .agg #[.string x2.Name, .int .i64 x2.C, .int .i64 x2.T, .int .i64 x2.D, .int .i64 x2.J, .int .i64 x2.O, .int .i64 x2.P]), (40, .agg #[.string e1.Name, .int .i64 e1.C, .int .i64 e1.T, .int .i64 e1.D, .int .i64 e1.J, .int .i64 e1.O, .int .i64 e1.P])]) (l := [.loaded ⟨b2, 0, none⟩ (.string e1.Name), .loaded ⟨b2, 1, none⟩ (.int .i64 e1.C), .loaded ⟨b2, 2, none⟩ (.int .i64 e1.T), .loaded ⟨b2, 3, none⟩ (.int .i64 e1.D), .loaded ⟨b2, 4, none⟩ (.int .i64 e1.J), .loaded ⟨b2, 5, none⟩ (.int .i64 e1.O), .loaded ⟨b2, 6, none⟩ (.int .i64 e1.P), .loaded ⟨b1, 0, none⟩ (.string x2.Name), .loaded ⟨b1, 1, none⟩ (.int .i64 x2.C), .loaded ⟨b1, 2, none⟩ (.int .i64 x2.T), .loaded ⟨b1, 3, none⟩ (.int .i64 x2.D), .loaded ⟨b1, 4, none⟩ (.int .i64 x2.J), .loaded ⟨b1, 5, none⟩ (.int .i64 x2.O), .loaded ⟨b1, 6, none⟩ (.int .i64 x2.P)]) (by kernel_rfl) ⟨hS5.cell 0 rfl rfl, hS5.cell 0 rfl rfl, hS5.cell 0 rfl rfl, hS5.cell 0 rfl rfl, hS5.cell 0 rfl rfl, hS5.cell 0 rfl rfl, hS5.cell 0 rfl rfl, hS5.cell 1 rfl rfl, hS5.cell 1 rfl rfl, hS5.cell 1 rfl rfl, hS5.cell 1 rfl rfl, hS5.cell 1 rfl rfl, hS5.cell 1 rfl rfl, hS5.cell 1 rfl rfl, trivial⟩ ?_
          refine ge_eqs (d := 42) (ty := 4) (op := .neq) (x := (.tmp 40)) (y := (.tmp 41)) (t := 46) (t2 := 46) (xs := #[.string e1.Name, .int .i64 e1.C, .int .i64 e1.T, .int .i64 e1.D, .int .i64 e1.J, .int .i64 e1.O, .int .i64 e1.P]) (ys := #[.string x2.Name, .int .i64 x2.C, .int .i64 x2.T, .int .i64 x2.D, .int .i64 x2.J, .int .i64 x2.O, .int .i64 x2.P]) (r := (STask.eqb e1 x2)) (v := !(STask.eqb e1 x2)) (by kernel_rfl) (by kernel_rfl) (by kernel_rfl) (by kernel_rfl) (by kernel_rfl) rfl ?_
          refine ge_batch [21, 22] (ans := []) (vs := [(44, .bool (!(STask.eqb e1 x2))), (43, .bool (!(STask.eqb e1 x2)))]) (l := []) (by kernel_rfl) trivial ?_
          refine ge_nil fun a hF => hK9 _ _ ?_ a hF
          by_cases hc6 : (STask.eqb e1 x2) = true
          · rw [if_pos hc6] at h
            refine we_known (t := 44) (b := !(STask.eqb e1 x2)) (v := false) (by kernel_rfl) (congrArg (fun z => !z) hc6) ?_
            refine we_false (by kernel_rfl) ?_
            refine we_skip fun a hF => hK7 _ _ ?_ a hF
            refine we_region [(0, 0), (1, 0)] rfl ?_
            refine ge_addn (d := 45) (ty := 3) (x := (.tmp 17)) (y := (.const (.int .i64 1))) (t := 3) (t2 := 3) (k := .i64) (m := i1) (by kernel_rfl) (by kernel_rfl) (by kernel_rfl) (by have h0 := hR0.small; omega) ?_
            refine ge_batch [1] (ans := []) (vs := [(17, .int .i64 ((i1 + 1 : Nat) : Int))]) (l := []) (by kernel_rfl) trivial ?_
            have hS6 := hS5.bring 1 rfl
            have hS7 := hS6.takeN 1
            obtain rfl := Option.some.inj h
            exact ge_nil fun a hF => hQ _ _ _ (Outs.again ⟨hS7, hF.weaken ⟨by kernel_rfl, by kernel_rfl, by kernel_rfl, by kernel_rfl, by kernel_rfl, trivial⟩⟩)
          · rw [if_neg hc6] at h
            refine we_known (t := 44) (b := !(STask.eqb e1 x2)) (v := true) (by kernel_rfl) (congrArg (fun z => !z) (Bool.eq_false_iff.2 hc6)) ?_
            refine we_true (by kernel_rfl) ?_
            refine we_seq fun K10 hK10 => ?_
            refine we_region [(0, 0)] rfl ?_
            refine ge_batch [0] (ans := []) (vs := [(6, .bool false)]) (l := []) (by kernel_rfl) trivial ?_
            refine ge_nil fun a hF => hK10 _ _ ?_ a hF
            have hS8 := hS5.takeN 0
            obtain rfl := Option.some.inj h
            exact we_ret fun a hF => hQ _ _ _ (Outs.out nofun (Exits.on ⟨rfl, (post_ret (rs := [.tmp 6]) (ans := []) (vs := [.bool false]) (l := []) rfl (by kernel_rfl) trivial ⟨rfl, hS8⟩) a hF⟩))
        · rw [if_neg hc5] at h
          refine ge_known (t := 39) (b := decide ((i1 : Int) ≥ (l1.length : Int))) (c := false) (by kernel_rfl) (decide_eq_false hc5) ?_
          refine ge_batch [18, 19, 20, 21, 22] (ans := []) (vs := [(44, .bool false), (43, .bool false), (42, undef), (41, undef), (40, undef)]) (l := []) (by kernel_rfl) trivial ?_
          refine ge_nil fun a hF => hK9 _ _ ?_ a hF
          refine we_false (by kernel_rfl) ?_
          refine we_skip fun a hF => hK7 _ _ ?_ a hF
          refine we_region [(0, 0), (1, 0)] rfl ?_
          refine ge_addn (d := 45) (ty := 3) (x := (.tmp 17)) (y := (.const (.int .i64 1))) (t := 3) (t2 := 3) (k := .i64) (m := i1) (by kernel_rfl) (by kernel_rfl) (by kernel_rfl) (by have h0 := hR0.small; omega) ?_
          refine ge_batch [1] (ans := []) (vs := [(17, .int .i64 ((i1 + 1 : Nat) : Int))]) (l := []) (by kernel_rfl) trivial ?_
          have hS9 := hS5.bring 1 rfl
          have hS10 := hS9.takeN 1
          obtain rfl := Option.some.inj h
          exact ge_nil fun a hF => hQ _ _ _ (Outs.again ⟨hS10, hF.weaken ⟨by kernel_rfl, by kernel_rfl, by kernel_rfl, by kernel_rfl, by kernel_rfl, trivial⟩⟩)
      · rw [if_neg hc4] at h
        refine ge_known (t := 34) (b := !(STask.eqb e1 e2)) (c := true) (by kernel_rfl) (congrArg (fun z => !z) (Bool.eq_false_iff.2 hc4)) ?_
        refine ge_batch [13, 14, 15, 16, 17, 18, 19, 20, 21, 22] (ans := []) (vs := [(44, .bool true), (43, undef), (42, undef), (41, undef), (40, undef), (39, undef), (38, undef), (37, undef), (36, undef), (35, undef)]) (l := []) (by kernel_rfl) trivial ?_
        refine ge_nil fun a hF => hK9 _ _ ?_ a hF
        refine we_true (by kernel_rfl) ?_
        refine we_seq fun K11 hK11 => ?_
        refine we_region [(0, 0)] rfl ?_
        refine ge_batch [0] (ans := []) (vs := [(6, .bool false)]) (l := []) (by kernel_rfl) trivial ?_
        refine ge_nil fun a hF => hK11 _ _ ?_ a hF
        have hS11 := hS5.takeN 0
        obtain rfl := Option.some.inj h
        exact we_ret fun a hF => hQ _ _ _ (Outs.out nofun (Exits.on ⟨rfl, (post_ret (rs := [.tmp 6]) (ans := []) (vs := [.bool false]) (l := []) rfl (by kernel_rfl) trivial ⟨rfl, hS11⟩) a hF⟩))
    · rw [if_neg hc3] at h
      refine ge_known (t := 26) (b := decide ((i1 : Int) < (l1.length : Int))) (c := false) (by kernel_rfl) (decide_eq_false hc3) ?_
      refine ge_batch [5, 6, 7, 8, 9, 10, 11, 12, 13, 14, 15, 16, 17] (ans := []) (vs := [(39, .bool (decide ((i1 : Int) ≥ (l1.length : Int)))), (38, .bool (decide ((i1 : Int) ≥ (l1.length : Int)))), (37, .int .i64 (l1.length : Int)), (36, .slice A1 l1.length c1), (35, .int .i64 (i1 : Int)), (34, .bool false), (33, .bool false), (32, undef), (31, undef), (30, undef), (29, undef), (28, undef), (27, undef)]) (l := []) (by kernel_rfl) trivial ?_
      by_cases hc7 : (i1 : Int) ≥ (l1.length : Int)
      · rw [if_pos hc7] at h
        refine ge_known (t := 39) (b := decide ((i1 : Int) ≥ (l1.length : Int))) (c := true) (by kernel_rfl) (decide_eq_true hc7) ?_
        refine ge_batch [18, 19] (ans := [.val (.string e1.Name), .val (.int .i64 e1.C), .val (.int .i64 e1.T), .val (.int .i64 e1.D), .val (.int .i64 e1.J), .val (.int .i64 e1.O), .val (.int .i64 e1.P), .val (.string x2.Name), .val (.int .i64 x2.C), .val (.int .i64 x2.T), .val (.int .i64 x2.D), .val (.int .i64 x2.J), .val (.int .i64 x2.O), .val (.int .i64 x2.P)]) (vs := [(41, .agg #[.string x2.Name, .int .i64 x2.C, .int .i64 x2.T, .int .i64 x2.D, .int .i64 x2.J, .int .i64 x2.O, .int .i64 x2.P]), (40, .agg #[.string e1.Name, .int .i64 e1.C, .int .i64 e1.T, .int .i64 e1.D, .int .i64 e1.J, .int .i64 e1.O, .int .i64 e1.P])]) (l := [.loaded ⟨b2, 0, none⟩ (.string e1.Name), .loaded ⟨b2, 1, none⟩ (.int .i64 e1.C), .loaded ⟨b2, 2, none⟩ (.int .i64 e1.T), .loaded ⟨b2, 3, none⟩ (.int .i64 e1.D), .loaded ⟨b2, 4, none⟩ (.int .i64 e1.J), .loaded ⟨b2, 5, none⟩ (.int .i64 e1.O), .loaded ⟨b2, 6, none⟩ (.int .i64 e1.P), .loaded ⟨b1, 0, none⟩ (.string x2.Name), .loaded ⟨b1, 1, none⟩ (.int .i64 x2.C), .loaded ⟨b1, 2, none⟩ (.int .i64 x2.T), .loaded ⟨b1, 3, none⟩ (.int .i64 x2.D), .loaded ⟨b1, 4, none⟩ (.int .i64 x2.J), .loaded ⟨b1, 5, none⟩ (.int .i64 x2.O), .loaded ⟨b1, 6, none⟩ (.int .i64 x2.P)]) (by kernel_rfl) ⟨hS5.cell 0 rfl rfl, hS5.cell 0 rfl rfl, hS5.cell 0 rfl rfl, hS5.cell 0 rfl rfl, hS5.cell 0 rfl rfl, hS5.cell 0 rfl rfl, hS5.cell 0 rfl rfl, hS5.cell 1 rfl rfl, hS5.cell 1 rfl rfl, hS5.cell 1 rfl rfl, hS5.cell 1 rfl rfl, hS5.cell 1 rfl rfl, hS5.cell 1 rfl rfl, hS5.cell 1 rfl rfl, trivial⟩ ?_
        refine ge_eqs (d := 42) (ty := 4) (op := .neq) (x := (.tmp 40)) (y := (.tmp 41)) (t := 46) (t2 := 46) (xs := #[.string e1.Name, .int .i64 e1.C, .int .i64 e1.T, .int .i64 e1.D, .int .i64 e1.J, .int .i64 e1.O, .int .i64 e1.P]) (ys := #[.string x2.Name, .int .i64 x2.C, .int .i64 x2.T, .int .i64 x2.D, .int .i64 x2.J, .int .i64 x2.O, .int .i64 x2.P]) (r := (STask.eqb e1 x2)) (v := !(STask.eqb e1 x2)) (by kernel_rfl) (by kernel_rfl) (by kernel_rfl) (by kernel_rfl) (by kernel_rfl) rfl ?_
        refine ge_batch [21, 22] (ans := []) (vs := [(44, .bool (!(STask.eqb e1 x2))), (43, .bool (!(STask.eqb e1 x2)))]) (l := []) (by kernel_rfl) trivial ?_
        refine ge_nil fun a hF => hK9 _ _ ?_ a hF
        by_cases hc8 : (STask.eqb e1 x2) = true
        · rw [if_pos hc8] at h
          refine we_known (t := 44) (b := !(STask.eqb e1 x2)) (v := false) (by kernel_rfl) (congrArg (fun z => !z) hc8) ?_
          refine we_false (by kernel_rfl) ?_
          refine we_skip fun a hF => hK7 _ _ ?_ a hF
          refine we_region [(0, 0), (1, 0)] rfl ?_
          refine ge_addn (d := 45) (ty := 3) (x := (.tmp 17)) (y := (.const (.int .i64 1))) (t := 3) (t2 := 3) (k := .i64) (m := i1) (by kernel_rfl) (by kernel_rfl) (by kernel_rfl) (by have h0 := hR0.small; omega) ?_
          refine ge_batch [1] (ans := []) (vs := [(17, .int .i64 ((i1 + 1 : Nat) : Int))]) (l := []) (by kernel_rfl) trivial ?_
          have hS12 := hS5.bring 1 rfl
          have hS13 := hS12.takeN 1
          obtain rfl := Option.some.inj h
          exact ge_nil fun a hF => hQ _ _ _ (Outs.again ⟨hS13, hF.weaken ⟨by kernel_rfl, by kernel_rfl, by kernel_rfl, by kernel_rfl, by kernel_rfl, trivial⟩⟩)
        · rw [if_neg hc8] at h
          refine we_known (t := 44) (b := !(STask.eqb e1 x2)) (v := true) (by kernel_rfl) (congrArg (fun z => !z) (Bool.eq_false_iff.2 hc8)) ?_
          refine we_true (by kernel_rfl) ?_
          refine we_seq fun K12 hK12 => ?_
          refine we_region [(0, 0)] rfl ?_
          refine ge_batch [0] (ans := []) (vs := [(6, .bool false)]) (l := []) (by kernel_rfl) trivial ?_
          refine ge_nil fun a hF => hK12 _ _ ?_ a hF
          have hS14 := hS5.takeN 0
          obtain rfl := Option.some.inj h
          exact we_ret fun a hF => hQ _ _ _ (Outs.out nofun (Exits.on ⟨rfl, (post_ret (rs := [.tmp 6]) (ans := []) (vs := [.bool false]) (l := []) rfl (by kernel_rfl) trivial ⟨rfl, hS14⟩) a hF⟩))
      · rw [if_neg hc7] at h
        refine ge_known (t := 39) (b := decide ((i1 : Int) ≥ (l1.length : Int))) (c := false) (by kernel_rfl) (decide_eq_false hc7) ?_
        refine ge_batch [18, 19, 20, 21, 22] (ans := []) (vs := [(44, .bool false), (43, .bool false), (42, undef), (41, undef), (40, undef)]) (l := []) (by kernel_rfl) trivial ?_
        refine ge_nil fun a hF => hK9 _ _ ?_ a hF
        refine we_false (by kernel_rfl) ?_
        refine we_skip fun a hF => hK7 _ _ ?_ a hF
        refine we_region [(0, 0), (1, 0)] rfl ?_
        refine ge_addn (d := 45) (ty := 3) (x := (.tmp 17)) (y := (.const (.int .i64 1))) (t := 3) (t2 := 3) (k := .i64) (m := i1) (by kernel_rfl) (by kernel_rfl) (by kernel_rfl) (by have h0 := hR0.small; omega) ?_
        refine ge_batch [1] (ans := []) (vs := [(17, .int .i64 ((i1 + 1 : Nat) : Int))]) (l := []) (by kernel_rfl) trivial ?_
        have hS15 := hS5.bring 1 rfl
        have hS16 := hS15.takeN 1
        obtain rfl := Option.some.inj h
        exact ge_nil fun a hF => hQ _ _ _ (Outs.again ⟨hS16, hF.weaken ⟨by kernel_rfl, by kernel_rfl, by kernel_rfl, by kernel_rfl, by kernel_rfl, trivial⟩⟩)
  · rw [if_neg hc2] at h
    refine we_known (t := 18) (b := decide ((i1 : Int) < (f0.length : Int))) (v := false) (by kernel_rfl) (decide_eq_false hc2) ?_
    refine we_false (by kernel_rfl) ?_
    have hS17 := hS.takeN 0
    obtain rfl := Option.some.inj h
    exact we_exit fun a hF => hQ _ _ _ (Outs.out nofun (Exits.here ⟨hS17, hF.weaken trivial⟩))
theorem punctualsame_Still_api_Task_ok (K : Nat) (f0 : List STask) (A0 : Option Addr) (n0 : Nat) (c0 : Nat) (l1 : List STask) (A1 : Option Addr) (c1 : Nat) (x2 : STask) (w0 : World) (hR0 : RdL w0 A0 f0) (hc0 : f0.length ≤ c0) (hR1 : RdL w0 A1 l1) (hL1 : l1.length ≤ c1) (r : Bool) (h : punctualsame_Still_api_Task.f K f0 l1 x2 = some r) :
    Calls Tryd.prog 24 #[.slice A0 n0 c0, .slice A1 l1.length c1, .agg #[.string x2.Name, .int .i64 x2.C, .int .i64 x2.T, .int .i64 x2.D, .int .i64 x2.J, .int .i64 x2.O, .int .i64 x2.P]] w0 (punctualsame_Still_api_Task.Post w0 r) := by
  have hS := St.start w0
  unfold punctualsame_Still_api_Task.f at h
  refine calls_enter (n := 46) (args := [.slice A0 n0 c0, .slice A1 l1.length c1, .agg #[.string x2.Name, .int .i64 x2.C, .int .i64 x2.T, .int .i64 x2.D, .int .i64 x2.J, .int .i64 x2.O, .int .i64 x2.P]]) (fn := Tryd.f24) rfl rfl rfl rfl ?_
  show WE _ _ _ _ [(0, .slice A0 n0 c0), (1, .slice A1 l1.length c1), (2, .agg #[.string x2.Name, .int .i64 x2.C, .int .i64 x2.T, .int .i64 x2.D, .int .i64 x2.J, .int .i64 x2.O, .int .i64 x2.P])] _
  refine we_seq fun K1 hK1 => ?_
  refine we_region [(0, 1), (1, 0)] rfl ?_
  refine ge_new (d := some 5) (o := .cells #[.string x2.Name, .int .i64 x2.C, .int .i64 x2.T, .int .i64 x2.D, .int .i64 x2.J, .int .i64 x2.O, .int .i64 x2.P] 46) (v := fun b => .pointer (some ⟨b, 0, none⟩)) hS (fun b => by kernel_rfl) fun b1 w1 hx1 hS1 => ?_
  refine ge_batch [1] (ans := []) (vs := [(6, .bool false)]) (l := []) (by kernel_rfl) trivial ?_
  refine ge_nil fun a hF => hK1 _ _ ?_ a hF
  refine we_seq fun K2 hK2 => ?_
  refine we_region [(0, 0), (1, 0), (2, 0), (3, 0), (4, 0), (5, 0)] rfl ?_
  refine ge_batch [0, 1, 2, 3] (ans := []) (vs := [(13, .int .i64 (IntKind.i64.wrap ((l1.length : Int) + 3))), (12, .int .i64 (l1.length : Int)), (11, .slice A1 l1.length c1), (10, .slice A0 n0 c0)]) (l := []) (by kernel_rfl) trivial ?_
  by_cases hc1 : (IntKind.i64.wrap ((l1.length : Int) + 3)) = (f0.length : Int)
  · rw [if_pos hc1] at h
    refine ge_sliceHi (d := 14) (ty := 40) (t := 40) (el := 46) (sz := 7) (m := n0) (c := c0) (hn := f0.length) (x := (.tmp 10)) (y := (.tmp 13)) (A := A0) (k' := .i64) (hi := (IntKind.i64.wrap ((l1.length : Int) + 3))) (by kernel_rfl) (by kernel_rfl) (by kernel_rfl) hc1 (by kernel_rfl) (by kernel_rfl) hc0 ?_
    refine ge_batch [5] (ans := []) (vs := [(7, .slice A0 f0.length c0)]) (l := []) (by kernel_rfl) trivial ?_
    refine ge_nil fun a hF => hK2 _ _ ?_ a hF
    refine we_seq fun K3 hK3 => ?_
    refine we_seq fun K4 hK4 => ?_
    refine we_region [(0, 0), (1, 0), (2, 0)] rfl ?_
    refine ge_batch [0, 1, 2] (ans := []) (vs := [(17, .int .i64 0), (16, .int .i64 (f0.length : Int)), (15, .slice A0 f0.length c0)]) (l := []) (by kernel_rfl) trivial ?_
    refine ge_nil fun a hF => hK4 _ _ ?_ a hF
    refine we_block ?_
    rcases hq1 : iter (punctualsame_Still_api_Task.r0 f0 l1 x2) K 0 with _ | (_ | rr1)
    · rw [hq1] at h; cases h
    · rw [hq1] at h
      simp only [] at h
      refine we_iter (A := punctualsame_Still_api_Task.A0 K w0 f0 A0 n0 c0 l1 A1 c1 x2 hR0 hc0 hR1 hL1 b1 hc1) (B := punctualsame_Still_api_Task.B0 K w0 f0 A0 n0 c0 l1 A1 c1 x2 hR0 hc0 hR1 hL1 b1 hc1) hq1 (fun a hF => ⟨hS1, hF.weaken ⟨by kernel_rfl, by kernel_rfl, by kernel_rfl, by kernel_rfl, by kernel_rfl, trivial⟩⟩) (fun s o hf a w hA Q hQ => punctualsame_Still_api_Task_r0 K w0 f0 A0 n0 c0 l1 A1 c1 x2 hR0 hc0 hR1 hL1 b1 hc1 s o hf a w hA Q hQ) ?_
      rintro _ a w4 _ ⟨rfl, hS18, hF⟩
      replace hS18 : St w0 w4 [] := hS18
      refine hK3 [] w4 ?_ a hF
      refine we_seq fun K13 hK13 => ?_
      refine we_region [(0, 0)] rfl ?_
      refine ge_batch [0] (ans := []) (vs := [(6, .bool true)]) (l := []) (by kernel_rfl) trivial ?_
      refine ge_nil fun a hF => hK13 _ _ ?_ a hF
      obtain rfl := Option.some.inj h
      exact we_ret (post_ret (rs := [.tmp 6]) (ans := []) (vs := [.bool true]) (l := []) rfl (by kernel_rfl) trivial ⟨rfl, hS18⟩)
    · rw [hq1] at h
      simp only [] at h
      refine we_iter (A := punctualsame_Still_api_Task.A0 K w0 f0 A0 n0 c0 l1 A1 c1 x2 hR0 hc0 hR1 hL1 b1 hc1) (B := punctualsame_Still_api_Task.B0 K w0 f0 A0 n0 c0 l1 A1 c1 x2 hR0 hc0 hR1 hL1 b1 hc1) hq1 (fun a hF => ⟨hS1, hF.weaken ⟨by kernel_rfl, by kernel_rfl, by kernel_rfl, by kernel_rfl, by kernel_rfl, trivial⟩⟩) (fun s o hf a w hA Q hQ => punctualsame_Still_api_Task_r0 K w0 f0 A0 n0 c0 l1 A1 c1 x2 hR0 hc0 hR1 hL1 b1 hc1 s o hf a w hA Q hQ) ?_
      rintro _ a w1 _ ⟨rfl, hb⟩
      obtain rfl := Option.some.inj h
      exact hb
  · rw [if_neg hc1] at h
    cases h

/-! punctual/punctualsame.Still[punctual/api.Come] -/
abbrev punctualsame_Still_api_Come.Post (w0 : World) (r : Bool) (e : Ending) (w : World) : Prop := e = .returned (.bool r) ∧ St w0 w []
def punctualsame_Still_api_Come.r0 (f0 : List SCome) (l1 : List SCome) (x2 : SCome) : Nat → Option (Nat ⊕ (Unit ⊕ Bool))
  | i1 =>
    if (i1 : Int) < (f0.length : Int) then
      match f0[i1]? with
      | none => none
      | some e1 =>
        if (i1 : Int) < (l1.length : Int) then
          match l1[i1]? with
          | none => none
          | some e2 =>
            if (SCome.eqb e1 e2) = true then
              if (i1 : Int) ≥ (l1.length : Int) then
                if (SCome.eqb e1 x2) = true then
                  some (.inl (i1 + 1))
                else
                  some (.inr (.inr false))
              else
                some (.inl (i1 + 1))
            else
              some (.inr (.inr false))
        else
          if (i1 : Int) ≥ (l1.length : Int) then
            if (SCome.eqb e1 x2) = true then
              some (.inl (i1 + 1))
            else
              some (.inr (.inr false))
          else
            some (.inl (i1 + 1))
    else
      some (.inr (.inl ()))
def punctualsame_Still_api_Come.f (K : Nat) (f0 : List SCome) (l1 : List SCome) (x2 : SCome) : Option Bool :=
  if (IntKind.i64.wrap ((l1.length : Int) + 3)) = (f0.length : Int) then
    match iter (punctualsame_Still_api_Come.r0 f0 l1 x2) K 0 with
    | none => none
    | some (.inl _) =>
      some true
    | some (.inr rr1) =>
      some rr1
  else
    none
abbrev punctualsame_Still_api_Come.A0 (K : Nat) (w0 : World) (f0 : List SCome) (A0 : Option Addr) (n0 : Nat) (c0 : Nat) (l1 : List SCome) (A1 : Option Addr) (c1 : Nat) (x2 : SCome) (hR0 : RdL w0 A0 f0) (hc0 : f0.length ≤ c0) (hR1 : RdL w0 A1 l1) (hL1 : l1.length ≤ c1) (b1 : Nat) (hc1 : (IntKind.i64.wrap ((l1.length : Int) + 3)) = (f0.length : Int)) : Nat → Act → World → Prop := fun (s : Nat) a w => St w0 w [Own.blk b1 (.cells #[.int .i64 x2.Task, .int .i64 x2.At] 53 (0, 0))] ∧ Frm 46 a [(1, .slice A1 l1.length c1), (5, .pointer (some ⟨b1, 0, none⟩)), (15, .slice A0 f0.length c0), (16, .int .i64 (f0.length : Int)), (17, .int .i64 (s : Int))]
abbrev punctualsame_Still_api_Come.B0 (K : Nat) (w0 : World) (f0 : List SCome) (A0 : Option Addr) (n0 : Nat) (c0 : Nat) (l1 : List SCome) (A1 : Option Addr) (c1 : Nat) (x2 : SCome) (hR0 : RdL w0 A0 f0) (hc0 : f0.length ≤ c0) (hR1 : RdL w0 A1 l1) (hL1 : l1.length ≤ c1) (b1 : Nat) (hc1 : (IntKind.i64.wrap ((l1.length : Int) + 3)) = (f0.length : Int)) : (Unit ⊕ Bool) → Exit → Act → World → Prop := Exits 0 (fun (s : Unit) a w => St w0 w [] ∧ Frm 46 a []) (Rets Tryd.prog Tryd.f30 (punctualsame_Still_api_Come.Post w0))
theorem punctualsame_Still_api_Come_r0 (K : Nat) (w0 : World) (f0 : List SCome) (A0 : Option Addr) (n0 : Nat) (c0 : Nat) (l1 : List SCome) (A1 : Option Addr) (c1 : Nat) (x2 : SCome) (hR0 : RdL w0 A0 f0) (hc0 : f0.length ≤ c0) (hR1 : RdL w0 A1 l1) (hL1 : l1.length ≤ c1) (b1 : Nat) (hc1 : (IntKind.i64.wrap ((l1.length : Int) + 3)) = (f0.length : Int)) (s : Nat) (o : Nat ⊕ (Unit ⊕ Bool)) (h : punctualsame_Still_api_Come.r0 f0 l1 x2 s = some o) (a : Act) (w : World) (hA : punctualsame_Still_api_Come.A0 K w0 f0 A0 n0 c0 l1 A1 c1 x2 hR0 hc0 hR1 hL1 b1 hc1 s a w) (Q : Exit → Act → World → Prop) (hQ : ∀ x a w, Outs (punctualsame_Still_api_Come.A0 K w0 f0 A0 n0 c0 l1 A1 c1 x2 hR0 hc0 hR1 hL1 b1 hc1) (punctualsame_Still_api_Come.B0 K w0 f0 A0 n0 c0 l1 A1 c1 x2 hR0 hc0 hR1 hL1 b1 hc1) o x a w → Q x a w) : (subF Tryd.f30 [1, 1, 0, 1, 0, 0]).wp Tryd.prog Q a w := by
  obtain ⟨i1, hs⟩ : ∃ z, z = s := ⟨s, rfl⟩
  subst hs
  obtain ⟨hS, hF⟩ := hA
  replace hS : St w0 w [Own.blk b1 (.cells #[.int .i64 x2.Task, .int .i64 x2.At] 53 (0, 0))] := hS
  simp only [punctualsame_Still_api_Come.r0] at h
  refine (?_ : WE Tryd.prog 46 (subF Tryd.f30 [1, 1, 0, 1, 0, 0]) Q [(1, .slice A1 l1.length c1), (5, .pointer (some ⟨b1, 0, none⟩)), (15, .slice A0 f0.length c0), (16, .int .i64 (f0.length : Int)), (17, .int .i64 (i1 : Int))] w) a hF
  clear hF a
  refine we_seq fun K5 hK5 => ?_
  refine we_region [(0, 0)] rfl ?_
  refine ge_batch [0] (ans := []) (vs := [(18, .bool (decide ((i1 : Int) < (f0.length : Int))))]) (l := []) (by kernel_rfl) trivial ?_
  refine ge_nil fun a hF => hK5 _ _ ?_ a hF
  refine we_seq fun K6 hK6 => ?_
  by_cases hc2 : (i1 : Int) < (f0.length : Int)
  · rw [if_pos hc2] at h
    refine we_known (t := 18) (b := decide ((i1 : Int) < (f0.length : Int))) (v := true) (by kernel_rfl) (decide_eq_true hc2) ?_
    refine we_true (by kernel_rfl) ?_
    refine we_skip fun a hF => hK6 _ _ ?_ a hF
    refine we_seq fun K7 hK7 => ?_
    refine we_block ?_
    refine we_seq fun K8 hK8 => ?_
    refine we_region [(0, 0), (1, 0), (2, 0), (3, 1), (4, 0), (5, 2)] rfl ?_
    refine ge_batch [0] (ans := []) (vs := [(19, .int .i64 (i1 : Int))]) (l := []) (by kernel_rfl) trivial ?_
    rcases hx2 : f0[i1]? with _ | e1
    · rw [hx2] at h; cases h
    rw [hx2] at h
    simp only [] at h
    refine ge_index (d := 20) (ty := 0) (t := 49) (el := 53) (sz := 2) (m := f0.length) (c := c0) (x := (.tmp 15)) (y := (.tmp 17)) (A := A0) (k' := .i64) (j := (i1 : Int)) (jn := i1) (b0 := blkOf A0) (o0 := offOf A0) (by kernel_rfl) (by kernel_rfl) (by kernel_rfl) (by kernel_rfl) (by kernel_rfl) ((hS.rd hR0).eqSome (pos_of_get hx2)) rfl (lt_of_get hx2) ?_
    refine ge_batch [2] (ans := [.val (.int .i64 e1.Task), .val (.int .i64 e1.At)]) (vs := [(21, .agg #[.int .i64 e1.Task, .int .i64 e1.At])]) (l := [.loaded ⟨blkOf A0, offOf A0 + i1 * 2, none⟩ (.int .i64 e1.Task), .loaded ⟨blkOf A0, offOf A0 + i1 * 2 + 1, none⟩ (.int .i64 e1.At)]) (by kernel_rfl) ⟨RdL.cell (j := 0) (hS.rd hR0) hx2 rfl, RdL.cell (j := 1) (hS.rd hR0) hx2 rfl, trivial⟩ ?_
    refine ge_new (d := some 9) (o := .cells #[.int .i64 0, .int .i64 0] 53) (v := fun b => .pointer (some ⟨b, 0, none⟩)) hS (fun b => by kernel_rfl) fun b2 w2 hx3 hS2 => ?_
    refine ge_batch [4] (ans := []) (vs := [(8, .int .i64 (i1 : Int))]) (l := []) (by kernel_rfl) trivial ?_
    refine ge_set (b := b2) (j := 0) (cs := #[.int .i64 0, .int .i64 0]) (t := 53) (vs := [.int .i64 e1.Task, .int .i64 e1.At]) hS2 (by kernel_rfl) rfl rfl fun w3 hS3 => ?_
    have hS4 : St w0 w3 [Own.blk b2 (.cells #[.int .i64 e1.Task, .int .i64 e1.At] 53 (0, 0)), Own.blk b1 (.cells #[.int .i64 x2.Task, .int .i64 x2.At] 53 (0, 0))] := hS3
    refine ge_nil fun a hF => hK8 _ _ ?_ a hF
    refine we_seq fun K9 hK9 => ?_
    refine we_draws (by kernel_rfl) [(0, 0), (1, 0), (2, 0), (3, 0), (4, 0), (5, 0), (6, 0), (7, 0), (8, 0), (9, 0), (10, 0), (11, 0), (12, 0), (13, 0), (14, 0), (15, 0), (16, 0), (17, 0), (18, 0), (19, 0), (20, 0), (21, 0), (22, 0)] (by kernel_rfl) ?_
    have hS5 := hS4.drew
    refine ge_batch [0, 1, 2, 3, 4] (ans := []) (vs := [(26, .bool (decide ((i1 : Int) < (l1.length : Int)))), (25, .bool (decide ((i1 : Int) < (l1.length : Int)))), (24, .int .i64 (l1.length : Int)), (23, .slice A1 l1.length c1), (22, .int .i64 (i1 : Int))]) (l := []) (by kernel_rfl) trivial ?_
    by_cases hc3 : (i1 : Int) < (l1.length : Int)
    · rw [if_pos hc3] at h
      refine ge_known (t := 26) (b := decide ((i1 : Int) < (l1.length : Int))) (c := true) (by kernel_rfl) (decide_eq_true hc3) ?_
      refine ge_batch [5, 6, 7] (ans := [.val (.int .i64 e1.Task), .val (.int .i64 e1.At)]) (vs := [(29, .int .i64 (i1 : Int)), (28, .slice A1 l1.length c1), (27, .agg #[.int .i64 e1.Task, .int .i64 e1.At])]) (l := [.loaded ⟨b2, 0, none⟩ (.int .i64 e1.Task), .loaded ⟨b2, 1, none⟩ (.int .i64 e1.At)]) (by kernel_rfl) ⟨hS5.cell 0 rfl rfl, hS5.cell 0 rfl rfl, trivial⟩ ?_
      rcases hx4 : l1[i1]? with _ | e2
      · rw [hx4] at h; cases h
      rw [hx4] at h
      simp only [] at h
      refine ge_index (d := 30) (ty := 0) (t := 49) (el := 53) (sz := 2) (m := l1.length) (c := c1) (x := (.tmp 28)) (y := (.tmp 29)) (A := A1) (k' := .i64) (j := (i1 : Int)) (jn := i1) (b0 := blkOf A1) (o0 := offOf A1) (by kernel_rfl) (by kernel_rfl) (by kernel_rfl) (by kernel_rfl) (by kernel_rfl) ((hS5.rd hR1).eqSome (pos_of_get hx4)) rfl (lt_of_get hx4) ?_
      refine ge_batch [9] (ans := [.val (.int .i64 e2.Task), .val (.int .i64 e2.At)]) (vs := [(31, .agg #[.int .i64 e2.Task, .int .i64 e2.At])]) (l := [.loaded ⟨blkOf A1, offOf A1 + i1 * 2, none⟩ (.int .i64 e2.Task), .loaded ⟨blkOf A1, offOf A1 + i1 * 2 + 1, none⟩ (.int .i64 e2.At)]) (by kernel_rfl) ⟨RdL.cell (j := 0) (hS5.rd hR1) hx4 rfl, RdL.cell (j := 1) (hS5.rd hR1) hx4 rfl, trivial⟩ ?_
      refine ge_eqs (d := 32) (ty := 4) (op := .neq) (x := (.tmp 27)) (y := (.tmp 31)) (t := 53) (t2 := 53) (xs := #[.int .i64 e1.Task, .int .i64 e1.At]) (ys := #[.int .i64 e2.Task, .int .i64 e2.At]) (r := (SCome.eqb e1 e2)) (v := !(SCome.eqb e1 e2)) (by kernel_rfl) (by kernel_rfl) (by kernel_rfl) (by kernel_rfl) (by kernel_rfl) rfl ?_
      refine ge_batch [11, 12] (ans := []) (vs := [(34, .bool (!(SCome.eqb e1 e2))), (33, .bool (!(SCome.eqb e1 e2)))]) (l := []) (by kernel_rfl) trivial ?_
      by_cases hc4 : (SCome.eqb e1 e2) = true
      · rw [if_pos hc4] at h
        refine ge_known (t := 34) (b := !(SCome.eqb e1 e2)) (c := false) (by kernel_rfl) (congrArg (fun z => !z) hc4) ?_
        refine ge_batch [13, 14, 15, 16, 17] (ans := []) (vs := [(39, .bool (decide ((i1 : Int) ≥ (l1.length : Int)))), (38, .bool (decide ((i1 : Int) ≥ (l1.length : Int)))), (37, .int .i64 (l1.length : Int)), (36, .slice A1 l1.length c1), (35, .int .i64 (i1 : Int))]) (l := []) (by kernel_rfl) trivial ?_
        by_cases hc5 : (i1 : Int) ≥ (l1.length : Int)
        · rw [if_pos hc5] at h
          refine ge_known (t := 39) (b := decide ((i1 : Int) ≥ (l1.length : Int))) (c := true) (by kernel_rfl) (decide_eq_true hc5) ?_
          refine ge_batch [18, 19] (ans := [.val (.int .i64 e1.Task), .val (.int .i64 e1.At), .val (.int .i64 x2.Task), .val (.int .i64 x2.At)]) (vs := [(41, .agg #[.int .i64 x2.Task, .int .i64 x2.At]), (40, .agg #[.int .i64 e1.Task, .int .i64 e1.At])]) (l := [.loaded ⟨b2, 0, none⟩ (.int .i64 e1.Task), .loaded ⟨b2, 1, none⟩ (.int .i64 e1.At), .loaded ⟨b1, 0, none⟩ (.int .i64 x2.Task), .loaded ⟨b1, 1, none⟩ (.int .i64 x2.At)]) (by kernel_rfl) ⟨hS5.cell 0 rfl rfl, hS5.cell 0 rfl rfl, hS5.cell 1 rfl rfl, hS5.cell 1 rfl rfl, trivial⟩ ?_
          refine ge_eqs (d := 42) (ty := 4) (op := .neq) (x := (.tmp 40)) (y := (.tmp 41)) (t := 53) (t2 := 53) (xs := #[.int .i64 e1.Task, .int .i64 e1.At]) (ys := #[.int .i64 x2.Task, .int .i64 x2.At]) (r := (SCome.eqb e1 x2)) (v := !(SCome.eqb e1 x2)) (by kernel_rfl) (by kernel_rfl) (by kernel_rfl) (by kernel_rfl) (by kernel_rfl) rfl ?_
          refine ge_batch [21, 22] (ans := []) (vs := [(44, .bool (!(SCome.eqb e1 x2))), (43, .bool (!(SCome.eqb e1 x2)))]) (l := []) (by kernel_rfl) trivial ?_
          refine ge_nil fun a hF => hK9 _ _ ?_ a hF
          by_cases hc6 : (SCome.eqb e1 x2) = true
          · rw [if_pos hc6] at h
            refine we_known (t := 44) (b := !(SCome.eqb e1 x2)) (v := false) (by kernel_rfl) (congrArg (fun z => !z) hc6) ?_
            refine we_false (by kernel_rfl) ?_
            refine we_skip fun a hF => hK7 _ _ ?_ a hF
            refine we_region [(0, 0), (1, 0)] rfl ?_
            refine ge_addn (d := 45) (ty := 3) (x := (.tmp 17)) (y := (.const (.int .i64 1))) (t := 3) (t2 := 3) (k := .i64) (m := i1) (by kernel_rfl) (by kernel_rfl) (by kernel_rfl) (by have h0 := hR0.small; omega) ?_
            refine ge_batch [1] (ans := []) (vs := [(17, .int .i64 ((i1 + 1 : Nat) : Int))]) (l := []) (by kernel_rfl) trivial ?_
            have hS6 := hS5.bring 1 rfl
            have hS7 := hS6.takeN 1
            obtain rfl := Option.some.inj h
            exact ge_nil fun a hF => hQ _ _ _ (Outs.again ⟨hS7, hF.weaken ⟨by kernel_rfl, by kernel_rfl, by kernel_rfl, by kernel_rfl, by kernel_rfl, trivial⟩⟩)
          · rw [if_neg hc6] at h
            refine we_known (t := 44) (b := !(SCome.eqb e1 x2)) (v := true) (by kernel_rfl) (congrArg (fun z => !z) (Bool.eq_false_iff.2 hc6)) ?_
            refine we_true (by kernel_rfl) ?_
            refine we_seq fun K10 hK10 => ?_
            refine we_region [(0, 0)] rfl ?_
            refine ge_batch [0] (ans := []) (vs := [(6, .bool false)]) (l := []) (by kernel_rfl) trivial ?_
            refine ge_nil fun a hF => hK10 _ _ ?_ a hF
            have hS8 := hS5.takeN 0
            obtain rfl := Option.some.inj h
            exact we_ret fun a hF => hQ _ _ _ (Outs.out nofun (Exits.on ⟨rfl, (post_ret (rs := [.tmp 6]) (ans := []) (vs := [.bool false]) (l := []) rfl (by kernel_rfl) trivial ⟨rfl, hS8⟩) a hF⟩))
        · rw [if_neg hc5] at h
          refine ge_known (t := 39) (b := decide ((i1 : Int) ≥ (l1.length : Int))) (c := false) (by kernel_rfl) (decide_eq_false hc5) ?_
          refine ge_batch [18, 19, 20, 21, 22] (ans := []) (vs := [(44, .bool false), (43, .bool false), (42, undef), (41, undef), (40, undef)]) (l := []) (by kernel_rfl) trivial ?_
          refine ge_nil fun a hF => hK9 _ _ ?_ a hF
          refine we_false (by kernel_rfl) ?_
          refine we_skip fun a hF => hK7 _ _ ?_ a hF
          refine we_region [(0, 0), (1, 0)] rfl ?_
          refine ge_addn (d := 45) (ty := 3) (x := (.tmp 17)) (y := (.const (.int .i64 1))) (t := 3) (t2 := 3) (k := .i64) (m := i1) (by kernel_rfl) (by kernel_rfl) (by kernel_rfl) (by have h0 := hR0.small; omega) ?_
          refine ge_batch [1] (ans := []) (vs := [(17, .int .i64 ((i1 + 1 : Nat) : Int))]) (l := []) (by kernel_rfl) trivial ?_
          have hS9 := hS5.bring 1 rfl
          have hS10 := hS9.takeN 1
          obtain rfl := Option.some.inj h
          exact ge_nil fun a hF => hQ _ _ _ (Outs.again ⟨hS10, hF.weaken ⟨by kernel_rfl, by kernel_rfl, by kernel_rfl, by kernel_rfl, by kernel_rfl, trivial⟩⟩)
      · rw [if_neg hc4] at h
        refine ge_known (t := 34) (b := !(SCome.eqb e1 e2)) (c := true) (by kernel_rfl) (congrArg (fun z => !z) (Bool.eq_false_iff.2 hc4)) ?_
        refine ge_batch [13, 14, 15, 16, 17, 18, 19, 20, 21, 22] (ans := []) (vs := [(44, .bool true), (43, undef), (42, undef), (41, undef), (40, undef), (39, undef), (38, undef), (37, undef), (36, undef), (35, undef)]) (l := []) (by kernel_rfl) trivial ?_
        refine ge_nil fun a hF => hK9 _ _ ?_ a hF
        refine we_true (by kernel_rfl) ?_
        refine we_seq fun K11 hK11 => ?_
        refine we_region [(0, 0)] rfl ?_
        refine ge_batch [0] (ans := []) (vs := [(6, .bool false)]) (l := []) (by kernel_rfl) trivial ?_
        refine ge_nil fun a hF => hK11 _ _ ?_ a hF
        have hS11 := hS5.takeN 0
        obtain rfl := Option.some.inj h
        exact we_ret fun a hF => hQ _ _ _ (Outs.out nofun (Exits.on ⟨rfl, (post_ret (rs := [.tmp 6]) (ans := []) (vs := [.bool false]) (l := []) rfl (by kernel_rfl) trivial ⟨rfl, hS11⟩) a hF⟩))
    · rw [if_neg hc3] at h
      refine ge_known (t := 26) (b := decide ((i1 : Int) < (l1.length : Int))) (c := false) (by kernel_rfl) (decide_eq_false hc3) ?_
      refine ge_batch [5, 6, 7, 8, 9, 10, 11, 12, 13, 14, 15, 16, 17] (ans := []) (vs := [(39, .bool (decide ((i1 : Int) ≥ (l1.length : Int)))), (38, .bool (decide ((i1 : Int) ≥ (l1.length : Int)))), (37, .int .i64 (l1.length : Int)), (36, .slice A1 l1.length c1), (35, .int .i64 (i1 : Int)), (34, .bool false), (33, .bool false), (32, undef), (31, undef), (30, undef), (29, undef), (28, undef), (27, undef)]) (l := []) (by kernel_rfl) trivial ?_
      by_cases hc7 : (i1 : Int) ≥ (l1.length : Int)
      · rw [if_pos hc7] at h
        refine ge_known (t := 39) (b := decide ((i1 : Int) ≥ (l1.length : Int))) (c := true) (by kernel_rfl) (decide_eq_true hc7) ?_
        refine ge_batch [18, 19] (ans := [.val (.int .i64 e1.Task), .val (.int .i64 e1.At), .val (.int .i64 x2.Task), .val (.int .i64 x2.At)]) (vs := [(41, .agg #[.int .i64 x2.Task, .int .i64 x2.At]), (40, .agg #[.int .i64 e1.Task, .int .i64 e1.At])]) (l := [.loaded ⟨b2, 0, none⟩ (.int .i64 e1.Task), .loaded ⟨b2, 1, none⟩ (.int .i64 e1.At), .loaded ⟨b1, 0, none⟩ (.int .i64 x2.Task), .loaded ⟨b1, 1, none⟩ (.int .i64 x2.At)]) (by kernel_rfl) ⟨hS5.cell 0 rfl rfl, hS5.cell 0 rfl rfl, hS5.cell 1 rfl rfl, hS5.cell 1 rfl rfl, trivial⟩ ?_
        refine ge_eqs (d := 42) (ty := 4) (op := .neq) (x := (.tmp 40)) (y := (.tmp 41)) (t := 53) (t2 := 53) (xs := #[.int .i64 e1.Task, .int .i64 e1.At]) (ys := #[.int .i64 x2.Task, .int .i64 x2.At]) (r := (SCome.eqb e1 x2)) (v := !(SCome.eqb e1 x2)) (by kernel_rfl) (by kernel_rfl) (by kernel_rfl) (by kernel_rfl) (by kernel_rfl) rfl ?_
        refine ge_batch [21, 22] (ans := []) (vs := [(44, .bool (!(SCome.eqb e1 x2))), (43, .bool (!(SCome.eqb e1 x2)))]) (l := []) (by kernel_rfl) trivial ?_
        refine ge_nil fun a hF => hK9 _ _ ?_ a hF
        by_cases hc8 : (SCome.eqb e1 x2) = true
        · rw [if_pos hc8] at h
          refine we_known (t := 44) (b := !(SCome.eqb e1 x2)) (v := false) (by kernel_rfl) (congrArg (fun z => !z) hc8) ?_
          refine we_false (by kernel_rfl) ?_
          refine we_skip fun a hF => hK7 _ _ ?_ a hF
          refine we_region [(0, 0), (1, 0)] rfl ?_
          refine ge_addn (d := 45) (ty := 3) (x := (.tmp 17)) (y := (.const (.int .i64 1))) (t := 3) (t2 := 3) (k := .i64) (m := i1) (by kernel_rfl) (by kernel_rfl) (by kernel_rfl) (by have h0 := hR0.small; omega) ?_
          refine ge_batch [1] (ans := []) (vs := [(17, .int .i64 ((i1 + 1 : Nat) : Int))]) (l := []) (by kernel_rfl) trivial ?_
          have hS12 := hS5.bring 1 rfl
          have hS13 := hS12.takeN 1
          obtain rfl := Option.some.inj h
          exact ge_nil fun a hF => hQ _ _ _ (Outs.again ⟨hS13, hF.weaken ⟨by kernel_rfl, by kernel_rfl, by kernel_rfl, by kernel_rfl, by kernel_rfl, trivial⟩⟩)
        · rw [if_neg hc8] at h
          refine we_known (t := 44) (b := !(SCome.eqb e1 x2)) (v := true) (by kernel_rfl) (congrArg (fun z => !z) (Bool.eq_false_iff.2 hc8)) ?_
          refine we_true (by kernel_rfl) ?_
          refine we_seq fun K12 hK12 => ?_
          refine we_region [(0, 0)] rfl ?_
          refine ge_batch [0] (ans := []) (vs := [(6, .bool false)]) (l := []) (by kernel_rfl) trivial ?_
          refine ge_nil fun a hF => hK12 _ _ ?_ a hF
          have hS14 := hS5.takeN 0
          obtain rfl := Option.some.inj h
          exact we_ret fun a hF => hQ _ _ _ (Outs.out nofun (Exits.on ⟨rfl, (post_ret (rs := [.tmp 6]) (ans := []) (vs := [.bool false]) (l := []) rfl (by kernel_rfl) trivial ⟨rfl, hS14⟩) a hF⟩))
      · rw [if_neg hc7] at h
        refine ge_known (t := 39) (b := decide ((i1 : Int) ≥ (l1.length : Int))) (c := false) (by kernel_rfl) (decide_eq_false hc7) ?_
        refine ge_batch [18, 19, 20, 21, 22] (ans := []) (vs := [(44, .bool false), (43, .bool false), (42, undef), (41, undef), (40, undef)]) (l := []) (by kernel_rfl) trivial ?_
        refine ge_nil fun a hF => hK9 _ _ ?_ a hF
        refine we_false (by kernel_rfl) ?_
        refine we_skip fun a hF => hK7 _ _ ?_ a hF
        refine we_region [(0, 0), (1, 0)] rfl ?_
        refine ge_addn (d := 45) (ty := 3) (x := (.tmp 17)) (y := (.const (.int .i64 1))) (t := 3) (t2 := 3) (k := .i64) (m := i1) (by kernel_rfl) (by kernel_rfl) (by kernel_rfl) (by have h0 := hR0.small; omega) ?_
        refine ge_batch [1] (ans := []) (vs := [(17, .int .i64 ((i1 + 1 : Nat) : Int))]) (l := []) (by kernel_rfl) trivial ?_
        have hS15 := hS5.bring 1 rfl
        have hS16 := hS15.takeN 1
        obtain rfl := Option.some.inj h
        exact ge_nil fun a hF => hQ _ _ _ (Outs.again ⟨hS16, hF.weaken ⟨by kernel_rfl, by kernel_rfl, by kernel_rfl, by kernel_rfl, by kernel_rfl, trivial⟩⟩)
  · rw [if_neg hc2] at h
    refine we_known (t := 18) (b := decide ((i1 : Int) < (f0.length : Int))) (v := false) (by kernel_rfl) (decide_eq_false hc2) ?_
    refine we_false (by kernel_rfl) ?_
    have hS17 := hS.takeN 0
    obtain rfl := Option.some.inj h
    exact we_exit fun a hF => hQ _ _ _ (Outs.out nofun (Exits.here ⟨hS17, hF.weaken trivial⟩))
theorem punctualsame_Still_api_Come_ok (K : Nat) (f0 : List SCome) (A0 : Option Addr) (n0 : Nat) (c0 : Nat) (l1 : List SCome) (A1 : Option Addr) (c1 : Nat) (x2 : SCome) (w0 : World) (hR0 : RdL w0 A0 f0) (hc0 : f0.length ≤ c0) (hR1 : RdL w0 A1 l1) (hL1 : l1.length ≤ c1) (r : Bool) (h : punctualsame_Still_api_Come.f K f0 l1 x2 = some r) :
    Calls Tryd.prog 30 #[.slice A0 n0 c0, .slice A1 l1.length c1, .agg #[.int .i64 x2.Task, .int .i64 x2.At]] w0 (punctualsame_Still_api_Come.Post w0 r) := by
  have hS := St.start w0
  unfold punctualsame_Still_api_Come.f at h
  refine calls_enter (n := 46) (args := [.slice A0 n0 c0, .slice A1 l1.length c1, .agg #[.int .i64 x2.Task, .int .i64 x2.At]]) (fn := Tryd.f30) rfl rfl rfl rfl ?_
  show WE _ _ _ _ [(0, .slice A0 n0 c0), (1, .slice A1 l1.length c1), (2, .agg #[.int .i64 x2.Task, .int .i64 x2.At])] _
  refine we_seq fun K1 hK1 => ?_
  refine we_region [(0, 1), (1, 0)] rfl ?_
  refine ge_new (d := some 5) (o := .cells #[.int .i64 x2.Task, .int .i64 x2.At] 53) (v := fun b => .pointer (some ⟨b, 0, none⟩)) hS (fun b => by kernel_rfl) fun b1 w1 hx1 hS1 => ?_
  refine ge_batch [1] (ans := []) (vs := [(6, .bool false)]) (l := []) (by kernel_rfl) trivial ?_
  refine ge_nil fun a hF => hK1 _ _ ?_ a hF
  refine we_seq fun K2 hK2 => ?_
  refine we_region [(0, 0), (1, 0), (2, 0), (3, 0), (4, 0), (5, 0)] rfl ?_
  refine ge_batch [0, 1, 2, 3] (ans := []) (vs := [(13, .int .i64 (IntKind.i64.wrap ((l1.length : Int) + 3))), (12, .int .i64 (l1.length : Int)), (11, .slice A1 l1.length c1), (10, .slice A0 n0 c0)]) (l := []) (by kernel_rfl) trivial ?_
  by_cases hc1 : (IntKind.i64.wrap ((l1.length : Int) + 3)) = (f0.length : Int)
  · rw [if_pos hc1] at h
    refine ge_sliceHi (d := 14) (ty := 49) (t := 49) (el := 53) (sz := 2) (m := n0) (c := c0) (hn := f0.length) (x := (.tmp 10)) (y := (.tmp 13)) (A := A0) (k' := .i64) (hi := (IntKind.i64.wrap ((l1.length : Int) + 3))) (by kernel_rfl) (by kernel_rfl) (by kernel_rfl) hc1 (by kernel_rfl) (by kernel_rfl) hc0 ?_
    refine ge_batch [5] (ans := []) (vs := [(7, .slice A0 f0.length c0)]) (l := []) (by kernel_rfl) trivial ?_
    refine ge_nil fun a hF => hK2 _ _ ?_ a hF
    refine we_seq fun K3 hK3 => ?_
    refine we_seq fun K4 hK4 => ?_
    refine we_region [(0, 0), (1, 0), (2, 0)] rfl ?_
    refine ge_batch [0, 1, 2] (ans := []) (vs := [(17, .int .i64 0), (16, .int .i64 (f0.length : Int)), (15, .slice A0 f0.length c0)]) (l := []) (by kernel_rfl) trivial ?_
    refine ge_nil fun a hF => hK4 _ _ ?_ a hF
    refine we_block ?_
    rcases hq1 : iter (punctualsame_Still_api_Come.r0 f0 l1 x2) K 0 with _ | (_ | rr1)
    · rw [hq1] at h; cases h
    · rw [hq1] at h
      simp only [] at h
      refine we_iter (A := punctualsame_Still_api_Come.A0 K w0 f0 A0 n0 c0 l1 A1 c1 x2 hR0 hc0 hR1 hL1 b1 hc1) (B := punctualsame_Still_api_Come.B0 K w0 f0 A0 n0 c0 l1 A1 c1 x2 hR0 hc0 hR1 hL1 b1 hc1) hq1 (fun a hF => ⟨hS1, hF.weaken ⟨by kernel_rfl, by kernel_rfl, by kernel_rfl, by kernel_rfl, by kernel_rfl, trivial⟩⟩) (fun s o hf a w hA Q hQ => punctualsame_Still_api_Come_r0 K w0 f0 A0 n0 c0 l1 A1 c1 x2 hR0 hc0 hR1 hL1 b1 hc1 s o hf a w hA Q hQ) ?_
      rintro _ a w4 _ ⟨rfl, hS18, hF⟩
      replace hS18 : St w0 w4 [] := hS18
      refine hK3 [] w4 ?_ a hF
      refine we_seq fun K13 hK13 => ?_
      refine we_region [(0, 0)] rfl ?_
      refine ge_batch [0] (ans := []) (vs := [(6, .bool true)]) (l := []) (by kernel_rfl) trivial ?_
      refine ge_nil fun a hF => hK13 _ _ ?_ a hF
      obtain rfl := Option.some.inj h
      exact we_ret (post_ret (rs := [.tmp 6]) (ans := []) (vs := [.bool true]) (l := []) rfl (by kernel_rfl) trivial ⟨rfl, hS18⟩)
    · rw [hq1] at h
      simp only [] at h
      refine we_iter (A := punctualsame_Still_api_Come.A0 K w0 f0 A0 n0 c0 l1 A1 c1 x2 hR0 hc0 hR1 hL1 b1 hc1) (B := punctualsame_Still_api_Come.B0 K w0 f0 A0 n0 c0 l1 A1 c1 x2 hR0 hc0 hR1 hL1 b1 hc1) hq1 (fun a hF => ⟨hS1, hF.weaken ⟨by kernel_rfl, by kernel_rfl, by kernel_rfl, by kernel_rfl, by kernel_rfl, trivial⟩⟩) (fun s o hf a w hA Q hQ => punctualsame_Still_api_Come_r0 K w0 f0 A0 n0 c0 l1 A1 c1 x2 hR0 hc0 hR1 hL1 b1 hc1 s o hf a w hA Q hQ) ?_
      rintro _ a w1 _ ⟨rfl, hb⟩
      obtain rfl := Option.some.inj h
      exact hb
  · rw [if_neg hc1] at h
    cases h

/-! punctual/punctualsame.Still[int] -/
abbrev punctualsame_Still_int.Post (w0 : World) (r : Bool) (e : Ending) (w : World) : Prop := e = .returned (.bool r) ∧ St w0 w []
def punctualsame_Still_int.r0 (f0 : List Int) (l1 : List Int) (x2 : Int) : Nat → Option (Nat ⊕ (Unit ⊕ Bool))
  | i1 =>
    if (i1 : Int) < (f0.length : Int) then
      match f0[i1]? with
      | none => none
      | some e1 =>
        if (i1 : Int) < (l1.length : Int) then
          match l1[i1]? with
          | none => none
          | some e2 =>
            if e1 = e2 then
              if (i1 : Int) ≥ (l1.length : Int) then
                if e1 = x2 then
                  some (.inl (i1 + 1))
                else
                  some (.inr (.inr false))
              else
                some (.inl (i1 + 1))
            else
              some (.inr (.inr false))
        else
          if (i1 : Int) ≥ (l1.length : Int) then
            if e1 = x2 then
              some (.inl (i1 + 1))
            else
              some (.inr (.inr false))
          else
            some (.inl (i1 + 1))
    else
      some (.inr (.inl ()))
def punctualsame_Still_int.f (K : Nat) (f0 : List Int) (l1 : List Int) (x2 : Int) : Option Bool :=
  if (IntKind.i64.wrap ((l1.length : Int) + 3)) = (f0.length : Int) then
    match iter (punctualsame_Still_int.r0 f0 l1 x2) K 0 with
    | none => none
    | some (.inl _) =>
      some true
    | some (.inr rr1) =>
      some rr1
  else
    none
abbrev punctualsame_Still_int.A0 (K : Nat) (w0 : World) (f0 : List Int) (A0 : Option Addr) (n0 : Nat) (c0 : Nat) (l1 : List Int) (A1 : Option Addr) (c1 : Nat) (x2 : Int) (hR0 : RdL w0 A0 f0) (hc0 : f0.length ≤ c0) (hR1 : RdL w0 A1 l1) (hL1 : l1.length ≤ c1) (hc1 : (IntKind.i64.wrap ((l1.length : Int) + 3)) = (f0.length : Int)) : Nat → Act → World → Prop := fun (s : Nat) a w => St w0 w [] ∧ Frm 46 a [(1, .slice A1 l1.length c1), (2, .int .i64 x2), (15, .slice A0 f0.length c0), (16, .int .i64 (f0.length : Int)), (17, .int .i64 (s : Int))]
abbrev punctualsame_Still_int.B0 (K : Nat) (w0 : World) (f0 : List Int) (A0 : Option Addr) (n0 : Nat) (c0 : Nat) (l1 : List Int) (A1 : Option Addr) (c1 : Nat) (x2 : Int) (hR0 : RdL w0 A0 f0) (hc0 : f0.length ≤ c0) (hR1 : RdL w0 A1 l1) (hL1 : l1.length ≤ c1) (hc1 : (IntKind.i64.wrap ((l1.length : Int) + 3)) = (f0.length : Int)) : (Unit ⊕ Bool) → Exit → Act → World → Prop := Exits 0 (fun (s : Unit) a w => St w0 w [] ∧ Frm 46 a []) (Rets Tryd.prog Tryd.f18 (punctualsame_Still_int.Post w0))
theorem punctualsame_Still_int_r0 (K : Nat) (w0 : World) (f0 : List Int) (A0 : Option Addr) (n0 : Nat) (c0 : Nat) (l1 : List Int) (A1 : Option Addr) (c1 : Nat) (x2 : Int) (hR0 : RdL w0 A0 f0) (hc0 : f0.length ≤ c0) (hR1 : RdL w0 A1 l1) (hL1 : l1.length ≤ c1) (hc1 : (IntKind.i64.wrap ((l1.length : Int) + 3)) = (f0.length : Int)) (s : Nat) (o : Nat ⊕ (Unit ⊕ Bool)) (h : punctualsame_Still_int.r0 f0 l1 x2 s = some o) (a : Act) (w : World) (hA : punctualsame_Still_int.A0 K w0 f0 A0 n0 c0 l1 A1 c1 x2 hR0 hc0 hR1 hL1 hc1 s a w) (Q : Exit → Act → World → Prop) (hQ : ∀ x a w, Outs (punctualsame_Still_int.A0 K w0 f0 A0 n0 c0 l1 A1 c1 x2 hR0 hc0 hR1 hL1 hc1) (punctualsame_Still_int.B0 K w0 f0 A0 n0 c0 l1 A1 c1 x2 hR0 hc0 hR1 hL1 hc1) o x a w → Q x a w) : (subF Tryd.f18 [1, 1, 0, 1, 0, 0]).wp Tryd.prog Q a w := by
  obtain ⟨i1, hs⟩ : ∃ z, z = s := ⟨s, rfl⟩
  subst hs
  obtain ⟨hS, hF⟩ := hA
  replace hS : St w0 w [] := hS
  simp only [punctualsame_Still_int.r0] at h
  refine (?_ : WE Tryd.prog 46 (subF Tryd.f18 [1, 1, 0, 1, 0, 0]) Q [(1, .slice A1 l1.length c1), (2, .int .i64 x2), (15, .slice A0 f0.length c0), (16, .int .i64 (f0.length : Int)), (17, .int .i64 (i1 : Int))] w) a hF
  clear hF a
  refine we_seq fun K5 hK5 => ?_
  refine we_region [(0, 0)] rfl ?_
  refine ge_batch [0] (ans := []) (vs := [(18, .bool (decide ((i1 : Int) < (f0.length : Int))))]) (l := []) (by kernel_rfl) trivial ?_
  refine ge_nil fun a hF => hK5 _ _ ?_ a hF
  refine we_seq fun K6 hK6 => ?_
  by_cases hc2 : (i1 : Int) < (f0.length : Int)
  · rw [if_pos hc2] at h
    refine we_known (t := 18) (b := decide ((i1 : Int) < (f0.length : Int))) (v := true) (by kernel_rfl) (decide_eq_true hc2) ?_
    refine we_true (by kernel_rfl) ?_
    refine we_skip fun a hF => hK6 _ _ ?_ a hF
    refine we_seq fun K7 hK7 => ?_
    refine we_block ?_
    refine we_seq fun K8 hK8 => ?_
    refine we_region [(0, 0), (1, 0), (2, 0), (3, 0), (4, 0)] rfl ?_
    refine ge_batch [0] (ans := []) (vs := [(19, .int .i64 (i1 : Int))]) (l := []) (by kernel_rfl) trivial ?_
    rcases hx1 : f0[i1]? with _ | e1
    · rw [hx1] at h; cases h
    rw [hx1] at h
    simp only [] at h
    refine ge_index (d := 20) (ty := 0) (t := 23) (el := 3) (sz := 1) (m := f0.length) (c := c0) (x := (.tmp 15)) (y := (.tmp 17)) (A := A0) (k' := .i64) (j := (i1 : Int)) (jn := i1) (b0 := blkOf A0) (o0 := offOf A0) (by kernel_rfl) (by kernel_rfl) (by kernel_rfl) (by kernel_rfl) (by kernel_rfl) ((hS.rd hR0).eqSome (pos_of_get hx1)) rfl (lt_of_get hx1) ?_
    refine ge_batch [2, 3, 4] (ans := [.val (.int .i64 e1)]) (vs := [(9, .int .i64 e1), (8, .int .i64 (i1 : Int)), (21, .int .i64 e1)]) (l := [.loaded ⟨blkOf A0, offOf A0 + i1 * 1, none⟩ (.int .i64 e1)]) (by kernel_rfl) ⟨RdL.cell (j := 0) (hS.rd hR0) hx1 rfl, trivial⟩ ?_
    refine ge_nil fun a hF => hK8 _ _ ?_ a hF
    refine we_seq fun K9 hK9 => ?_
    refine we_region [(0, 0), (1, 0), (2, 0), (3, 0), (4, 0), (5, 0), (6, 0), (7, 0), (8, 0), (9, 0), (10, 0), (11, 0), (12, 0), (13, 0), (14, 0), (15, 0), (16, 0), (17, 0), (18, 0), (19, 0), (20, 0), (21, 0), (22, 0)] rfl ?_
    refine ge_batch [0, 1, 2, 3, 4] (ans := []) (vs := [(26, .bool (decide ((i1 : Int) < (l1.length : Int)))), (25, .bool (decide ((i1 : Int) < (l1.length : Int)))), (24, .int .i64 (l1.length : Int)), (23, .slice A1 l1.length c1), (22, .int .i64 (i1 : Int))]) (l := []) (by kernel_rfl) trivial ?_
    by_cases hc3 : (i1 : Int) < (l1.length : Int)
    · rw [if_pos hc3] at h
      refine ge_known (t := 26) (b := decide ((i1 : Int) < (l1.length : Int))) (c := true) (by kernel_rfl) (decide_eq_true hc3) ?_
      refine ge_batch [5, 6, 7] (ans := []) (vs := [(29, .int .i64 (i1 : Int)), (28, .slice A1 l1.length c1), (27, .int .i64 e1)]) (l := []) (by kernel_rfl) trivial ?_
      rcases hx2 : l1[i1]? with _ | e2
      · rw [hx2] at h; cases h
      rw [hx2] at h
      simp only [] at h
      refine ge_index (d := 30) (ty := 0) (t := 23) (el := 3) (sz := 1) (m := l1.length) (c := c1) (x := (.tmp 28)) (y := (.tmp 29)) (A := A1) (k' := .i64) (j := (i1 : Int)) (jn := i1) (b0 := blkOf A1) (o0 := offOf A1) (by kernel_rfl) (by kernel_rfl) (by kernel_rfl) (by kernel_rfl) (by kernel_rfl) ((hS.rd hR1).eqSome (pos_of_get hx2)) rfl (lt_of_get hx2) ?_
      refine ge_batch [9, 10, 11, 12] (ans := [.val (.int .i64 e2)]) (vs := [(34, .bool (e1 != e2)), (33, .bool (e1 != e2)), (32, .bool (e1 != e2)), (31, .int .i64 e2)]) (l := [.loaded ⟨blkOf A1, offOf A1 + i1 * 1, none⟩ (.int .i64 e2)]) (by kernel_rfl) ⟨RdL.cell (j := 0) (hS.rd hR1) hx2 rfl, trivial⟩ ?_
      by_cases hc4 : e1 = e2
      · rw [if_pos hc4] at h
        refine ge_known (t := 34) (b := (e1 != e2)) (c := false) (by kernel_rfl) (bne_eq_false_iff_eq.2 hc4) ?_
        refine ge_batch [13, 14, 15, 16, 17] (ans := []) (vs := [(39, .bool (decide ((i1 : Int) ≥ (l1.length : Int)))), (38, .bool (decide ((i1 : Int) ≥ (l1.length : Int)))), (37, .int .i64 (l1.length : Int)), (36, .slice A1 l1.length c1), (35, .int .i64 (i1 : Int))]) (l := []) (by kernel_rfl) trivial ?_
        by_cases hc5 : (i1 : Int) ≥ (l1.length : Int)
        · rw [if_pos hc5] at h
          refine ge_known (t := 39) (b := decide ((i1 : Int) ≥ (l1.length : Int))) (c := true) (by kernel_rfl) (decide_eq_true hc5) ?_
          refine ge_batch [18, 19, 20, 21, 22] (ans := []) (vs := [(44, .bool (e1 != x2)), (43, .bool (e1 != x2)), (42, .bool (e1 != x2)), (41, .int .i64 x2), (40, .int .i64 e1)]) (l := []) (by kernel_rfl) trivial ?_
          refine ge_nil fun a hF => hK9 _ _ ?_ a hF
          by_cases hc6 : e1 = x2
          · rw [if_pos hc6] at h
            refine we_known (t := 44) (b := (e1 != x2)) (v := false) (by kernel_rfl) (bne_eq_false_iff_eq.2 hc6) ?_
            refine we_false (by kernel_rfl) ?_
            refine we_skip fun a hF => hK7 _ _ ?_ a hF
            refine we_region [(0, 0), (1, 0)] rfl ?_
            refine ge_addn (d := 45) (ty := 3) (x := (.tmp 17)) (y := (.const (.int .i64 1))) (t := 3) (t2 := 3) (k := .i64) (m := i1) (by kernel_rfl) (by kernel_rfl) (by kernel_rfl) (by have h0 := hR0.small; omega) ?_
            refine ge_batch [1] (ans := []) (vs := [(17, .int .i64 ((i1 + 1 : Nat) : Int))]) (l := []) (by kernel_rfl) trivial ?_
            obtain rfl := Option.some.inj h
            exact ge_nil fun a hF => hQ _ _ _ (Outs.again ⟨hS, hF.weaken ⟨by kernel_rfl, by kernel_rfl, by kernel_rfl, by kernel_rfl, by kernel_rfl, trivial⟩⟩)
          · rw [if_neg hc6] at h
            refine we_known (t := 44) (b := (e1 != x2)) (v := true) (by kernel_rfl) (bne_iff_ne.2 hc6) ?_
            refine we_true (by kernel_rfl) ?_
            refine we_seq fun K10 hK10 => ?_
            refine we_region [(0, 0)] rfl ?_
            refine ge_batch [0] (ans := []) (vs := [(6, .bool false)]) (l := []) (by kernel_rfl) trivial ?_
            refine ge_nil fun a hF => hK10 _ _ ?_ a hF
            obtain rfl := Option.some.inj h
            exact we_ret fun a hF => hQ _ _ _ (Outs.out nofun (Exits.on ⟨rfl, (post_ret (rs := [.tmp 6]) (ans := []) (vs := [.bool false]) (l := []) rfl (by kernel_rfl) trivial ⟨rfl, hS⟩) a hF⟩))
        · rw [if_neg hc5] at h
          refine ge_known (t := 39) (b := decide ((i1 : Int) ≥ (l1.length : Int))) (c := false) (by kernel_rfl) (decide_eq_false hc5) ?_
          refine ge_batch [18, 19, 20, 21, 22] (ans := []) (vs := [(44, .bool false), (43, .bool false), (42, undef), (41, undef), (40, undef)]) (l := []) (by kernel_rfl) trivial ?_
          refine ge_nil fun a hF => hK9 _ _ ?_ a hF
          refine we_false (by kernel_rfl) ?_
          refine we_skip fun a hF => hK7 _ _ ?_ a hF
          refine we_region [(0, 0), (1, 0)] rfl ?_
          refine ge_addn (d := 45) (ty := 3) (x := (.tmp 17)) (y := (.const (.int .i64 1))) (t := 3) (t2 := 3) (k := .i64) (m := i1) (by kernel_rfl) (by kernel_rfl) (by kernel_rfl) (by have h0 := hR0.small; omega) ?_
          refine ge_batch [1] (ans := []) (vs := [(17, .int .i64 ((i1 + 1 : Nat) : Int))]) (l := []) (by kernel_rfl) trivial ?_
          obtain rfl := Option.some.inj h
          exact ge_nil fun a hF => hQ _ _ _ (Outs.again ⟨hS, hF.weaken ⟨by kernel_rfl, by kernel_rfl, by kernel_rfl, by kernel_rfl, by kernel_rfl, trivial⟩⟩)
      · rw [if_neg hc4] at h
        refine ge_known (t := 34) (b := (e1 != e2)) (c := true) (by kernel_rfl) (bne_iff_ne.2 hc4) ?_
        refine ge_batch [13, 14, 15, 16, 17, 18, 19, 20, 21, 22] (ans := []) (vs := [(44, .bool true), (43, undef), (42, undef), (41, undef), (40, undef), (39, undef), (38, undef), (37, undef), (36, undef), (35, undef)]) (l := []) (by kernel_rfl) trivial ?_
        refine ge_nil fun a hF => hK9 _ _ ?_ a hF
        refine we_true (by kernel_rfl) ?_
        refine we_seq fun K11 hK11 => ?_
        refine we_region [(0, 0)] rfl ?_
        refine ge_batch [0] (ans := []) (vs := [(6, .bool false)]) (l := []) (by kernel_rfl) trivial ?_
        refine ge_nil fun a hF => hK11 _ _ ?_ a hF
        obtain rfl := Option.some.inj h
        exact we_ret fun a hF => hQ _ _ _ (Outs.out nofun (Exits.on ⟨rfl, (post_ret (rs := [.tmp 6]) (ans := []) (vs := [.bool false]) (l := []) rfl (by kernel_rfl) trivial ⟨rfl, hS⟩) a hF⟩))
    · rw [if_neg hc3] at h
      refine ge_known (t := 26) (b := decide ((i1 : Int) < (l1.length : Int))) (c := false) (by kernel_rfl) (decide_eq_false hc3) ?_
      refine ge_batch [5, 6, 7, 8, 9, 10, 11, 12, 13, 14, 15, 16, 17] (ans := []) (vs := [(39, .bool (decide ((i1 : Int) ≥ (l1.length : Int)))), (38, .bool (decide ((i1 : Int) ≥ (l1.length : Int)))), (37, .int .i64 (l1.length : Int)), (36, .slice A1 l1.length c1), (35, .int .i64 (i1 : Int)), (34, .bool false), (33, .bool false), (32, undef), (31, undef), (30, undef), (29, undef), (28, undef), (27, undef)]) (l := []) (by kernel_rfl) trivial ?_
      by_cases hc7 : (i1 : Int) ≥ (l1.length : Int)
      · rw [if_pos hc7] at h
        refine ge_known (t := 39) (b := decide ((i1 : Int) ≥ (l1.length : Int))) (c := true) (by kernel_rfl) (decide_eq_true hc7) ?_
        refine ge_batch [18, 19, 20, 21, 22] (ans := []) (vs := [(44, .bool (e1 != x2)), (43, .bool (e1 != x2)), (42, .bool (e1 != x2)), (41, .int .i64 x2), (40, .int .i64 e1)]) (l := []) (by kernel_rfl) trivial ?_
        refine ge_nil fun a hF => hK9 _ _ ?_ a hF
        by_cases hc8 : e1 = x2
        · rw [if_pos hc8] at h
          refine we_known (t := 44) (b := (e1 != x2)) (v := false) (by kernel_rfl) (bne_eq_false_iff_eq.2 hc8) ?_
          refine we_false (by kernel_rfl) ?_
          refine we_skip fun a hF => hK7 _ _ ?_ a hF
          refine we_region [(0, 0), (1, 0)] rfl ?_
          refine ge_addn (d := 45) (ty := 3) (x := (.tmp 17)) (y := (.const (.int .i64 1))) (t := 3) (t2 := 3) (k := .i64) (m := i1) (by kernel_rfl) (by kernel_rfl) (by kernel_rfl) (by have h0 := hR0.small; omega) ?_
          refine ge_batch [1] (ans := []) (vs := [(17, .int .i64 ((i1 + 1 : Nat) : Int))]) (l := []) (by kernel_rfl) trivial ?_
          obtain rfl := Option.some.inj h
          exact ge_nil fun a hF => hQ _ _ _ (Outs.again ⟨hS, hF.weaken ⟨by kernel_rfl, by kernel_rfl, by kernel_rfl, by kernel_rfl, by kernel_rfl, trivial⟩⟩)
        · rw [if_neg hc8] at h
          refine we_known (t := 44) (b := (e1 != x2)) (v := true) (by kernel_rfl) (bne_iff_ne.2 hc8) ?_
          refine we_true (by kernel_rfl) ?_
          refine we_seq fun K12 hK12 => ?_
          refine we_region [(0, 0)] rfl ?_
          refine ge_batch [0] (ans := []) (vs := [(6, .bool false)]) (l := []) (by kernel_rfl) trivial ?_
          refine ge_nil fun a hF => hK12 _ _ ?_ a hF
          obtain rfl := Option.some.inj h
          exact we_ret fun a hF => hQ _ _ _ (Outs.out nofun (Exits.on ⟨rfl, (post_ret (rs := [.tmp 6]) (ans := []) (vs := [.bool false]) (l := []) rfl (by kernel_rfl) trivial ⟨rfl, hS⟩) a hF⟩))
      · rw [if_neg hc7] at h
        refine ge_known (t := 39) (b := decide ((i1 : Int) ≥ (l1.length : Int))) (c := false) (by kernel_rfl) (decide_eq_false hc7) ?_
        refine ge_batch [18, 19, 20, 21, 22] (ans := []) (vs := [(44, .bool false), (43, .bool false), (42, undef), (41, undef), (40, undef)]) (l := []) (by kernel_rfl) trivial ?_
        refine ge_nil fun a hF => hK9 _ _ ?_ a hF
        refine we_false (by kernel_rfl) ?_
        refine we_skip fun a hF => hK7 _ _ ?_ a hF
        refine we_region [(0, 0), (1, 0)] rfl ?_
        refine ge_addn (d := 45) (ty := 3) (x := (.tmp 17)) (y := (.const (.int .i64 1))) (t := 3) (t2 := 3) (k := .i64) (m := i1) (by kernel_rfl) (by kernel_rfl) (by kernel_rfl) (by have h0 := hR0.small; omega) ?_
        refine ge_batch [1] (ans := []) (vs := [(17, .int .i64 ((i1 + 1 : Nat) : Int))]) (l := []) (by kernel_rfl) trivial ?_
        obtain rfl := Option.some.inj h
        exact ge_nil fun a hF => hQ _ _ _ (Outs.again ⟨hS, hF.weaken ⟨by kernel_rfl, by kernel_rfl, by kernel_rfl, by kernel_rfl, by kernel_rfl, trivial⟩⟩)
  · rw [if_neg hc2] at h
    refine we_known (t := 18) (b := decide ((i1 : Int) < (f0.length : Int))) (v := false) (by kernel_rfl) (decide_eq_false hc2) ?_
    refine we_false (by kernel_rfl) ?_
    obtain rfl := Option.some.inj h
    exact we_exit fun a hF => hQ _ _ _ (Outs.out nofun (Exits.here ⟨hS, hF.weaken trivial⟩))
theorem punctualsame_Still_int_ok (K : Nat) (f0 : List Int) (A0 : Option Addr) (n0 : Nat) (c0 : Nat) (l1 : List Int) (A1 : Option Addr) (c1 : Nat) (x2 : Int) (w0 : World) (hR0 : RdL w0 A0 f0) (hc0 : f0.length ≤ c0) (hR1 : RdL w0 A1 l1) (hL1 : l1.length ≤ c1) (r : Bool) (h : punctualsame_Still_int.f K f0 l1 x2 = some r) :
    Calls Tryd.prog 18 #[.slice A0 n0 c0, .slice A1 l1.length c1, .int .i64 x2] w0 (punctualsame_Still_int.Post w0 r) := by
  have hS := St.start w0
  unfold punctualsame_Still_int.f at h
  refine calls_enter (n := 46) (args := [.slice A0 n0 c0, .slice A1 l1.length c1, .int .i64 x2]) (fn := Tryd.f18) rfl rfl rfl rfl ?_
  show WE _ _ _ _ [(0, .slice A0 n0 c0), (1, .slice A1 l1.length c1), (2, .int .i64 x2)] _
  refine we_seq fun K1 hK1 => ?_
  refine we_region [(0, 0)] rfl ?_
  refine ge_batch [0] (ans := []) (vs := [(6, .bool false)]) (l := []) (by kernel_rfl) trivial ?_
  refine ge_nil fun a hF => hK1 _ _ ?_ a hF
  refine we_seq fun K2 hK2 => ?_
  refine we_region [(0, 0), (1, 0), (2, 0), (3, 0), (4, 0), (5, 0)] rfl ?_
  refine ge_batch [0, 1, 2, 3] (ans := []) (vs := [(13, .int .i64 (IntKind.i64.wrap ((l1.length : Int) + 3))), (12, .int .i64 (l1.length : Int)), (11, .slice A1 l1.length c1), (10, .slice A0 n0 c0)]) (l := []) (by kernel_rfl) trivial ?_
  by_cases hc1 : (IntKind.i64.wrap ((l1.length : Int) + 3)) = (f0.length : Int)
  · rw [if_pos hc1] at h
    refine ge_sliceHi (d := 14) (ty := 23) (t := 23) (el := 3) (sz := 1) (m := n0) (c := c0) (hn := f0.length) (x := (.tmp 10)) (y := (.tmp 13)) (A := A0) (k' := .i64) (hi := (IntKind.i64.wrap ((l1.length : Int) + 3))) (by kernel_rfl) (by kernel_rfl) (by kernel_rfl) hc1 (by kernel_rfl) (by kernel_rfl) hc0 ?_
    refine ge_batch [5] (ans := []) (vs := [(7, .slice A0 f0.length c0)]) (l := []) (by kernel_rfl) trivial ?_
    refine ge_nil fun a hF => hK2 _ _ ?_ a hF
    refine we_seq fun K3 hK3 => ?_
    refine we_seq fun K4 hK4 => ?_
    refine we_region [(0, 0), (1, 0), (2, 0)] rfl ?_
    refine ge_batch [0, 1, 2] (ans := []) (vs := [(17, .int .i64 0), (16, .int .i64 (f0.length : Int)), (15, .slice A0 f0.length c0)]) (l := []) (by kernel_rfl) trivial ?_
    refine ge_nil fun a hF => hK4 _ _ ?_ a hF
    refine we_block ?_
    rcases hq1 : iter (punctualsame_Still_int.r0 f0 l1 x2) K 0 with _ | (_ | rr1)
    · rw [hq1] at h; cases h
    · rw [hq1] at h
      simp only [] at h
      refine we_iter (A := punctualsame_Still_int.A0 K w0 f0 A0 n0 c0 l1 A1 c1 x2 hR0 hc0 hR1 hL1 hc1) (B := punctualsame_Still_int.B0 K w0 f0 A0 n0 c0 l1 A1 c1 x2 hR0 hc0 hR1 hL1 hc1) hq1 (fun a hF => ⟨hS, hF.weaken ⟨by kernel_rfl, by kernel_rfl, by kernel_rfl, by kernel_rfl, by kernel_rfl, trivial⟩⟩) (fun s o hf a w hA Q hQ => punctualsame_Still_int_r0 K w0 f0 A0 n0 c0 l1 A1 c1 x2 hR0 hc0 hR1 hL1 hc1 s o hf a w hA Q hQ) ?_
      rintro _ a w1 _ ⟨rfl, hS1, hF⟩
      replace hS1 : St w0 w1 [] := hS1
      refine hK3 [] w1 ?_ a hF
      refine we_seq fun K13 hK13 => ?_
      refine we_region [(0, 0)] rfl ?_
      refine ge_batch [0] (ans := []) (vs := [(6, .bool true)]) (l := []) (by kernel_rfl) trivial ?_
      refine ge_nil fun a hF => hK13 _ _ ?_ a hF
      obtain rfl := Option.some.inj h
      exact we_ret (post_ret (rs := [.tmp 6]) (ans := []) (vs := [.bool true]) (l := []) rfl (by kernel_rfl) trivial ⟨rfl, hS1⟩)
    · rw [hq1] at h
      simp only [] at h
      refine we_iter (A := punctualsame_Still_int.A0 K w0 f0 A0 n0 c0 l1 A1 c1 x2 hR0 hc0 hR1 hL1 hc1) (B := punctualsame_Still_int.B0 K w0 f0 A0 n0 c0 l1 A1 c1 x2 hR0 hc0 hR1 hL1 hc1) hq1 (fun a hF => ⟨hS, hF.weaken ⟨by kernel_rfl, by kernel_rfl, by kernel_rfl, by kernel_rfl, by kernel_rfl, trivial⟩⟩) (fun s o hf a w hA Q hQ => punctualsame_Still_int_r0 K w0 f0 A0 n0 c0 l1 A1 c1 x2 hR0 hc0 hR1 hL1 hc1 s o hf a w hA Q hQ) ?_
      rintro _ a w1 _ ⟨rfl, hb⟩
      obtain rfl := Option.some.inj h
      exact hb
  · rw [if_neg hc1] at h
    cases h

/-! punctual/punctuallaw.TasksJobs -/
abbrev TasksJobs.Post (w0 : World) (r : Bool) (e : Ending) (w : World) : Prop := e = .returned (.bool r) ∧ St w0 w []
def TasksJobs.p0 (K : Nat) (r1 : (List SJob) × SFault) : Option (Unit ⊕ Bool) :=
    if r1.2.Code = 0 then
      match punctualsame_Same_api_Job.f K r1.1 ([(⟨1, 5, 2, 11, 2⟩ : SJob)] : List SJob) with
      | none => none
      | some r2 =>
        if r2 = true then
          some (.inl ())
        else
          some (.inr false)
    else
      some (.inr false)
def TasksJobs.p1 (l0 : List STask) (l1 : List SCome) (l2 : List Int) (l3 : List Int) : Option (Unit ⊕ Bool) :=
    if (few.f (l0.length : Int)) = true then
      if (few.f (l1.length : Int)) = true then
        if (few.f (l2.length : Int)) = true then
          if (few.f (l3.length : Int)) = true then
            some (.inl ())
          else
            some (.inr true)
        else
          some (.inr true)
      else
        some (.inr true)
    else
      some (.inr true)
def TasksJobs.r2 (K : Nat) (l0 : List STask) (l1 : List SCome) (l2 : List Int) (l3 : List Int) (r3 : (List SJob) × SFault) : Nat → Option (Nat ⊕ (Unit ⊕ Bool))
  | i1 =>
    if (i1 : Int) < 2 then
      match tasks_Jobs.f K l0 l1 l2 l3 with
      | none => none
      | some r8 =>
        if (SFault.eqb r8.2 r3.2) = true then
          match punctualsame_Same_api_Job.f K r8.1 r3.1 with
          | none => none
          | some r9 =>
            if r9 = true then
              some (.inl (i1 + 1))
            else
              some (.inr (.inr false))
        else
          some (.inr (.inr false))
    else
      some (.inr (.inl ()))
def TasksJobs.f (K : Nat) (l0 : List STask) (l1 : List SCome) (l2 : List Int) (l3 : List Int) : Option Bool :=
  match tasks_Jobs.f K three.f ([(⟨1, 5⟩ : SCome)] : List SCome) ([0] : List Int) ([2] : List Int) with
  | none => none
  | some r1 =>
    match TasksJobs.p0 K r1 with
    | none => none
    | some (.inl _) =>
      match TasksJobs.p1 l0 l1 l2 l3 with
      | none => none
      | some (.inl _) =>
        match punctualref_JobsOf.f K l0 l1 l2 l3 with
        | none => none
        | some r3 =>
          match punctualsame_Lend_api_Task.f l0 (⟨⟨#[63]⟩, (-9), 0, 0, 0, 0, 0⟩ : STask) with
          | none => none
          | some _ =>
            match punctualsame_Lend_api_Come.f l1 (⟨(-9), 0⟩ : SCome) with
            | none => none
            | some _ =>
              match punctualsame_Lend_int.f l2 (-9) with
              | none => none
              | some _ =>
                match punctualsame_Lend_int.f l3 (-9) with
                | none => none
                | some _ =>
                  match iter (TasksJobs.r2 K l0 l1 l2 l3 r3) K 0 with
                  | none => none
                  | some (.inl _) =>
                    match punctualsame_Still_api_Task.f K (l0 ++ [(⟨⟨#[63]⟩, (-9), 0, 0, 0, 0, 0⟩ : STask), (⟨⟨#[63]⟩, (-9), 0, 0, 0, 0, 0⟩ : STask), (⟨⟨#[63]⟩, (-9), 0, 0, 0, 0, 0⟩ : STask)]) l0 (⟨⟨#[63]⟩, (-9), 0, 0, 0, 0, 0⟩ : STask) with
                    | none => none
                    | some r10 =>
                      if r10 = true then
                        match punctualsame_Still_api_Come.f K (l1 ++ [(⟨(-9), 0⟩ : SCome), (⟨(-9), 0⟩ : SCome), (⟨(-9), 0⟩ : SCome)]) l1 (⟨(-9), 0⟩ : SCome) with
                        | none => none
                        | some r11 =>
                          if r11 = true then
                            match punctualsame_Still_int.f K (l2 ++ [(-9), (-9), (-9)]) l2 (-9) with
                            | none => none
                            | some r12 =>
                              if r12 = true then
                                match punctualsame_Still_int.f K (l3 ++ [(-9), (-9), (-9)]) l3 (-9) with
                                | none => none
                                | some r13 =>
                                  some r13
                              else
                                some false
                          else
                            some false
                      else
                        some false
                  | some (.inr rr1) =>
                    some rr1
      | some (.inr rr2) =>
        some rr2
    | some (.inr rr3) =>
      some rr3
abbrev TasksJobs.A0 (K : Nat) (w0 : World) (l0 : List STask) (A0 : Option Addr) (c0 : Nat) (l1 : List SCome) (A1 : Option Addr) (c1 : Nat) (l2 : List Int) (A2 : Option Addr) (c2 : Nat) (l3 : List Int) (A3 : Option Addr) (c3 : Nat) (hR0 : RdL w0 A0 l0) (hL0 : l0.length ≤ c0) (hR1 : RdL w0 A1 l1) (hL1 : l1.length ≤ c1) (hR2 : RdL w0 A2 l2) (hL2 : l2.length ≤ c2) (hR3 : RdL w0 A3 l3) (hL3 : l3.length ≤ c3) (hG1 : Glob w0 1 [.string (⟨#[63]⟩), .int .i64 (-9), .int .i64 0, .int .i64 0, .int .i64 0, .int .i64 0, .int .i64 0]) (hG2 : Glob w0 2 [.int .i64 (-9), .int .i64 0]) (b1 : Nat) (b2 : Nat) (b3 : Nat) (Z1 : Option Addr) (cz1 : Nat) (r1 : (List SJob) × SFault) (b4 : Nat) (Z2 : Option Addr) (cz2 : Nat) : Unit → Act → World → Prop := fun (s : Unit) a w => St w0 w [] ∧ Frm 120 a [(0, .slice A0 l0.length c0), (1, .slice A1 l1.length c1), (2, .slice A2 l2.length c2), (3, .slice A3 l3.length c3)]
abbrev TasksJobs.B0 (K : Nat) (w0 : World) (l0 : List STask) (A0 : Option Addr) (c0 : Nat) (l1 : List SCome) (A1 : Option Addr) (c1 : Nat) (l2 : List Int) (A2 : Option Addr) (c2 : Nat) (l3 : List Int) (A3 : Option Addr) (c3 : Nat) (hR0 : RdL w0 A0 l0) (hL0 : l0.length ≤ c0) (hR1 : RdL w0 A1 l1) (hL1 : l1.length ≤ c1) (hR2 : RdL w0 A2 l2) (hL2 : l2.length ≤ c2) (hR3 : RdL w0 A3 l3) (hL3 : l3.length ≤ c3) (hG1 : Glob w0 1 [.string (⟨#[63]⟩), .int .i64 (-9), .int .i64 0, .int .i64 0, .int .i64 0, .int .i64 0, .int .i64 0]) (hG2 : Glob w0 2 [.int .i64 (-9), .int .i64 0]) (b1 : Nat) (b2 : Nat) (b3 : Nat) (Z1 : Option Addr) (cz1 : Nat) (r1 : (List SJob) × SFault) (b4 : Nat) (Z2 : Option Addr) (cz2 : Nat) : Bool → Exit → Act → World → Prop := Rets Tryd.prog Tryd.f5 (TasksJobs.Post w0)
theorem TasksJobs_p0 (K : Nat) (w0 : World) (l0 : List STask) (A0 : Option Addr) (c0 : Nat) (l1 : List SCome) (A1 : Option Addr) (c1 : Nat) (l2 : List Int) (A2 : Option Addr) (c2 : Nat) (l3 : List Int) (A3 : Option Addr) (c3 : Nat) (hR0 : RdL w0 A0 l0) (hL0 : l0.length ≤ c0) (hR1 : RdL w0 A1 l1) (hL1 : l1.length ≤ c1) (hR2 : RdL w0 A2 l2) (hL2 : l2.length ≤ c2) (hR3 : RdL w0 A3 l3) (hL3 : l3.length ≤ c3) (hG1 : Glob w0 1 [.string (⟨#[63]⟩), .int .i64 (-9), .int .i64 0, .int .i64 0, .int .i64 0, .int .i64 0, .int .i64 0]) (hG2 : Glob w0 2 [.int .i64 (-9), .int .i64 0]) (b1 : Nat) (b2 : Nat) (b3 : Nat) (Z1 : Option Addr) (cz1 : Nat) (r1 : (List SJob) × SFault) (b4 : Nat) (Z2 : Option Addr) (cz2 : Nat) (o : Unit ⊕ Bool) (h : TasksJobs.p0 K r1 = some o) (w : World) (hS : St w0 w [Own.blk b4 (.cells #[.int .i64 r1.2.Code, .int .i64 r1.2.At] 26 (0, 0)), Own.of (.slice Z2 r1.1.length cz2) 30 r1.1, Own.blk b3 (.cells #[.int .i64 2] 3 (0, 0)), Own.blk b2 (.cells #[.int .i64 0] 3 (0, 0)), Own.blk b1 (.cells #[.int .i64 1, .int .i64 5] 53 (0, 0)), Own.of (.slice Z1 three.f.length cz1) 46 three.f]) (Q : Exit → Act → World → Prop) (hQ : ∀ x a w, Outs (TasksJobs.A0 K w0 l0 A0 c0 l1 A1 c1 l2 A2 c2 l3 A3 c3 hR0 hL0 hR1 hL1 hR2 hL2 hR3 hL3 hG1 hG2 b1 b2 b3 Z1 cz1 r1 b4 Z2 cz2) (TasksJobs.B0 K w0 l0 A0 c0 l1 A1 c1 l2 A2 c2 l3 A3 c3 hR0 hL0 hR1 hL1 hR2 hL2 hR3 hL3 hG1 hG2 b1 b2 b3 Z1 cz1 r1 b4 Z2 cz2) o x a w → Q x a w) : WE Tryd.prog 120 (subF Tryd.f5 [1, 1, 0]) Q [(0, .slice A0 l0.length c0), (1, .slice A1 l1.length c1), (2, .slice A2 l2.length c2), (3, .slice A3 l3.length c3), (8, .bool false), (9, (.slice Z2 r1.1.length cz2)), (10, .pointer (some ⟨b4, 0, none⟩)), (19, .tuple #[(.slice Z2 r1.1.length cz2), .agg #[.int .i64 r1.2.Code, .int .i64 r1.2.At]]), (20, (.slice Z1 three.f.length cz1)), (21, .agg #[.int .i64 1, .int .i64 5]), (22, .slice (some ⟨b1, 0, none⟩) 1 1), (23, .slice (some ⟨b2, 0, none⟩) 1 1), (24, .slice (some ⟨b3, 0, none⟩) 1 1), (25, .tuple #[(.slice Z2 r1.1.length cz2), .agg #[.int .i64 r1.2.Code, .int .i64 r1.2.At]]), (26, (.slice Z2 r1.1.length cz2)), (27, .agg #[.int .i64 r1.2.Code, .int .i64 r1.2.At])] w := by
  simp only [TasksJobs.p0] at h
  refine we_seq fun K4 hK4 => ?_
  refine we_region [(0, 0), (1, 0), (2, 0), (3, 0), (4, 0), (5, 0), (6, 1), (7, 1), (8, 0), (9, 0)] rfl ?_
  refine ge_batch [0, 1, 2, 3] (ans := [.val (.int .i64 r1.2.Code)]) (vs := [(31, .bool (r1.2.Code != 0)), (30, .bool (r1.2.Code != 0)), (29, .int .i64 r1.2.Code), (28, .pointer (some ⟨b4, 0, none⟩))]) (l := [.loaded ⟨b4, 0, none⟩ (.int .i64 r1.2.Code)]) (by kernel_rfl) ⟨hS.cell 0 rfl rfl, trivial⟩ ?_
  by_cases hc1 : r1.2.Code = 0
  · rw [if_pos hc1] at h
    refine ge_known (t := 31) (b := (r1.2.Code != 0)) (c := false) (by kernel_rfl) (bne_eq_false_iff_eq.2 hc1) ?_
    refine ge_batch [4, 5] (ans := []) (vs := [(33, .agg #[.int .i64 1, .int .i64 5, .int .i64 2, .int .i64 11, .int .i64 2]), (32, (.slice Z2 r1.1.length cz2))]) (l := []) (by kernel_rfl) trivial ?_
    refine ge_new (d := some 34) (o := .cells #[.int .i64 1, .int .i64 5, .int .i64 2, .int .i64 11, .int .i64 2] 30) (v := fun b => .slice (some ⟨b, 0, none⟩) 1 1) hS (fun b => by kernel_rfl) fun b5 w8 hx5 hS11 => ?_
    rcases hq3 : punctualsame_Same_api_Job.f K r1.1 ([(⟨1, 5, 2, 11, 2⟩ : SJob)] : List SJob) with _ | r2
    · rw [hq3] at h; cases h
    rw [hq3] at h
    simp only [] at h
    refine ge_call (d := some 35) (f := 26) (args := #[(.slice Z2 r1.1.length cz2), .slice (some ⟨b5, 0, none⟩) 1 1]) (by kernel_rfl) (punctualsame_Same_api_Job_ok K r1.1 Z2 cz2 ([(⟨1, 5, 2, 11, 2⟩ : SJob)] : List SJob) (some ⟨b5, 0, none⟩) 1 _ (hS11.rdAt 2 rfl) (hS11.capAt 2 rfl) (hS11.rdBlk 0 ([(⟨1, 5, 2, 11, 2⟩ : SJob)] : List SJob) rfl rfl rfl) (Nat.le_refl _) _ hq3) ?_
    rintro _ w9 ⟨rfl, hS12⟩
    refine ⟨_, rfl, hS12.below, ?_⟩
    have hS13 := hS11.call hS12
    refine ge_batch [8, 9] (ans := []) (vs := [(37, .bool (!r2)), (36, .bool (!r2))]) (l := []) (by kernel_rfl) trivial ?_
    refine ge_nil fun a hF => hK4 _ _ ?_ a hF
    by_cases hc2 : r2 = true
    · rw [if_pos hc2] at h
      refine we_known (t := 37) (b := !r2) (v := false) (by kernel_rfl) (congrArg (fun z => !z) hc2) ?_
      refine we_false (by kernel_rfl) ?_
      have hS14 := hS13.takeN 0
      obtain rfl := Option.some.inj h
      exact we_skip fun a hF => hQ _ _ _ (Outs.again ⟨hS14, hF.weaken ⟨by kernel_rfl, by kernel_rfl, by kernel_rfl, by kernel_rfl, trivial⟩⟩)
    · rw [if_neg hc2] at h
      refine we_known (t := 37) (b := !r2) (v := true) (by kernel_rfl) (congrArg (fun z => !z) (Bool.eq_false_iff.2 hc2)) ?_
      refine we_true (by kernel_rfl) ?_
      refine we_seq fun K5 hK5 => ?_
      refine we_region [(0, 0)] rfl ?_
      refine ge_batch [0] (ans := []) (vs := [(8, .bool false)]) (l := []) (by kernel_rfl) trivial ?_
      refine ge_nil fun a hF => hK5 _ _ ?_ a hF
      have hS15 := hS13.takeN 0
      obtain rfl := Option.some.inj h
      exact we_ret fun a hF => hQ _ _ _ (Outs.out nofun ⟨rfl, (post_ret (rs := [.tmp 8]) (ans := []) (vs := [.bool false]) (l := []) rfl (by kernel_rfl) trivial ⟨rfl, hS15⟩) a hF⟩)
  · rw [if_neg hc1] at h
    refine ge_known (t := 31) (b := (r1.2.Code != 0)) (c := true) (by kernel_rfl) (bne_iff_ne.2 hc1) ?_
    refine ge_batch [4, 5] (ans := []) (vs := [(33, undef), (32, undef)]) (l := []) (by kernel_rfl) trivial ?_
    refine ge_off rfl rfl rfl (by kernel_rfl) ?_
    refine ge_off rfl rfl rfl (by kernel_rfl) ?_
    refine ge_batch [8, 9] (ans := []) (vs := [(37, .bool true), (36, undef)]) (l := []) (by kernel_rfl) trivial ?_
    refine ge_nil fun a hF => hK4 _ _ ?_ a hF
    refine we_true (by kernel_rfl) ?_
    refine we_seq fun K6 hK6 => ?_
    refine we_region [(0, 0)] rfl ?_
    refine ge_batch [0] (ans := []) (vs := [(8, .bool false)]) (l := []) (by kernel_rfl) trivial ?_
    refine ge_nil fun a hF => hK6 _ _ ?_ a hF
    have hS16 := hS.takeN 0
    obtain rfl := Option.some.inj h
    exact we_ret fun a hF => hQ _ _ _ (Outs.out nofun ⟨rfl, (post_ret (rs := [.tmp 8]) (ans := []) (vs := [.bool false]) (l := []) rfl (by kernel_rfl) trivial ⟨rfl, hS16⟩) a hF⟩)
abbrev TasksJobs.A1 (K : Nat) (w0 : World) (l0 : List STask) (A0 : Option Addr) (c0 : Nat) (l1 : List SCome) (A1 : Option Addr) (c1 : Nat) (l2 : List Int) (A2 : Option Addr) (c2 : Nat) (l3 : List Int) (A3 : Option Addr) (c3 : Nat) (hR0 : RdL w0 A0 l0) (hL0 : l0.length ≤ c0) (hR1 : RdL w0 A1 l1) (hL1 : l1.length ≤ c1) (hR2 : RdL w0 A2 l2) (hL2 : l2.length ≤ c2) (hR3 : RdL w0 A3 l3) (hL3 : l3.length ≤ c3) (hG1 : Glob w0 1 [.string (⟨#[63]⟩), .int .i64 (-9), .int .i64 0, .int .i64 0, .int .i64 0, .int .i64 0, .int .i64 0]) (hG2 : Glob w0 2 [.int .i64 (-9), .int .i64 0]) (b1 : Nat) (b2 : Nat) (b3 : Nat) (Z1 : Option Addr) (cz1 : Nat) (r1 : (List SJob) × SFault) (b4 : Nat) (Z2 : Option Addr) (cz2 : Nat) : Unit → Act → World → Prop := fun (s : Unit) a w => St w0 w [] ∧ Frm 120 a [(0, .slice A0 l0.length c0), (1, .slice A1 l1.length c1), (2, .slice A2 l2.length c2), (3, .slice A3 l3.length c3)]
abbrev TasksJobs.B1 (K : Nat) (w0 : World) (l0 : List STask) (A0 : Option Addr) (c0 : Nat) (l1 : List SCome) (A1 : Option Addr) (c1 : Nat) (l2 : List Int) (A2 : Option Addr) (c2 : Nat) (l3 : List Int) (A3 : Option Addr) (c3 : Nat) (hR0 : RdL w0 A0 l0) (hL0 : l0.length ≤ c0) (hR1 : RdL w0 A1 l1) (hL1 : l1.length ≤ c1) (hR2 : RdL w0 A2 l2) (hL2 : l2.length ≤ c2) (hR3 : RdL w0 A3 l3) (hL3 : l3.length ≤ c3) (hG1 : Glob w0 1 [.string (⟨#[63]⟩), .int .i64 (-9), .int .i64 0, .int .i64 0, .int .i64 0, .int .i64 0, .int .i64 0]) (hG2 : Glob w0 2 [.int .i64 (-9), .int .i64 0]) (b1 : Nat) (b2 : Nat) (b3 : Nat) (Z1 : Option Addr) (cz1 : Nat) (r1 : (List SJob) × SFault) (b4 : Nat) (Z2 : Option Addr) (cz2 : Nat) : Bool → Exit → Act → World → Prop := Rets Tryd.prog Tryd.f5 (TasksJobs.Post w0)
theorem TasksJobs_p1 (K : Nat) (w0 : World) (l0 : List STask) (A0 : Option Addr) (c0 : Nat) (l1 : List SCome) (A1 : Option Addr) (c1 : Nat) (l2 : List Int) (A2 : Option Addr) (c2 : Nat) (l3 : List Int) (A3 : Option Addr) (c3 : Nat) (hR0 : RdL w0 A0 l0) (hL0 : l0.length ≤ c0) (hR1 : RdL w0 A1 l1) (hL1 : l1.length ≤ c1) (hR2 : RdL w0 A2 l2) (hL2 : l2.length ≤ c2) (hR3 : RdL w0 A3 l3) (hL3 : l3.length ≤ c3) (hG1 : Glob w0 1 [.string (⟨#[63]⟩), .int .i64 (-9), .int .i64 0, .int .i64 0, .int .i64 0, .int .i64 0, .int .i64 0]) (hG2 : Glob w0 2 [.int .i64 (-9), .int .i64 0]) (b1 : Nat) (b2 : Nat) (b3 : Nat) (Z1 : Option Addr) (cz1 : Nat) (r1 : (List SJob) × SFault) (b4 : Nat) (Z2 : Option Addr) (cz2 : Nat) (o : Unit ⊕ Bool) (h : TasksJobs.p1 l0 l1 l2 l3 = some o) (w : World) (hS : St w0 w []) (Q : Exit → Act → World → Prop) (hQ : ∀ x a w, Outs (TasksJobs.A1 K w0 l0 A0 c0 l1 A1 c1 l2 A2 c2 l3 A3 c3 hR0 hL0 hR1 hL1 hR2 hL2 hR3 hL3 hG1 hG2 b1 b2 b3 Z1 cz1 r1 b4 Z2 cz2) (TasksJobs.B1 K w0 l0 A0 c0 l1 A1 c1 l2 A2 c2 l3 A3 c3 hR0 hL0 hR1 hL1 hR2 hL2 hR3 hL3 hG1 hG2 b1 b2 b3 Z1 cz1 r1 b4 Z2 cz2) o x a w → Q x a w) : WE Tryd.prog 120 (subF Tryd.f5 [1, 1, 1, 0]) Q [(0, .slice A0 l0.length c0), (1, .slice A1 l1.length c1), (2, .slice A2 l2.length c2), (3, .slice A3 l3.length c3)] w := by
  simp only [TasksJobs.p1] at h
  refine we_seq fun K8 hK8 => ?_
  refine we_region [(0, 0), (1, 0), (2, 1), (3, 0), (4, 0), (5, 0), (6, 0), (7, 1), (8, 0), (9, 0), (10, 0), (11, 0), (12, 0), (13, 1), (14, 0), (15, 0), (16, 0), (17, 0), (18, 0), (19, 1), (20, 0), (21, 0)] rfl ?_
  refine ge_batch [0, 1] (ans := []) (vs := [(39, .int .i64 (l0.length : Int)), (38, .slice A0 l0.length c0)]) (l := []) (by kernel_rfl) trivial ?_
  refine ge_call (d := some 40) (f := 13) (args := #[.int .i64 (l0.length : Int)]) (by kernel_rfl) (few_ok (l0.length : Int) _ _ rfl) ?_
  rintro _ w11 ⟨rfl, hS18⟩
  refine ⟨_, rfl, hS18.below, ?_⟩
  have hS19 := hS.call hS18
  refine ge_batch [3, 4] (ans := []) (vs := [(42, .bool (!(few.f (l0.length : Int)))), (41, .bool (!(few.f (l0.length : Int))))]) (l := []) (by kernel_rfl) trivial ?_
  by_cases hc3 : (few.f (l0.length : Int)) = true
  · rw [if_pos hc3] at h
    refine ge_known (t := 42) (b := !(few.f (l0.length : Int))) (c := false) (by kernel_rfl) (congrArg (fun z => !z) hc3) ?_
    refine ge_batch [5, 6] (ans := []) (vs := [(44, .int .i64 (l1.length : Int)), (43, .slice A1 l1.length c1)]) (l := []) (by kernel_rfl) trivial ?_
    refine ge_call (d := some 45) (f := 13) (args := #[.int .i64 (l1.length : Int)]) (by kernel_rfl) (few_ok (l1.length : Int) _ _ rfl) ?_
    rintro _ w12 ⟨rfl, hS20⟩
    refine ⟨_, rfl, hS20.below, ?_⟩
    have hS21 := hS19.call hS20
    refine ge_batch [8, 9, 10] (ans := []) (vs := [(48, .bool (!(few.f (l1.length : Int)))), (47, .bool (!(few.f (l1.length : Int)))), (46, .bool (!(few.f (l1.length : Int))))]) (l := []) (by kernel_rfl) trivial ?_
    by_cases hc4 : (few.f (l1.length : Int)) = true
    · rw [if_pos hc4] at h
      refine ge_known (t := 48) (b := !(few.f (l1.length : Int))) (c := false) (by kernel_rfl) (congrArg (fun z => !z) hc4) ?_
      refine ge_batch [11, 12] (ans := []) (vs := [(50, .int .i64 (l2.length : Int)), (49, .slice A2 l2.length c2)]) (l := []) (by kernel_rfl) trivial ?_
      refine ge_call (d := some 51) (f := 13) (args := #[.int .i64 (l2.length : Int)]) (by kernel_rfl) (few_ok (l2.length : Int) _ _ rfl) ?_
      rintro _ w13 ⟨rfl, hS22⟩
      refine ⟨_, rfl, hS22.below, ?_⟩
      have hS23 := hS21.call hS22
      refine ge_batch [14, 15, 16] (ans := []) (vs := [(54, .bool (!(few.f (l2.length : Int)))), (53, .bool (!(few.f (l2.length : Int)))), (52, .bool (!(few.f (l2.length : Int))))]) (l := []) (by kernel_rfl) trivial ?_
      by_cases hc5 : (few.f (l2.length : Int)) = true
      · rw [if_pos hc5] at h
        refine ge_known (t := 54) (b := !(few.f (l2.length : Int))) (c := false) (by kernel_rfl) (congrArg (fun z => !z) hc5) ?_
        refine ge_batch [17, 18] (ans := []) (vs := [(56, .int .i64 (l3.length : Int)), (55, .slice A3 l3.length c3)]) (l := []) (by kernel_rfl) trivial ?_
        refine ge_call (d := some 57) (f := 13) (args := #[.int .i64 (l3.length : Int)]) (by kernel_rfl) (few_ok (l3.length : Int) _ _ rfl) ?_
        rintro _ w14 ⟨rfl, hS24⟩
        refine ⟨_, rfl, hS24.below, ?_⟩
        have hS25 := hS23.call hS24
        refine ge_batch [20, 21] (ans := []) (vs := [(59, .bool (!(few.f (l3.length : Int)))), (58, .bool (!(few.f (l3.length : Int))))]) (l := []) (by kernel_rfl) trivial ?_
        refine ge_nil fun a hF => hK8 _ _ ?_ a hF
        by_cases hc6 : (few.f (l3.length : Int)) = true
        · rw [if_pos hc6] at h
          refine we_known (t := 59) (b := !(few.f (l3.length : Int))) (v := false) (by kernel_rfl) (congrArg (fun z => !z) hc6) ?_
          refine we_false (by kernel_rfl) ?_
          obtain rfl := Option.some.inj h
          exact we_skip fun a hF => hQ _ _ _ (Outs.again ⟨hS25, hF.weaken ⟨by kernel_rfl, by kernel_rfl, by kernel_rfl, by kernel_rfl, trivial⟩⟩)
        · rw [if_neg hc6] at h
          refine we_known (t := 59) (b := !(few.f (l3.length : Int))) (v := true) (by kernel_rfl) (congrArg (fun z => !z) (Bool.eq_false_iff.2 hc6)) ?_
          refine we_true (by kernel_rfl) ?_
          refine we_seq fun K9 hK9 => ?_
          refine we_region [(0, 0)] rfl ?_
          refine ge_batch [0] (ans := []) (vs := [(8, .bool true)]) (l := []) (by kernel_rfl) trivial ?_
          refine ge_nil fun a hF => hK9 _ _ ?_ a hF
          obtain rfl := Option.some.inj h
          exact we_ret fun a hF => hQ _ _ _ (Outs.out nofun ⟨rfl, (post_ret (rs := [.tmp 8]) (ans := []) (vs := [.bool true]) (l := []) rfl (by kernel_rfl) trivial ⟨rfl, hS25⟩) a hF⟩)
      · rw [if_neg hc5] at h
        refine ge_known (t := 54) (b := !(few.f (l2.length : Int))) (c := true) (by kernel_rfl) (congrArg (fun z => !z) (Bool.eq_false_iff.2 hc5)) ?_
        refine ge_batch [17, 18] (ans := []) (vs := [(56, undef), (55, undef)]) (l := []) (by kernel_rfl) trivial ?_
        refine ge_off rfl rfl rfl (by kernel_rfl) ?_
        refine ge_batch [20, 21] (ans := []) (vs := [(59, .bool true), (58, undef)]) (l := []) (by kernel_rfl) trivial ?_
        refine ge_nil fun a hF => hK8 _ _ ?_ a hF
        refine we_true (by kernel_rfl) ?_
        refine we_seq fun K10 hK10 => ?_
        refine we_region [(0, 0)] rfl ?_
        refine ge_batch [0] (ans := []) (vs := [(8, .bool true)]) (l := []) (by kernel_rfl) trivial ?_
        refine ge_nil fun a hF => hK10 _ _ ?_ a hF
        obtain rfl := Option.some.inj h
        exact we_ret fun a hF => hQ _ _ _ (Outs.out nofun ⟨rfl, (post_ret (rs := [.tmp 8]) (ans := []) (vs := [.bool true]) (l := []) rfl (by kernel_rfl) trivial ⟨rfl, hS23⟩) a hF⟩)
    · rw [if_neg hc4] at h
      refine ge_known (t := 48) (b := !(few.f (l1.length : Int))) (c := true) (by kernel_rfl) (congrArg (fun z => !z) (Bool.eq_false_iff.2 hc4)) ?_
      refine ge_batch [11, 12] (ans := []) (vs := [(50, undef), (49, undef)]) (l := []) (by kernel_rfl) trivial ?_
      refine ge_off rfl rfl rfl (by kernel_rfl) ?_
      refine ge_batch [14, 15, 16, 17, 18] (ans := []) (vs := [(56, undef), (55, undef), (54, .bool true), (53, .bool true), (52, undef)]) (l := []) (by kernel_rfl) trivial ?_
      refine ge_off rfl rfl rfl (by kernel_rfl) ?_
      refine ge_batch [20, 21] (ans := []) (vs := [(59, .bool true), (58, undef)]) (l := []) (by kernel_rfl) trivial ?_
      refine ge_nil fun a hF => hK8 _ _ ?_ a hF
      refine we_true (by kernel_rfl) ?_
      refine we_seq fun K11 hK11 => ?_
      refine we_region [(0, 0)] rfl ?_
      refine ge_batch [0] (ans := []) (vs := [(8, .bool true)]) (l := []) (by kernel_rfl) trivial ?_
      refine ge_nil fun a hF => hK11 _ _ ?_ a hF
      obtain rfl := Option.some.inj h
      exact we_ret fun a hF => hQ _ _ _ (Outs.out nofun ⟨rfl, (post_ret (rs := [.tmp 8]) (ans := []) (vs := [.bool true]) (l := []) rfl (by kernel_rfl) trivial ⟨rfl, hS21⟩) a hF⟩)
  · rw [if_neg hc3] at h
    refine ge_known (t := 42) (b := !(few.f (l0.length : Int))) (c := true) (by kernel_rfl) (congrArg (fun z => !z) (Bool.eq_false_iff.2 hc3)) ?_
    refine ge_batch [5, 6] (ans := []) (vs := [(44, undef), (43, undef)]) (l := []) (by kernel_rfl) trivial ?_
    refine ge_off rfl rfl rfl (by kernel_rfl) ?_
    refine ge_batch [8, 9, 10, 11, 12] (ans := []) (vs := [(50, undef), (49, undef), (48, .bool true), (47, .bool true), (46, undef)]) (l := []) (by kernel_rfl) trivial ?_
    refine ge_off rfl rfl rfl (by kernel_rfl) ?_
    refine ge_batch [14, 15, 16, 17, 18] (ans := []) (vs := [(56, undef), (55, undef), (54, .bool true), (53, .bool true), (52, undef)]) (l := []) (by kernel_rfl) trivial ?_
    refine ge_off rfl rfl rfl (by kernel_rfl) ?_
    refine ge_batch [20, 21] (ans := []) (vs := [(59, .bool true), (58, undef)]) (l := []) (by kernel_rfl) trivial ?_
    refine ge_nil fun a hF => hK8 _ _ ?_ a hF
    refine we_true (by kernel_rfl) ?_
    refine we_seq fun K12 hK12 => ?_
    refine we_region [(0, 0)] rfl ?_
    refine ge_batch [0] (ans := []) (vs := [(8, .bool true)]) (l := []) (by kernel_rfl) trivial ?_
    refine ge_nil fun a hF => hK12 _ _ ?_ a hF
    obtain rfl := Option.some.inj h
    exact we_ret fun a hF => hQ _ _ _ (Outs.out nofun ⟨rfl, (post_ret (rs := [.tmp 8]) (ans := []) (vs := [.bool true]) (l := []) rfl (by kernel_rfl) trivial ⟨rfl, hS19⟩) a hF⟩)
abbrev TasksJobs.A2 (K : Nat) (w0 : World) (l0 : List STask) (A0 : Option Addr) (c0 : Nat) (l1 : List SCome) (A1 : Option Addr) (c1 : Nat) (l2 : List Int) (A2 : Option Addr) (c2 : Nat) (l3 : List Int) (A3 : Option Addr) (c3 : Nat) (hR0 : RdL w0 A0 l0) (hL0 : l0.length ≤ c0) (hR1 : RdL w0 A1 l1) (hL1 : l1.length ≤ c1) (hR2 : RdL w0 A2 l2) (hL2 : l2.length ≤ c2) (hR3 : RdL w0 A3 l3) (hL3 : l3.length ≤ c3) (hG1 : Glob w0 1 [.string (⟨#[63]⟩), .int .i64 (-9), .int .i64 0, .int .i64 0, .int .i64 0, .int .i64 0, .int .i64 0]) (hG2 : Glob w0 2 [.int .i64 (-9), .int .i64 0]) (b1 : Nat) (b2 : Nat) (b3 : Nat) (Z1 : Option Addr) (cz1 : Nat) (r1 : (List SJob) × SFault) (b4 : Nat) (Z2 : Option Addr) (cz2 : Nat) (r3 : (List SJob) × SFault) (b6 : Nat) (Z3 : Option Addr) (cz3 : Nat) (hcp1 : (l0 ++ [(⟨⟨#[63]⟩, (-9), 0, 0, 0, 0, 0⟩ : STask), (⟨⟨#[63]⟩, (-9), 0, 0, 0, 0, 0⟩ : STask), (⟨⟨#[63]⟩, (-9), 0, 0, 0, 0, 0⟩ : STask)]).length ≤ cz3) (Z4 : Option Addr) (cz4 : Nat) (hcp2 : (l1 ++ [(⟨(-9), 0⟩ : SCome), (⟨(-9), 0⟩ : SCome), (⟨(-9), 0⟩ : SCome)]).length ≤ cz4) (Z5 : Option Addr) (cz5 : Nat) (hcp3 : (l2 ++ [(-9), (-9), (-9)]).length ≤ cz5) (Z6 : Option Addr) (cz6 : Nat) (hcp4 : (l3 ++ [(-9), (-9), (-9)]).length ≤ cz6) (Z7 : Option Addr) (cz7 : Nat) : Nat → Act → World → Prop := fun (s : Nat) a w => St w0 w [Own.blk b6 (.cells #[.int .i64 r3.2.Code, .int .i64 r3.2.At] 26 (0, 0)), Own.of (.slice Z7 r3.1.length cz7) 30 r3.1, Own.of (.slice Z3 (l0 ++ [(⟨⟨#[63]⟩, (-9), 0, 0, 0, 0, 0⟩ : STask), (⟨⟨#[63]⟩, (-9), 0, 0, 0, 0, 0⟩ : STask), (⟨⟨#[63]⟩, (-9), 0, 0, 0, 0, 0⟩ : STask)]).length cz3) 46 (l0 ++ [(⟨⟨#[63]⟩, (-9), 0, 0, 0, 0, 0⟩ : STask), (⟨⟨#[63]⟩, (-9), 0, 0, 0, 0, 0⟩ : STask), (⟨⟨#[63]⟩, (-9), 0, 0, 0, 0, 0⟩ : STask)]), Own.of (.slice Z4 (l1 ++ [(⟨(-9), 0⟩ : SCome), (⟨(-9), 0⟩ : SCome), (⟨(-9), 0⟩ : SCome)]).length cz4) 53 (l1 ++ [(⟨(-9), 0⟩ : SCome), (⟨(-9), 0⟩ : SCome), (⟨(-9), 0⟩ : SCome)]), Own.of (.slice Z5 (l2 ++ [(-9), (-9), (-9)]).length cz5) 3 (l2 ++ [(-9), (-9), (-9)]), Own.of (.slice Z6 (l3 ++ [(-9), (-9), (-9)]).length cz6) 3 (l3 ++ [(-9), (-9), (-9)])] ∧ Frm 120 a [(0, .slice A0 l0.length c0), (1, .slice A1 l1.length c1), (2, .slice A2 l2.length c2), (3, .slice A3 l3.length c3), (11, (.slice Z7 r3.1.length cz7)), (12, .pointer (some ⟨b6, 0, none⟩)), (13, .slice Z3 l0.length cz3), (14, .slice Z4 l1.length cz4), (15, .slice Z5 l2.length cz5), (16, .slice Z6 l3.length cz6), (78, .int .i64 (s : Int))]
abbrev TasksJobs.B2 (K : Nat) (w0 : World) (l0 : List STask) (A0 : Option Addr) (c0 : Nat) (l1 : List SCome) (A1 : Option Addr) (c1 : Nat) (l2 : List Int) (A2 : Option Addr) (c2 : Nat) (l3 : List Int) (A3 : Option Addr) (c3 : Nat) (hR0 : RdL w0 A0 l0) (hL0 : l0.length ≤ c0) (hR1 : RdL w0 A1 l1) (hL1 : l1.length ≤ c1) (hR2 : RdL w0 A2 l2) (hL2 : l2.length ≤ c2) (hR3 : RdL w0 A3 l3) (hL3 : l3.length ≤ c3) (hG1 : Glob w0 1 [.string (⟨#[63]⟩), .int .i64 (-9), .int .i64 0, .int .i64 0, .int .i64 0, .int .i64 0, .int .i64 0]) (hG2 : Glob w0 2 [.int .i64 (-9), .int .i64 0]) (b1 : Nat) (b2 : Nat) (b3 : Nat) (Z1 : Option Addr) (cz1 : Nat) (r1 : (List SJob) × SFault) (b4 : Nat) (Z2 : Option Addr) (cz2 : Nat) (r3 : (List SJob) × SFault) (b6 : Nat) (Z3 : Option Addr) (cz3 : Nat) (hcp1 : (l0 ++ [(⟨⟨#[63]⟩, (-9), 0, 0, 0, 0, 0⟩ : STask), (⟨⟨#[63]⟩, (-9), 0, 0, 0, 0, 0⟩ : STask), (⟨⟨#[63]⟩, (-9), 0, 0, 0, 0, 0⟩ : STask)]).length ≤ cz3) (Z4 : Option Addr) (cz4 : Nat) (hcp2 : (l1 ++ [(⟨(-9), 0⟩ : SCome), (⟨(-9), 0⟩ : SCome), (⟨(-9), 0⟩ : SCome)]).length ≤ cz4) (Z5 : Option Addr) (cz5 : Nat) (hcp3 : (l2 ++ [(-9), (-9), (-9)]).length ≤ cz5) (Z6 : Option Addr) (cz6 : Nat) (hcp4 : (l3 ++ [(-9), (-9), (-9)]).length ≤ cz6) (Z7 : Option Addr) (cz7 : Nat) : (Unit ⊕ Bool) → Exit → Act → World → Prop := Exits 0 (fun (s : Unit) a w => St w0 w [Own.of (.slice Z3 (l0 ++ [(⟨⟨#[63]⟩, (-9), 0, 0, 0, 0, 0⟩ : STask), (⟨⟨#[63]⟩, (-9), 0, 0, 0, 0, 0⟩ : STask), (⟨⟨#[63]⟩, (-9), 0, 0, 0, 0, 0⟩ : STask)]).length cz3) 46 (l0 ++ [(⟨⟨#[63]⟩, (-9), 0, 0, 0, 0, 0⟩ : STask), (⟨⟨#[63]⟩, (-9), 0, 0, 0, 0, 0⟩ : STask), (⟨⟨#[63]⟩, (-9), 0, 0, 0, 0, 0⟩ : STask)]), Own.of (.slice Z4 (l1 ++ [(⟨(-9), 0⟩ : SCome), (⟨(-9), 0⟩ : SCome), (⟨(-9), 0⟩ : SCome)]).length cz4) 53 (l1 ++ [(⟨(-9), 0⟩ : SCome), (⟨(-9), 0⟩ : SCome), (⟨(-9), 0⟩ : SCome)]), Own.of (.slice Z5 (l2 ++ [(-9), (-9), (-9)]).length cz5) 3 (l2 ++ [(-9), (-9), (-9)]), Own.of (.slice Z6 (l3 ++ [(-9), (-9), (-9)]).length cz6) 3 (l3 ++ [(-9), (-9), (-9)])] ∧ Frm 120 a [(0, .slice A0 l0.length c0), (1, .slice A1 l1.length c1), (2, .slice A2 l2.length c2), (3, .slice A3 l3.length c3), (13, .slice Z3 l0.length cz3), (14, .slice Z4 l1.length cz4), (15, .slice Z5 l2.length cz5), (16, .slice Z6 l3.length cz6)]) (Rets Tryd.prog Tryd.f5 (TasksJobs.Post w0))
theorem TasksJobs_r2 (K : Nat) (w0 : World) (l0 : List STask) (A0 : Option Addr) (c0 : Nat) (l1 : List SCome) (A1 : Option Addr) (c1 : Nat) (l2 : List Int) (A2 : Option Addr) (c2 : Nat) (l3 : List Int) (A3 : Option Addr) (c3 : Nat) (hR0 : RdL w0 A0 l0) (hL0 : l0.length ≤ c0) (hR1 : RdL w0 A1 l1) (hL1 : l1.length ≤ c1) (hR2 : RdL w0 A2 l2) (hL2 : l2.length ≤ c2) (hR3 : RdL w0 A3 l3) (hL3 : l3.length ≤ c3) (hG1 : Glob w0 1 [.string (⟨#[63]⟩), .int .i64 (-9), .int .i64 0, .int .i64 0, .int .i64 0, .int .i64 0, .int .i64 0]) (hG2 : Glob w0 2 [.int .i64 (-9), .int .i64 0]) (b1 : Nat) (b2 : Nat) (b3 : Nat) (Z1 : Option Addr) (cz1 : Nat) (r1 : (List SJob) × SFault) (b4 : Nat) (Z2 : Option Addr) (cz2 : Nat) (r3 : (List SJob) × SFault) (b6 : Nat) (Z3 : Option Addr) (cz3 : Nat) (hcp1 : (l0 ++ [(⟨⟨#[63]⟩, (-9), 0, 0, 0, 0, 0⟩ : STask), (⟨⟨#[63]⟩, (-9), 0, 0, 0, 0, 0⟩ : STask), (⟨⟨#[63]⟩, (-9), 0, 0, 0, 0, 0⟩ : STask)]).length ≤ cz3) (Z4 : Option Addr) (cz4 : Nat) (hcp2 : (l1 ++ [(⟨(-9), 0⟩ : SCome), (⟨(-9), 0⟩ : SCome), (⟨(-9), 0⟩ : SCome)]).length ≤ cz4) (Z5 : Option Addr) (cz5 : Nat) (hcp3 : (l2 ++ [(-9), (-9), (-9)]).length ≤ cz5) (Z6 : Option Addr) (cz6 : Nat) (hcp4 : (l3 ++ [(-9), (-9), (-9)]).length ≤ cz6) (Z7 : Option Addr) (cz7 : Nat) (s : Nat) (o : Nat ⊕ (Unit ⊕ Bool)) (h : TasksJobs.r2 K l0 l1 l2 l3 r3 s = some o) (a : Act) (w : World) (hA : TasksJobs.A2 K w0 l0 A0 c0 l1 A1 c1 l2 A2 c2 l3 A3 c3 hR0 hL0 hR1 hL1 hR2 hL2 hR3 hL3 hG1 hG2 b1 b2 b3 Z1 cz1 r1 b4 Z2 cz2 r3 b6 Z3 cz3 hcp1 Z4 cz4 hcp2 Z5 cz5 hcp3 Z6 cz6 hcp4 Z7 cz7 s a w) (Q : Exit → Act → World → Prop) (hQ : ∀ x a w, Outs (TasksJobs.A2 K w0 l0 A0 c0 l1 A1 c1 l2 A2 c2 l3 A3 c3 hR0 hL0 hR1 hL1 hR2 hL2 hR3 hL3 hG1 hG2 b1 b2 b3 Z1 cz1 r1 b4 Z2 cz2 r3 b6 Z3 cz3 hcp1 Z4 cz4 hcp2 Z5 cz5 hcp3 Z6 cz6 hcp4 Z7 cz7) (TasksJobs.B2 K w0 l0 A0 c0 l1 A1 c1 l2 A2 c2 l3 A3 c3 hR0 hL0 hR1 hL1 hR2 hL2 hR3 hL3 hG1 hG2 b1 b2 b3 Z1 cz1 r1 b4 Z2 cz2 r3 b6 Z3 cz3 hcp1 Z4 cz4 hcp2 Z5 cz5 hcp3 Z6 cz6 hcp4 Z7 cz7) o x a w → Q x a w) : (subF Tryd.f5 [1, 1, 1, 1, 1, 1, 0, 1, 0, 0]).wp Tryd.prog Q a w := by
  obtain ⟨i1, hs⟩ : ∃ z, z = s := ⟨s, rfl⟩
  subst hs
  obtain ⟨hS, hF⟩ := hA
  replace hS : St w0 w [Own.blk b6 (.cells #[.int .i64 r3.2.Code, .int .i64 r3.2.At] 26 (0, 0)), Own.of (.slice Z7 r3.1.length cz7) 30 r3.1, Own.of (.slice Z3 (l0 ++ [(⟨⟨#[63]⟩, (-9), 0, 0, 0, 0, 0⟩ : STask), (⟨⟨#[63]⟩, (-9), 0, 0, 0, 0, 0⟩ : STask), (⟨⟨#[63]⟩, (-9), 0, 0, 0, 0, 0⟩ : STask)]).length cz3) 46 (l0 ++ [(⟨⟨#[63]⟩, (-9), 0, 0, 0, 0, 0⟩ : STask), (⟨⟨#[63]⟩, (-9), 0, 0, 0, 0, 0⟩ : STask), (⟨⟨#[63]⟩, (-9), 0, 0, 0, 0, 0⟩ : STask)]), Own.of (.slice Z4 (l1 ++ [(⟨(-9), 0⟩ : SCome), (⟨(-9), 0⟩ : SCome), (⟨(-9), 0⟩ : SCome)]).length cz4) 53 (l1 ++ [(⟨(-9), 0⟩ : SCome), (⟨(-9), 0⟩ : SCome), (⟨(-9), 0⟩ : SCome)]), Own.of (.slice Z5 (l2 ++ [(-9), (-9), (-9)]).length cz5) 3 (l2 ++ [(-9), (-9), (-9)]), Own.of (.slice Z6 (l3 ++ [(-9), (-9), (-9)]).length cz6) 3 (l3 ++ [(-9), (-9), (-9)])] := hS
  simp only [TasksJobs.r2] at h
  refine (?_ : WE Tryd.prog 120 (subF Tryd.f5 [1, 1, 1, 1, 1, 1, 0, 1, 0, 0]) Q [(0, .slice A0 l0.length c0), (1, .slice A1 l1.length c1), (2, .slice A2 l2.length c2), (3, .slice A3 l3.length c3), (11, (.slice Z7 r3.1.length cz7)), (12, .pointer (some ⟨b6, 0, none⟩)), (13, .slice Z3 l0.length cz3), (14, .slice Z4 l1.length cz4), (15, .slice Z5 l2.length cz5), (16, .slice Z6 l3.length cz6), (78, .int .i64 (i1 : Int))] w) a hF
  clear hF a
  refine we_seq fun K17 hK17 => ?_
  refine we_region [(0, 0)] rfl ?_
  refine ge_batch [0] (ans := []) (vs := [(79, .bool (decide ((i1 : Int) < 2)))]) (l := []) (by kernel_rfl) trivial ?_
  refine ge_nil fun a hF => hK17 _ _ ?_ a hF
  refine we_seq fun K18 hK18 => ?_
  by_cases hc7 : (i1 : Int) < 2
  · rw [if_pos hc7] at h
    refine we_known (t := 79) (b := decide ((i1 : Int) < 2)) (v := true) (by kernel_rfl) (decide_eq_true hc7) ?_
    refine we_true (by kernel_rfl) ?_
    refine we_skip fun a hF => hK18 _ _ ?_ a hF
    refine we_seq fun K19 hK19 => ?_
    refine we_block ?_
    refine we_seq fun K20 hK20 => ?_
    refine we_region [(0, 0), (1, 0), (2, 0), (3, 0), (4, 1), (5, 0), (6, 0), (7, 0), (8, 1), (9, 0), (10, 2)] rfl ?_
    rcases hq15 : tasks_Jobs.f K l0 l1 l2 l3 with _ | r8
    · rw [hq15] at h; cases h
    rw [hq15] at h
    simp only [] at h
    refine ge_batch [0, 1, 2, 3] (ans := []) (vs := [(84, .slice Z6 l3.length cz6), (83, .slice Z5 l2.length cz5), (82, .slice Z4 l1.length cz4), (81, .slice Z3 l0.length cz3)]) (l := []) (by kernel_rfl) trivial ?_
    refine ge_call (d := some 85) (f := 25) (args := #[.slice Z3 l0.length cz3, .slice Z4 l1.length cz4, .slice Z5 l2.length cz5, .slice Z6 l3.length cz6]) (by kernel_rfl) (tasks_Jobs_ok K l0 Z3 cz3 l1 Z4 cz4 l2 Z5 cz5 l3 Z6 cz6 _ ((hS.rdAt 2 rfl).pre) (by have h0 := hcp1; simp only [List.length_append, List.length_cons, List.length_nil] at h0; omega) ((hS.rdAt 3 rfl).pre) (by have h0 := hcp2; simp only [List.length_append, List.length_cons, List.length_nil] at h0; omega) ((hS.rdAt 4 rfl).pre) (by have h0 := hcp3; simp only [List.length_append, List.length_cons, List.length_nil] at h0; omega) ((hS.rdAt 5 rfl).pre) (by have h0 := hcp4; simp only [List.length_append, List.length_cons, List.length_nil] at h0; omega) _ hq15) ?_
    rintro _ w23 ⟨v4, rfl, hS46⟩
    refine ⟨_, rfl, hS46.below, ?_⟩
    have hS47 := hS.call hS46
    refine ge_batch [5, 6, 7] (ans := []) (vs := [(87, .agg #[.int .i64 r8.2.Code, .int .i64 r8.2.At]), (86, v4), (80, .tuple #[v4, .agg #[.int .i64 r8.2.Code, .int .i64 r8.2.At]])]) (l := []) (by kernel_rfl) trivial ?_
    refine ge_new (d := some 18) (o := .cells #[.int .i64 0, .int .i64 0] 26) (v := fun b => .pointer (some ⟨b, 0, none⟩)) hS47 (fun b => by kernel_rfl) fun b7 w24 hx7 hS48 => ?_
    refine ge_batch [9] (ans := []) (vs := [(17, v4)]) (l := []) (by kernel_rfl) trivial ?_
    refine ge_set (b := b7) (j := 0) (cs := #[.int .i64 0, .int .i64 0]) (t := 26) (vs := [.int .i64 r8.2.Code, .int .i64 r8.2.At]) hS48 (by kernel_rfl) rfl rfl fun w25 hS49 => ?_
    have hS50 : St w0 w25 [Own.blk b7 (.cells #[.int .i64 r8.2.Code, .int .i64 r8.2.At] 26 (0, 0)), Own.of v4 30 r8.1, Own.blk b6 (.cells #[.int .i64 r3.2.Code, .int .i64 r3.2.At] 26 (0, 0)), Own.of (.slice Z7 r3.1.length cz7) 30 r3.1, Own.of (.slice Z3 (l0 ++ [(⟨⟨#[63]⟩, (-9), 0, 0, 0, 0, 0⟩ : STask), (⟨⟨#[63]⟩, (-9), 0, 0, 0, 0, 0⟩ : STask), (⟨⟨#[63]⟩, (-9), 0, 0, 0, 0, 0⟩ : STask)]).length cz3) 46 (l0 ++ [(⟨⟨#[63]⟩, (-9), 0, 0, 0, 0, 0⟩ : STask), (⟨⟨#[63]⟩, (-9), 0, 0, 0, 0, 0⟩ : STask), (⟨⟨#[63]⟩, (-9), 0, 0, 0, 0, 0⟩ : STask)]), Own.of (.slice Z4 (l1 ++ [(⟨(-9), 0⟩ : SCome), (⟨(-9), 0⟩ : SCome), (⟨(-9), 0⟩ : SCome)]).length cz4) 53 (l1 ++ [(⟨(-9), 0⟩ : SCome), (⟨(-9), 0⟩ : SCome), (⟨(-9), 0⟩ : SCome)]), Own.of (.slice Z5 (l2 ++ [(-9), (-9), (-9)]).length cz5) 3 (l2 ++ [(-9), (-9), (-9)]), Own.of (.slice Z6 (l3 ++ [(-9), (-9), (-9)]).length cz6) 3 (l3 ++ [(-9), (-9), (-9)])] := hS49
    refine ge_nil fun a hF => hK20 _ _ ?_ a hF
    refine we_seq fun K21 hK21 => ?_
    refine we_seq fun K22 hK22 => ?_
    refine we_region [(0, 0), (1, 0), (2, 0), (3, 0), (4, 0), (5, 0), (6, 1), (7, 0), (8, 0)] rfl ?_
    refine ge_batch [0, 1] (ans := [.val (.int .i64 r8.2.Code), .val (.int .i64 r8.2.At), .val (.int .i64 r3.2.Code), .val (.int .i64 r3.2.At)]) (vs := [(89, .agg #[.int .i64 r3.2.Code, .int .i64 r3.2.At]), (88, .agg #[.int .i64 r8.2.Code, .int .i64 r8.2.At])]) (l := [.loaded ⟨b7, 0, none⟩ (.int .i64 r8.2.Code), .loaded ⟨b7, 1, none⟩ (.int .i64 r8.2.At), .loaded ⟨b6, 0, none⟩ (.int .i64 r3.2.Code), .loaded ⟨b6, 1, none⟩ (.int .i64 r3.2.At)]) (by kernel_rfl) ⟨hS50.cell 0 rfl rfl, hS50.cell 0 rfl rfl, hS50.cell 2 rfl rfl, hS50.cell 2 rfl rfl, trivial⟩ ?_
    refine ge_eqs (d := 90) (ty := 4) (op := .neq) (x := (.tmp 88)) (y := (.tmp 89)) (t := 26) (t2 := 26) (xs := #[.int .i64 r8.2.Code, .int .i64 r8.2.At]) (ys := #[.int .i64 r3.2.Code, .int .i64 r3.2.At]) (r := (SFault.eqb r8.2 r3.2)) (v := !(SFault.eqb r8.2 r3.2)) (by kernel_rfl) (by kernel_rfl) (by kernel_rfl) (by kernel_rfl) (by kernel_rfl) rfl ?_
    refine ge_batch [3] (ans := []) (vs := [(91, .bool (!(SFault.eqb r8.2 r3.2)))]) (l := []) (by kernel_rfl) trivial ?_
    by_cases hc8 : (SFault.eqb r8.2 r3.2) = true
    · rw [if_pos hc8] at h
      refine ge_known (t := 91) (b := !(SFault.eqb r8.2 r3.2)) (c := false) (by kernel_rfl) (congrArg (fun z => !z) hc8) ?_
      refine ge_batch [4, 5] (ans := []) (vs := [(93, (.slice Z7 r3.1.length cz7)), (92, v4)]) (l := []) (by kernel_rfl) trivial ?_
      obtain ⟨Z8, cz8, rfl⟩ := hS50.open 1 rfl
      rcases hq16 : punctualsame_Same_api_Job.f K r8.1 r3.1 with _ | r9
      · rw [hq16] at h; cases h
      rw [hq16] at h
      simp only [] at h
      refine ge_call (d := some 94) (f := 26) (args := #[(.slice Z8 r8.1.length cz8), (.slice Z7 r3.1.length cz7)]) (by kernel_rfl) (punctualsame_Same_api_Job_ok K r8.1 Z8 cz8 r3.1 Z7 cz7 _ (hS50.rdAt 1 rfl) (hS50.capAt 1 rfl) (hS50.rdAt 3 rfl) (hS50.capAt 3 rfl) _ hq16) ?_
      rintro _ w26 ⟨rfl, hS51⟩
      refine ⟨_, rfl, hS51.below, ?_⟩
      have hS52 := hS50.call hS51
      refine ge_batch [7, 8] (ans := []) (vs := [(96, .bool (!r9)), (95, .bool (!r9))]) (l := []) (by kernel_rfl) trivial ?_
      refine ge_nil fun a hF => hK22 _ _ ?_ a hF
      by_cases hc9 : r9 = true
      · rw [if_pos hc9] at h
        refine we_known (t := 96) (b := !r9) (v := false) (by kernel_rfl) (congrArg (fun z => !z) hc9) ?_
        refine we_false (by kernel_rfl) ?_
        refine we_skip fun a hF => hK21 _ _ ?_ a hF
        refine we_region [(0, 0), (1, 2)] rfl ?_
        refine ge_batch [0] (ans := []) (vs := [(97, (.slice Z8 r8.1.length cz8))]) (l := []) (by kernel_rfl) trivial ?_
        have hS53 := hS52.bring 1 rfl
        refine ge_call2 (m := 0) (d := some 98) (f := 29) (args := #[.slice Z8 r8.1.length cz8]) (by kernel_rfl) (punctualsame_Spoil_api_Job_ok _ _ Z8 r8.1.length cz8 _ hS53) ?_
        rintro _ w27 ⟨rfl, hS54⟩
        refine ⟨_, rfl, ?_⟩
        refine ge_nil fun a hF => hK19 _ _ ?_ a hF
        refine we_region [(0, 0), (1, 0)] rfl ?_
        refine ge_addn (d := 99) (ty := 3) (x := (.tmp 78)) (y := (.const (.int .i64 1))) (t := 3) (t2 := 3) (k := .i64) (m := i1) (by kernel_rfl) (by kernel_rfl) (by kernel_rfl) (by omega) ?_
        refine ge_batch [1] (ans := []) (vs := [(78, .int .i64 ((i1 + 1 : Nat) : Int))]) (l := []) (by kernel_rfl) trivial ?_
        have hS55 := hS54.bring 6 rfl
        have hS56 := hS55.bring 6 rfl
        have hS57 := hS56.bring 6 rfl
        have hS58 := hS57.bring 6 rfl
        have hS59 := hS58.bring 6 rfl
        have hS60 := hS59.bring 6 rfl
        have hS61 := hS60.takeN 6
        obtain rfl := Option.some.inj h
        exact ge_nil fun a hF => hQ _ _ _ (Outs.again ⟨hS61, hF.weaken ⟨by kernel_rfl, by kernel_rfl, by kernel_rfl, by kernel_rfl, by kernel_rfl, by kernel_rfl, by kernel_rfl, by kernel_rfl, by kernel_rfl, by kernel_rfl, by kernel_rfl, trivial⟩⟩)
      · rw [if_neg hc9] at h
        refine we_known (t := 96) (b := !r9) (v := true) (by kernel_rfl) (congrArg (fun z => !z) (Bool.eq_false_iff.2 hc9)) ?_
        refine we_true (by kernel_rfl) ?_
        refine we_seq fun K23 hK23 => ?_
        refine we_region [(0, 0)] rfl ?_
        refine ge_batch [0] (ans := []) (vs := [(8, .bool false)]) (l := []) (by kernel_rfl) trivial ?_
        refine ge_nil fun a hF => hK23 _ _ ?_ a hF
        have hS62 := hS52.takeN 0
        obtain rfl := Option.some.inj h
        exact we_ret fun a hF => hQ _ _ _ (Outs.out nofun (Exits.on ⟨rfl, (post_ret (rs := [.tmp 8]) (ans := []) (vs := [.bool false]) (l := []) rfl (by kernel_rfl) trivial ⟨rfl, hS62⟩) a hF⟩))
    · rw [if_neg hc8] at h
      refine ge_known (t := 91) (b := !(SFault.eqb r8.2 r3.2)) (c := true) (by kernel_rfl) (congrArg (fun z => !z) (Bool.eq_false_iff.2 hc8)) ?_
      refine ge_batch [4, 5] (ans := []) (vs := [(93, undef), (92, undef)]) (l := []) (by kernel_rfl) trivial ?_
      refine ge_off rfl rfl rfl (by kernel_rfl) ?_
      refine ge_batch [7, 8] (ans := []) (vs := [(96, .bool true), (95, undef)]) (l := []) (by kernel_rfl) trivial ?_
      refine ge_nil fun a hF => hK22 _ _ ?_ a hF
      refine we_true (by kernel_rfl) ?_
      refine we_seq fun K24 hK24 => ?_
      refine we_region [(0, 0)] rfl ?_
      refine ge_batch [0] (ans := []) (vs := [(8, .bool false)]) (l := []) (by kernel_rfl) trivial ?_
      refine ge_nil fun a hF => hK24 _ _ ?_ a hF
      have hS63 := hS50.takeN 0
      obtain rfl := Option.some.inj h
      exact we_ret fun a hF => hQ _ _ _ (Outs.out nofun (Exits.on ⟨rfl, (post_ret (rs := [.tmp 8]) (ans := []) (vs := [.bool false]) (l := []) rfl (by kernel_rfl) trivial ⟨rfl, hS63⟩) a hF⟩))
  · rw [if_neg hc7] at h
    refine we_known (t := 79) (b := decide ((i1 : Int) < 2)) (v := false) (by kernel_rfl) (decide_eq_false hc7) ?_
    refine we_false (by kernel_rfl) ?_
    have hS64 := hS.bring 5 rfl
    have hS65 := hS64.bring 5 rfl
    have hS66 := hS65.bring 5 rfl
    have hS67 := hS66.bring 5 rfl
    have hS68 := hS67.takeN 4
    obtain rfl := Option.some.inj h
    exact we_exit fun a hF => hQ _ _ _ (Outs.out nofun (Exits.here ⟨hS68, hF.weaken ⟨by kernel_rfl, by kernel_rfl, by kernel_rfl, by kernel_rfl, by kernel_rfl, by kernel_rfl, by kernel_rfl, by kernel_rfl, trivial⟩⟩))
theorem TasksJobs_ok (K : Nat) (l0 : List STask) (A0 : Option Addr) (c0 : Nat) (l1 : List SCome) (A1 : Option Addr) (c1 : Nat) (l2 : List Int) (A2 : Option Addr) (c2 : Nat) (l3 : List Int) (A3 : Option Addr) (c3 : Nat) (w0 : World) (hR0 : RdL w0 A0 l0) (hL0 : l0.length ≤ c0) (hR1 : RdL w0 A1 l1) (hL1 : l1.length ≤ c1) (hR2 : RdL w0 A2 l2) (hL2 : l2.length ≤ c2) (hR3 : RdL w0 A3 l3) (hL3 : l3.length ≤ c3) (hG1 : Glob w0 1 [.string (⟨#[63]⟩), .int .i64 (-9), .int .i64 0, .int .i64 0, .int .i64 0, .int .i64 0, .int .i64 0]) (hG2 : Glob w0 2 [.int .i64 (-9), .int .i64 0]) (r : Bool) (h : TasksJobs.f K l0 l1 l2 l3 = some r) :
    Calls Tryd.prog 5 #[.slice A0 l0.length c0, .slice A1 l1.length c1, .slice A2 l2.length c2, .slice A3 l3.length c3] w0 (TasksJobs.Post w0 r) := by
  have hS := St.start w0
  unfold TasksJobs.f at h
  refine calls_enter (n := 120) (args := [.slice A0 l0.length c0, .slice A1 l1.length c1, .slice A2 l2.length c2, .slice A3 l3.length c3]) (fn := Tryd.f5) rfl rfl rfl rfl ?_
  show WE _ _ _ _ [(0, .slice A0 l0.length c0), (1, .slice A1 l1.length c1), (2, .slice A2 l2.length c2), (3, .slice A3 l3.length c3)] _
  refine we_seq fun K1 hK1 => ?_
  refine we_region [(0, 0)] rfl ?_
  refine ge_batch [0] (ans := []) (vs := [(8, .bool false)]) (l := []) (by kernel_rfl) trivial ?_
  refine ge_nil fun a hF => hK1 _ _ ?_ a hF
  refine we_seq fun K2 hK2 => ?_
  refine we_region [(0, 1), (1, 0), (2, 1), (3, 1), (4, 1), (5, 1), (6, 0), (7, 0), (8, 0), (9, 1), (10, 0), (11, 2)] rfl ?_
  refine ge_call (d := some 20) (f := 20) (args := #[]) (by kernel_rfl) (three_ok _ _ rfl) ?_
  rintro _ w1 ⟨v1, rfl, hS1⟩
  refine ⟨_, rfl, hS1.below, ?_⟩
  have hS2 := hS.call hS1
  refine ge_batch [1] (ans := []) (vs := [(21, .agg #[.int .i64 1, .int .i64 5])]) (l := []) (by kernel_rfl) trivial ?_
  refine ge_new (d := some 22) (o := .cells #[.int .i64 1, .int .i64 5] 53) (v := fun b => .slice (some ⟨b, 0, none⟩) 1 1) hS2 (fun b => by kernel_rfl) fun b1 w2 hx1 hS3 => ?_
  refine ge_new (d := some 23) (o := .cells #[.int .i64 0] 3) (v := fun b => .slice (some ⟨b, 0, none⟩) 1 1) hS3 (fun b => by kernel_rfl) fun b2 w3 hx2 hS4 => ?_
  refine ge_new (d := some 24) (o := .cells #[.int .i64 2] 3) (v := fun b => .slice (some ⟨b, 0, none⟩) 1 1) hS4 (fun b => by kernel_rfl) fun b3 w4 hx3 hS5 => ?_
  obtain ⟨Z1, cz1, rfl⟩ := hS5.open 3 rfl
  rcases hq2 : tasks_Jobs.f K three.f ([(⟨1, 5⟩ : SCome)] : List SCome) ([0] : List Int) ([2] : List Int) with _ | r1
  · rw [hq2] at h; cases h
  rw [hq2] at h
  simp only [] at h
  refine ge_call (d := some 25) (f := 25) (args := #[(.slice Z1 three.f.length cz1), .slice (some ⟨b1, 0, none⟩) 1 1, .slice (some ⟨b2, 0, none⟩) 1 1, .slice (some ⟨b3, 0, none⟩) 1 1]) (by kernel_rfl) (tasks_Jobs_ok K three.f Z1 cz1 ([(⟨1, 5⟩ : SCome)] : List SCome) (some ⟨b1, 0, none⟩) 1 ([0] : List Int) (some ⟨b2, 0, none⟩) 1 ([2] : List Int) (some ⟨b3, 0, none⟩) 1 _ (hS5.rdAt 3 rfl) (hS5.capAt 3 rfl) (hS5.rdBlk 2 ([(⟨1, 5⟩ : SCome)] : List SCome) rfl rfl rfl) (Nat.le_refl _) (hS5.rdBlk 1 ([0] : List Int) rfl rfl rfl) (Nat.le_refl _) (hS5.rdBlk 0 ([2] : List Int) rfl rfl rfl) (Nat.le_refl _) _ hq2) ?_
  rintro _ w5 ⟨v2, rfl, hS6⟩
  refine ⟨_, rfl, hS6.below, ?_⟩
  have hS7 := hS5.call hS6
  refine ge_batch [6, 7, 8] (ans := []) (vs := [(27, .agg #[.int .i64 r1.2.Code, .int .i64 r1.2.At]), (26, v2), (19, .tuple #[v2, .agg #[.int .i64 r1.2.Code, .int .i64 r1.2.At]])]) (l := []) (by kernel_rfl) trivial ?_
  refine ge_new (d := some 10) (o := .cells #[.int .i64 0, .int .i64 0] 26) (v := fun b => .pointer (some ⟨b, 0, none⟩)) hS7 (fun b => by kernel_rfl) fun b4 w6 hx4 hS8 => ?_
  refine ge_batch [10] (ans := []) (vs := [(9, v2)]) (l := []) (by kernel_rfl) trivial ?_
  refine ge_set (b := b4) (j := 0) (cs := #[.int .i64 0, .int .i64 0]) (t := 26) (vs := [.int .i64 r1.2.Code, .int .i64 r1.2.At]) hS8 (by kernel_rfl) rfl rfl fun w7 hS9 => ?_
  have hS10 : St w0 w7 [Own.blk b4 (.cells #[.int .i64 r1.2.Code, .int .i64 r1.2.At] 26 (0, 0)), Own.of v2 30 r1.1, Own.blk b3 (.cells #[.int .i64 2] 3 (0, 0)), Own.blk b2 (.cells #[.int .i64 0] 3 (0, 0)), Own.blk b1 (.cells #[.int .i64 1, .int .i64 5] 53 (0, 0)), Own.of (.slice Z1 three.f.length cz1) 46 three.f] := hS9
  refine ge_nil fun a hF => hK2 _ _ ?_ a hF
  refine we_seq fun K3 hK3 => ?_
  obtain ⟨Z2, cz2, rfl⟩ := hS10.open 1 rfl
  rcases hq4 : TasksJobs.p0 K r1 with _ | (_ | rr3)
  · rw [hq4] at h; cases h
  · rw [hq4] at h
    simp only [] at h
    refine we_keep (e' := [(0, .slice A0 l0.length c0), (1, .slice A1 l1.length c1), (2, .slice A2 l2.length c2), (3, .slice A3 l3.length c3), (8, .bool false), (9, (.slice Z2 r1.1.length cz2)), (10, .pointer (some ⟨b4, 0, none⟩)), (19, .tuple #[(.slice Z2 r1.1.length cz2), .agg #[.int .i64 r1.2.Code, .int .i64 r1.2.At]]), (20, (.slice Z1 three.f.length cz1)), (21, .agg #[.int .i64 1, .int .i64 5]), (22, .slice (some ⟨b1, 0, none⟩) 1 1), (23, .slice (some ⟨b2, 0, none⟩) 1 1), (24, .slice (some ⟨b3, 0, none⟩) 1 1), (25, .tuple #[(.slice Z2 r1.1.length cz2), .agg #[.int .i64 r1.2.Code, .int .i64 r1.2.At]]), (26, (.slice Z2 r1.1.length cz2)), (27, .agg #[.int .i64 r1.2.Code, .int .i64 r1.2.At])]) ⟨by kernel_rfl, by kernel_rfl, by kernel_rfl, by kernel_rfl, by kernel_rfl, by kernel_rfl, by kernel_rfl, by kernel_rfl, by kernel_rfl, by kernel_rfl, by kernel_rfl, by kernel_rfl, by kernel_rfl, by kernel_rfl, by kernel_rfl, by kernel_rfl, trivial⟩ (TasksJobs_p0 K w0 l0 A0 c0 l1 A1 c1 l2 A2 c2 l3 A3 c3 hR0 hL0 hR1 hL1 hR2 hL2 hR3 hL3 hG1 hG2 b1 b2 b3 Z1 cz1 r1 b4 Z2 cz2 _ hq4 _ hS10 _ ?_)
    rintro _ a w10 ⟨rfl, hS17, hF⟩
    replace hS17 : St w0 w10 [] := hS17
    refine hK3 [(0, .slice A0 l0.length c0), (1, .slice A1 l1.length c1), (2, .slice A2 l2.length c2), (3, .slice A3 l3.length c3)] w10 ?_ a hF
    refine we_seq fun K7 hK7 => ?_
    rcases hq9 : TasksJobs.p1 l0 l1 l2 l3 with _ | (_ | rr2)
    · rw [hq9] at h; cases h
    · rw [hq9] at h
      simp only [] at h
      refine we_keep (e' := [(0, .slice A0 l0.length c0), (1, .slice A1 l1.length c1), (2, .slice A2 l2.length c2), (3, .slice A3 l3.length c3)]) ⟨by kernel_rfl, by kernel_rfl, by kernel_rfl, by kernel_rfl, trivial⟩ (TasksJobs_p1 K w0 l0 A0 c0 l1 A1 c1 l2 A2 c2 l3 A3 c3 hR0 hL0 hR1 hL1 hR2 hL2 hR3 hL3 hG1 hG2 b1 b2 b3 Z1 cz1 r1 b4 Z2 cz2 _ hq9 _ hS17 _ ?_)
      rintro _ a w15 ⟨rfl, hS26, hF⟩
      replace hS26 : St w0 w15 [] := hS26
      refine hK7 [(0, .slice A0 l0.length c0), (1, .slice A1 l1.length c1), (2, .slice A2 l2.length c2), (3, .slice A3 l3.length c3)] w15 ?_ a hF
      refine we_seq fun K13 hK13 => ?_
      refine we_region [(0, 0), (1, 0), (2, 0), (3, 0), (4, 1), (5, 0), (6, 0), (7, 0), (8, 1), (9, 0), (10, 2)] rfl ?_
      rcases hq10 : punctualref_JobsOf.f K l0 l1 l2 l3 with _ | r3
      · rw [hq10] at h; cases h
      rw [hq10] at h
      simp only [] at h
      refine ge_batch [0, 1, 2, 3] (ans := []) (vs := [(64, .slice A3 l3.length c3), (63, .slice A2 l2.length c2), (62, .slice A1 l1.length c1), (61, .slice A0 l0.length c0)]) (l := []) (by kernel_rfl) trivial ?_
      refine ge_call (d := some 65) (f := 27) (args := #[.slice A0 l0.length c0, .slice A1 l1.length c1, .slice A2 l2.length c2, .slice A3 l3.length c3]) (by kernel_rfl) (punctualref_JobsOf_ok K l0 A0 c0 l1 A1 c1 l2 A2 c2 l3 A3 c3 _ (hS26.rd hR0) hL0 (hS26.rd hR1) hL1 (hS26.rd hR2) hL2 (hS26.rd hR3) hL3 _ hq10) ?_
      rintro _ w16 ⟨v3, rfl, hS27⟩
      refine ⟨_, rfl, hS27.below, ?_⟩
      have hS28 := hS26.call hS27
      refine ge_batch [5, 6, 7] (ans := []) (vs := [(67, .agg #[.int .i64 r3.2.Code, .int .i64 r3.2.At]), (66, v3), (60, .tuple #[v3, .agg #[.int .i64 r3.2.Code, .int .i64 r3.2.At]])]) (l := []) (by kernel_rfl) trivial ?_
      refine ge_new (d := some 12) (o := .cells #[.int .i64 0, .int .i64 0] 26) (v := fun b => .pointer (some ⟨b, 0, none⟩)) hS28 (fun b => by kernel_rfl) fun b6 w17 hx6 hS29 => ?_
      refine ge_batch [9] (ans := []) (vs := [(11, v3)]) (l := []) (by kernel_rfl) trivial ?_
      refine ge_set (b := b6) (j := 0) (cs := #[.int .i64 0, .int .i64 0]) (t := 26) (vs := [.int .i64 r3.2.Code, .int .i64 r3.2.At]) hS29 (by kernel_rfl) rfl rfl fun w18 hS30 => ?_
      have hS31 : St w0 w18 [Own.blk b6 (.cells #[.int .i64 r3.2.Code, .int .i64 r3.2.At] 26 (0, 0)), Own.of v3 30 r3.1] := hS30
      refine ge_nil fun a hF => hK13 _ _ ?_ a hF
      refine we_seq fun K14 hK14 => ?_
      refine we_draws (by kernel_rfl) [(0, 0), (1, 0), (3, 0), (4, 0), (6, 0), (8, 0), (2, 1), (5, 1), (7, 1), (9, 1), (10, 0), (11, 0), (12, 0), (13, 0)] (by kernel_rfl) ?_
      have hS32 := hS31.drew
      refine ge_batch [0, 1, 3, 4, 6, 8] (ans := [.val (.string (⟨#[63]⟩)), .val (.int .i64 (-9)), .val (.int .i64 0), .val (.int .i64 0), .val (.int .i64 0), .val (.int .i64 0), .val (.int .i64 0), .val (.int .i64 (-9)), .val (.int .i64 0)]) (vs := [(76, .slice A3 l3.length c3), (74, .slice A2 l2.length c2), (72, .agg #[.int .i64 (-9), .int .i64 0]), (71, .slice A1 l1.length c1), (69, .agg #[.string (⟨#[63]⟩), .int .i64 (-9), .int .i64 0, .int .i64 0, .int .i64 0, .int .i64 0, .int .i64 0]), (68, .slice A0 l0.length c0)]) (l := [.loaded ⟨1, 0, none⟩ (.string (⟨#[63]⟩)), .loaded ⟨1, 1, none⟩ (.int .i64 (-9)), .loaded ⟨1, 2, none⟩ (.int .i64 0), .loaded ⟨1, 3, none⟩ (.int .i64 0), .loaded ⟨1, 4, none⟩ (.int .i64 0), .loaded ⟨1, 5, none⟩ (.int .i64 0), .loaded ⟨1, 6, none⟩ (.int .i64 0), .loaded ⟨2, 0, none⟩ (.int .i64 (-9)), .loaded ⟨2, 1, none⟩ (.int .i64 0)]) (by kernel_rfl) ⟨hS32.glob hG1 rfl, hS32.glob hG1 rfl, hS32.glob hG1 rfl, hS32.glob hG1 rfl, hS32.glob hG1 rfl, hS32.glob hG1 rfl, hS32.glob hG1 rfl, hS32.glob hG2 rfl, hS32.glob hG2 rfl, trivial⟩ ?_
      rcases hq11 : punctualsame_Lend_api_Task.f l0 (⟨⟨#[63]⟩, (-9), 0, 0, 0, 0, 0⟩ : STask) with _ | r4
      · rw [hq11] at h; cases h
      rw [hq11] at h
      simp only [] at h
      obtain rfl := punctualsame_Lend_api_Task_full _ _ hq11
      refine ge_call (d := some 70) (f := 22) (args := #[.slice A0 l0.length c0, .agg #[.string (⟨#[63]⟩), .int .i64 (-9), .int .i64 0, .int .i64 0, .int .i64 0, .int .i64 0, .int .i64 0]]) (by kernel_rfl) (punctualsame_Lend_api_Task_ok l0 A0 c0 (⟨⟨#[63]⟩, (-9), 0, 0, 0, 0, 0⟩ : STask) _ (hS32.rd hR0) hL0 _ hq11) ?_
      rintro _ w19 ⟨Z3, cz3, rfl, hcp1, hS33⟩
      refine ⟨_, rfl, hS33.below, ?_⟩
      have hS34 := hS32.call hS33
      rcases hq12 : punctualsame_Lend_api_Come.f l1 (⟨(-9), 0⟩ : SCome) with _ | r5
      · rw [hq12] at h; cases h
      rw [hq12] at h
      simp only [] at h
      obtain rfl := punctualsame_Lend_api_Come_full _ _ hq12
      refine ge_call (d := some 73) (f := 28) (args := #[.slice A1 l1.length c1, .agg #[.int .i64 (-9), .int .i64 0]]) (by kernel_rfl) (punctualsame_Lend_api_Come_ok l1 A1 c1 (⟨(-9), 0⟩ : SCome) _ (hS34.rd hR1) hL1 _ hq12) ?_
      rintro _ w20 ⟨Z4, cz4, rfl, hcp2, hS35⟩
      refine ⟨_, rfl, hS35.below, ?_⟩
      have hS36 := hS34.call hS35
      rcases hq13 : punctualsame_Lend_int.f l2 (-9) with _ | r6
      · rw [hq13] at h; cases h
      rw [hq13] at h
      simp only [] at h
      obtain rfl := punctualsame_Lend_int_full _ _ hq13
      refine ge_call (d := some 75) (f := 15) (args := #[.slice A2 l2.length c2, .int .i64 (-9)]) (by kernel_rfl) (punctualsame_Lend_int_ok l2 A2 c2 (-9) _ (hS36.rd hR2) hL2 _ hq13) ?_
      rintro _ w21 ⟨Z5, cz5, rfl, hcp3, hS37⟩
      refine ⟨_, rfl, hS37.below, ?_⟩
      have hS38 := hS36.call hS37
      rcases hq14 : punctualsame_Lend_int.f l3 (-9) with _ | r7
      · rw [hq14] at h; cases h
      rw [hq14] at h
      simp only [] at h
      obtain rfl := punctualsame_Lend_int_full _ _ hq14
      refine ge_call (d := some 77) (f := 15) (args := #[.slice A3 l3.length c3, .int .i64 (-9)]) (by kernel_rfl) (punctualsame_Lend_int_ok l3 A3 c3 (-9) _ (hS38.rd hR3) hL3 _ hq14) ?_
      rintro _ w22 ⟨Z6, cz6, rfl, hcp4, hS39⟩
      refine ⟨_, rfl, hS39.below, ?_⟩
      have hS40 := hS38.call hS39
      refine ge_batch [10, 11, 12, 13] (ans := []) (vs := [(16, .slice Z6 l3.length cz6), (15, .slice Z5 l2.length cz5), (14, .slice Z4 l1.length cz4), (13, .slice Z3 l0.length cz3)]) (l := []) (by kernel_rfl) trivial ?_
      refine ge_nil fun a hF => hK14 _ _ ?_ a hF
      refine we_seq fun K15 hK15 => ?_
      refine we_seq fun K16 hK16 => ?_
      refine we_region [(0, 0)] rfl ?_
      refine ge_batch [0] (ans := []) (vs := [(78, .int .i64 0)]) (l := []) (by kernel_rfl) trivial ?_
      refine ge_nil fun a hF => hK16 _ _ ?_ a hF
      refine we_block ?_
      obtain ⟨Z7, cz7, rfl⟩ := hS40.open 5 rfl
      have hS41 := hS40.bring 1 rfl
      have hS42 := hS41.bring 2 rfl
      have hS43 := hS42.bring 3 rfl
      have hS44 := hS43.bring 5 rfl
      have hS45 := hS44.bring 5 rfl
      rcases hq17 : iter (TasksJobs.r2 K l0 l1 l2 l3 r3) K 0 with _ | (_ | rr1)
      · rw [hq17] at h; cases h
      · rw [hq17] at h
        simp only [] at h
        refine we_iter (A := TasksJobs.A2 K w0 l0 A0 c0 l1 A1 c1 l2 A2 c2 l3 A3 c3 hR0 hL0 hR1 hL1 hR2 hL2 hR3 hL3 hG1 hG2 b1 b2 b3 Z1 cz1 r1 b4 Z2 cz2 r3 b6 Z3 cz3 hcp1 Z4 cz4 hcp2 Z5 cz5 hcp3 Z6 cz6 hcp4 Z7 cz7) (B := TasksJobs.B2 K w0 l0 A0 c0 l1 A1 c1 l2 A2 c2 l3 A3 c3 hR0 hL0 hR1 hL1 hR2 hL2 hR3 hL3 hG1 hG2 b1 b2 b3 Z1 cz1 r1 b4 Z2 cz2 r3 b6 Z3 cz3 hcp1 Z4 cz4 hcp2 Z5 cz5 hcp3 Z6 cz6 hcp4 Z7 cz7) hq17 (fun a hF => ⟨hS45, hF.weaken ⟨by kernel_rfl, by kernel_rfl, by kernel_rfl, by kernel_rfl, by kernel_rfl, by kernel_rfl, by kernel_rfl, by kernel_rfl, by kernel_rfl, by kernel_rfl, by kernel_rfl, trivial⟩⟩) (fun s o hf a w hA Q hQ => TasksJobs_r2 K w0 l0 A0 c0 l1 A1 c1 l2 A2 c2 l3 A3 c3 hR0 hL0 hR1 hL1 hR2 hL2 hR3 hL3 hG1 hG2 b1 b2 b3 Z1 cz1 r1 b4 Z2 cz2 r3 b6 Z3 cz3 hcp1 Z4 cz4 hcp2 Z5 cz5 hcp3 Z6 cz6 hcp4 Z7 cz7 s o hf a w hA Q hQ) ?_
        rintro _ a w28 _ ⟨rfl, hS69, hF⟩
        replace hS69 : St w0 w28 [Own.of (.slice Z3 (l0 ++ [(⟨⟨#[63]⟩, (-9), 0, 0, 0, 0, 0⟩ : STask), (⟨⟨#[63]⟩, (-9), 0, 0, 0, 0, 0⟩ : STask), (⟨⟨#[63]⟩, (-9), 0, 0, 0, 0, 0⟩ : STask)]).length cz3) 46 (l0 ++ [(⟨⟨#[63]⟩, (-9), 0, 0, 0, 0, 0⟩ : STask), (⟨⟨#[63]⟩, (-9), 0, 0, 0, 0, 0⟩ : STask), (⟨⟨#[63]⟩, (-9), 0, 0, 0, 0, 0⟩ : STask)]), Own.of (.slice Z4 (l1 ++ [(⟨(-9), 0⟩ : SCome), (⟨(-9), 0⟩ : SCome), (⟨(-9), 0⟩ : SCome)]).length cz4) 53 (l1 ++ [(⟨(-9), 0⟩ : SCome), (⟨(-9), 0⟩ : SCome), (⟨(-9), 0⟩ : SCome)]), Own.of (.slice Z5 (l2 ++ [(-9), (-9), (-9)]).length cz5) 3 (l2 ++ [(-9), (-9), (-9)]), Own.of (.slice Z6 (l3 ++ [(-9), (-9), (-9)]).length cz6) 3 (l3 ++ [(-9), (-9), (-9)])] := hS69
        refine hK15 [(0, .slice A0 l0.length c0), (1, .slice A1 l1.length c1), (2, .slice A2 l2.length c2), (3, .slice A3 l3.length c3), (13, .slice Z3 l0.length cz3), (14, .slice Z4 l1.length cz4), (15, .slice Z5 l2.length cz5), (16, .slice Z6 l3.length cz6)] w28 ?_ a hF
        refine we_seq fun K25 hK25 => ?_
        refine we_region [(0, 0), (1, 0), (2, 0), (3, 1), (4, 0), (5, 0), (6, 0), (7, 0), (8, 1), (9, 0), (10, 0), (11, 0), (12, 0), (13, 1), (14, 0), (15, 0), (16, 0), (17, 0), (18, 1), (19, 0), (20, 0)] rfl ?_
        refine ge_batch [0, 1, 2] (ans := [.val (.string (⟨#[63]⟩)), .val (.int .i64 (-9)), .val (.int .i64 0), .val (.int .i64 0), .val (.int .i64 0), .val (.int .i64 0), .val (.int .i64 0)]) (vs := [(102, .agg #[.string (⟨#[63]⟩), .int .i64 (-9), .int .i64 0, .int .i64 0, .int .i64 0, .int .i64 0, .int .i64 0]), (101, .slice A0 l0.length c0), (100, .slice Z3 l0.length cz3)]) (l := [.loaded ⟨1, 0, none⟩ (.string (⟨#[63]⟩)), .loaded ⟨1, 1, none⟩ (.int .i64 (-9)), .loaded ⟨1, 2, none⟩ (.int .i64 0), .loaded ⟨1, 3, none⟩ (.int .i64 0), .loaded ⟨1, 4, none⟩ (.int .i64 0), .loaded ⟨1, 5, none⟩ (.int .i64 0), .loaded ⟨1, 6, none⟩ (.int .i64 0)]) (by kernel_rfl) ⟨hS69.glob hG1 rfl, hS69.glob hG1 rfl, hS69.glob hG1 rfl, hS69.glob hG1 rfl, hS69.glob hG1 rfl, hS69.glob hG1 rfl, hS69.glob hG1 rfl, trivial⟩ ?_
        rcases hq18 : punctualsame_Still_api_Task.f K (l0 ++ [(⟨⟨#[63]⟩, (-9), 0, 0, 0, 0, 0⟩ : STask), (⟨⟨#[63]⟩, (-9), 0, 0, 0, 0, 0⟩ : STask), (⟨⟨#[63]⟩, (-9), 0, 0, 0, 0, 0⟩ : STask)]) l0 (⟨⟨#[63]⟩, (-9), 0, 0, 0, 0, 0⟩ : STask) with _ | r10
        · rw [hq18] at h; cases h
        rw [hq18] at h
        simp only [] at h
        refine ge_call (d := some 103) (f := 24) (args := #[.slice Z3 l0.length cz3, .slice A0 l0.length c0, .agg #[.string (⟨#[63]⟩), .int .i64 (-9), .int .i64 0, .int .i64 0, .int .i64 0, .int .i64 0, .int .i64 0]]) (by kernel_rfl) (punctualsame_Still_api_Task_ok K (l0 ++ [(⟨⟨#[63]⟩, (-9), 0, 0, 0, 0, 0⟩ : STask), (⟨⟨#[63]⟩, (-9), 0, 0, 0, 0, 0⟩ : STask), (⟨⟨#[63]⟩, (-9), 0, 0, 0, 0, 0⟩ : STask)]) Z3 l0.length cz3 l0 A0 c0 (⟨⟨#[63]⟩, (-9), 0, 0, 0, 0, 0⟩ : STask) _ (hS69.rdAt 0 rfl) hcp1 (hS69.rd hR0) hL0 _ hq18) ?_
        rintro _ w29 ⟨rfl, hS70⟩
        refine ⟨_, rfl, hS70.below, ?_⟩
        have hS71 := hS69.call hS70
        refine ge_batch [4] (ans := []) (vs := [(104, .bool r10)]) (l := []) (by kernel_rfl) trivial ?_
        by_cases hc10 : r10 = true
        · rw [if_pos hc10] at h
          refine ge_known (t := 104) (b := r10) (c := true) (by kernel_rfl) hc10 ?_
          refine ge_batch [5, 6, 7] (ans := [.val (.int .i64 (-9)), .val (.int .i64 0)]) (vs := [(107, .agg #[.int .i64 (-9), .int .i64 0]), (106, .slice A1 l1.length c1), (105, .slice Z4 l1.length cz4)]) (l := [.loaded ⟨2, 0, none⟩ (.int .i64 (-9)), .loaded ⟨2, 1, none⟩ (.int .i64 0)]) (by kernel_rfl) ⟨hS71.glob hG2 rfl, hS71.glob hG2 rfl, trivial⟩ ?_
          rcases hq19 : punctualsame_Still_api_Come.f K (l1 ++ [(⟨(-9), 0⟩ : SCome), (⟨(-9), 0⟩ : SCome), (⟨(-9), 0⟩ : SCome)]) l1 (⟨(-9), 0⟩ : SCome) with _ | r11
          · rw [hq19] at h; cases h
          rw [hq19] at h
          simp only [] at h
          refine ge_call (d := some 108) (f := 30) (args := #[.slice Z4 l1.length cz4, .slice A1 l1.length c1, .agg #[.int .i64 (-9), .int .i64 0]]) (by kernel_rfl) (punctualsame_Still_api_Come_ok K (l1 ++ [(⟨(-9), 0⟩ : SCome), (⟨(-9), 0⟩ : SCome), (⟨(-9), 0⟩ : SCome)]) Z4 l1.length cz4 l1 A1 c1 (⟨(-9), 0⟩ : SCome) _ (hS71.rdAt 1 rfl) hcp2 (hS71.rd hR1) hL1 _ hq19) ?_
          rintro _ w30 ⟨rfl, hS72⟩
          refine ⟨_, rfl, hS72.below, ?_⟩
          have hS73 := hS71.call hS72
          refine ge_batch [9, 10] (ans := []) (vs := [(110, .bool r11), (109, .bool r11)]) (l := []) (by kernel_rfl) trivial ?_
          by_cases hc11 : r11 = true
          · rw [if_pos hc11] at h
            refine ge_known (t := 110) (b := r11) (c := true) (by kernel_rfl) hc11 ?_
            refine ge_batch [11, 12] (ans := []) (vs := [(112, .slice A2 l2.length c2), (111, .slice Z5 l2.length cz5)]) (l := []) (by kernel_rfl) trivial ?_
            rcases hq20 : punctualsame_Still_int.f K (l2 ++ [(-9), (-9), (-9)]) l2 (-9) with _ | r12
            · rw [hq20] at h; cases h
            rw [hq20] at h
            simp only [] at h
            refine ge_call (d := some 113) (f := 18) (args := #[.slice Z5 l2.length cz5, .slice A2 l2.length c2, .int .i64 (-9)]) (by kernel_rfl) (punctualsame_Still_int_ok K (l2 ++ [(-9), (-9), (-9)]) Z5 l2.length cz5 l2 A2 c2 (-9) _ (hS73.rdAt 2 rfl) hcp3 (hS73.rd hR2) hL2 _ hq20) ?_
            rintro _ w31 ⟨rfl, hS74⟩
            refine ⟨_, rfl, hS74.below, ?_⟩
            have hS75 := hS73.call hS74
            refine ge_batch [14, 15] (ans := []) (vs := [(115, .bool r12), (114, .bool r12)]) (l := []) (by kernel_rfl) trivial ?_
            by_cases hc12 : r12 = true
            · rw [if_pos hc12] at h
              refine ge_known (t := 115) (b := r12) (c := true) (by kernel_rfl) hc12 ?_
              refine ge_batch [16, 17] (ans := []) (vs := [(117, .slice A3 l3.length c3), (116, .slice Z6 l3.length cz6)]) (l := []) (by kernel_rfl) trivial ?_
              rcases hq21 : punctualsame_Still_int.f K (l3 ++ [(-9), (-9), (-9)]) l3 (-9) with _ | r13
              · rw [hq21] at h; cases h
              rw [hq21] at h
              simp only [] at h
              refine ge_call (d := some 118) (f := 18) (args := #[.slice Z6 l3.length cz6, .slice A3 l3.length c3, .int .i64 (-9)]) (by kernel_rfl) (punctualsame_Still_int_ok K (l3 ++ [(-9), (-9), (-9)]) Z6 l3.length cz6 l3 A3 c3 (-9) _ (hS75.rdAt 3 rfl) hcp4 (hS75.rd hR3) hL3 _ hq21) ?_
              rintro _ w32 ⟨rfl, hS76⟩
              refine ⟨_, rfl, hS76.below, ?_⟩
              have hS77 := hS75.call hS76
              refine ge_batch [19, 20] (ans := []) (vs := [(8, .bool r13), (119, .bool r13)]) (l := []) (by kernel_rfl) trivial ?_
              refine ge_nil fun a hF => hK25 _ _ ?_ a hF
              have hS78 := hS77.takeN 0
              obtain rfl := Option.some.inj h
              exact we_ret (post_ret (rs := [.tmp 8]) (ans := []) (vs := [.bool r13]) (l := []) rfl (by kernel_rfl) trivial ⟨rfl, hS78⟩)
            · rw [if_neg hc12] at h
              refine ge_known (t := 115) (b := r12) (c := false) (by kernel_rfl) (Bool.eq_false_iff.2 hc12) ?_
              refine ge_batch [16, 17] (ans := []) (vs := [(117, undef), (116, undef)]) (l := []) (by kernel_rfl) trivial ?_
              refine ge_off rfl rfl rfl (by kernel_rfl) ?_
              refine ge_batch [19, 20] (ans := []) (vs := [(8, .bool false), (119, .bool false)]) (l := []) (by kernel_rfl) trivial ?_
              refine ge_nil fun a hF => hK25 _ _ ?_ a hF
              have hS79 := hS75.takeN 0
              obtain rfl := Option.some.inj h
              exact we_ret (post_ret (rs := [.tmp 8]) (ans := []) (vs := [.bool false]) (l := []) rfl (by kernel_rfl) trivial ⟨rfl, hS79⟩)
          · rw [if_neg hc11] at h
            refine ge_known (t := 110) (b := r11) (c := false) (by kernel_rfl) (Bool.eq_false_iff.2 hc11) ?_
            refine ge_batch [11, 12] (ans := []) (vs := [(112, undef), (111, undef)]) (l := []) (by kernel_rfl) trivial ?_
            refine ge_off rfl rfl rfl (by kernel_rfl) ?_
            refine ge_batch [14, 15, 16, 17] (ans := []) (vs := [(117, undef), (116, undef), (115, .bool false), (114, .bool false)]) (l := []) (by kernel_rfl) trivial ?_
            refine ge_off rfl rfl rfl (by kernel_rfl) ?_
            refine ge_batch [19, 20] (ans := []) (vs := [(8, .bool false), (119, .bool false)]) (l := []) (by kernel_rfl) trivial ?_
            refine ge_nil fun a hF => hK25 _ _ ?_ a hF
            have hS80 := hS73.takeN 0
            obtain rfl := Option.some.inj h
            exact we_ret (post_ret (rs := [.tmp 8]) (ans := []) (vs := [.bool false]) (l := []) rfl (by kernel_rfl) trivial ⟨rfl, hS80⟩)
        · rw [if_neg hc10] at h
          refine ge_known (t := 104) (b := r10) (c := false) (by kernel_rfl) (Bool.eq_false_iff.2 hc10) ?_
          refine ge_batch [5, 6, 7] (ans := []) (vs := [(107, undef), (106, undef), (105, undef)]) (l := []) (by kernel_rfl) trivial ?_
          refine ge_off rfl rfl rfl (by kernel_rfl) ?_
          refine ge_batch [9, 10, 11, 12] (ans := []) (vs := [(112, undef), (111, undef), (110, .bool false), (109, .bool false)]) (l := []) (by kernel_rfl) trivial ?_
          refine ge_off rfl rfl rfl (by kernel_rfl) ?_
          refine ge_batch [14, 15, 16, 17] (ans := []) (vs := [(117, undef), (116, undef), (115, .bool false), (114, .bool false)]) (l := []) (by kernel_rfl) trivial ?_
          refine ge_off rfl rfl rfl (by kernel_rfl) ?_
          refine ge_batch [19, 20] (ans := []) (vs := [(8, .bool false), (119, .bool false)]) (l := []) (by kernel_rfl) trivial ?_
          refine ge_nil fun a hF => hK25 _ _ ?_ a hF
          have hS81 := hS71.takeN 0
          obtain rfl := Option.some.inj h
          exact we_ret (post_ret (rs := [.tmp 8]) (ans := []) (vs := [.bool false]) (l := []) rfl (by kernel_rfl) trivial ⟨rfl, hS81⟩)
      · rw [hq17] at h
        simp only [] at h
        refine we_iter (A := TasksJobs.A2 K w0 l0 A0 c0 l1 A1 c1 l2 A2 c2 l3 A3 c3 hR0 hL0 hR1 hL1 hR2 hL2 hR3 hL3 hG1 hG2 b1 b2 b3 Z1 cz1 r1 b4 Z2 cz2 r3 b6 Z3 cz3 hcp1 Z4 cz4 hcp2 Z5 cz5 hcp3 Z6 cz6 hcp4 Z7 cz7) (B := TasksJobs.B2 K w0 l0 A0 c0 l1 A1 c1 l2 A2 c2 l3 A3 c3 hR0 hL0 hR1 hL1 hR2 hL2 hR3 hL3 hG1 hG2 b1 b2 b3 Z1 cz1 r1 b4 Z2 cz2 r3 b6 Z3 cz3 hcp1 Z4 cz4 hcp2 Z5 cz5 hcp3 Z6 cz6 hcp4 Z7 cz7) hq17 (fun a hF => ⟨hS45, hF.weaken ⟨by kernel_rfl, by kernel_rfl, by kernel_rfl, by kernel_rfl, by kernel_rfl, by kernel_rfl, by kernel_rfl, by kernel_rfl, by kernel_rfl, by kernel_rfl, by kernel_rfl, trivial⟩⟩) (fun s o hf a w hA Q hQ => TasksJobs_r2 K w0 l0 A0 c0 l1 A1 c1 l2 A2 c2 l3 A3 c3 hR0 hL0 hR1 hL1 hR2 hL2 hR3 hL3 hG1 hG2 b1 b2 b3 Z1 cz1 r1 b4 Z2 cz2 r3 b6 Z3 cz3 hcp1 Z4 cz4 hcp2 Z5 cz5 hcp3 Z6 cz6 hcp4 Z7 cz7 s o hf a w hA Q hQ) ?_
        rintro _ a w1 _ ⟨rfl, hb⟩
        obtain rfl := Option.some.inj h
        exact hb
    · rw [hq9] at h
      simp only [] at h
      refine we_keep (e' := [(0, .slice A0 l0.length c0), (1, .slice A1 l1.length c1), (2, .slice A2 l2.length c2), (3, .slice A3 l3.length c3)]) ⟨by kernel_rfl, by kernel_rfl, by kernel_rfl, by kernel_rfl, trivial⟩ (TasksJobs_p1 K w0 l0 A0 c0 l1 A1 c1 l2 A2 c2 l3 A3 c3 hR0 hL0 hR1 hL1 hR2 hL2 hR3 hL3 hG1 hG2 b1 b2 b3 Z1 cz1 r1 b4 Z2 cz2 _ hq9 _ hS17 _ ?_)
      rintro _ a w1 ⟨_, rfl, hb⟩
      obtain rfl := Option.some.inj h
      exact hb
  · rw [hq4] at h
    simp only [] at h
    refine we_keep (e' := [(0, .slice A0 l0.length c0), (1, .slice A1 l1.length c1), (2, .slice A2 l2.length c2), (3, .slice A3 l3.length c3), (8, .bool false), (9, (.slice Z2 r1.1.length cz2)), (10, .pointer (some ⟨b4, 0, none⟩)), (19, .tuple #[(.slice Z2 r1.1.length cz2), .agg #[.int .i64 r1.2.Code, .int .i64 r1.2.At]]), (20, (.slice Z1 three.f.length cz1)), (21, .agg #[.int .i64 1, .int .i64 5]), (22, .slice (some ⟨b1, 0, none⟩) 1 1), (23, .slice (some ⟨b2, 0, none⟩) 1 1), (24, .slice (some ⟨b3, 0, none⟩) 1 1), (25, .tuple #[(.slice Z2 r1.1.length cz2), .agg #[.int .i64 r1.2.Code, .int .i64 r1.2.At]]), (26, (.slice Z2 r1.1.length cz2)), (27, .agg #[.int .i64 r1.2.Code, .int .i64 r1.2.At])]) ⟨by kernel_rfl, by kernel_rfl, by kernel_rfl, by kernel_rfl, by kernel_rfl, by kernel_rfl, by kernel_rfl, by kernel_rfl, by kernel_rfl, by kernel_rfl, by kernel_rfl, by kernel_rfl, by kernel_rfl, by kernel_rfl, by kernel_rfl, by kernel_rfl, trivial⟩ (TasksJobs_p0 K w0 l0 A0 c0 l1 A1 c1 l2 A2 c2 l3 A3 c3 hR0 hL0 hR1 hL1 hR2 hL2 hR3 hL3 hG1 hG2 b1 b2 b3 Z1 cz1 r1 b4 Z2 cz2 _ hq4 _ hS10 _ ?_)
    rintro _ a w1 ⟨_, rfl, hb⟩
    obtain rfl := Option.some.inj h
    exact hb
end Go.Proofs.YtlipdmblinjjaaaDoor.GV
