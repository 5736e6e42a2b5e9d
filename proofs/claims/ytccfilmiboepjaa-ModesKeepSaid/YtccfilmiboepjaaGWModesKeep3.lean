/- Walks of single functions, written by a program of this work. -/
import Derived.Test.YtccfilmiboepjaaGWModesKeep2
namespace Go.Proofs.Ytccfilmiboepjaa.GV
open Go Go.RowKit
set_option linter.unusedVariables false
set_option linter.unusedSimpArgs false
set_option maxRecDepth 100000

/-! punctual/punctuallaw.turns -/
abbrev turns.Post (w0 : World) (r : Bool) (e : Ending) (w : World) : Prop := e = .returned (.bool r) ∧ St w0 w []
def turns.f (K : Nat) : Option Bool :=
  match modes_Responses.f K two.f with
  | none => none
  | some r1 =>
    match modes_Play.f K two.f ([(⟨0, 0⟩ : SCome), (⟨1, 0⟩ : SCome), (⟨1, 6⟩ : SCome)] : List SCome) ([2, 2, 2] : List Int) 8 with
    | none => none
    | some r2 =>
      if r1.2.2.Code = 0 then
        if r2.2.Code = 0 then
          match punctualsame_Same_int.f K r1.1 ([3, 2] : List Int) with
          | none => none
          | some r3 =>
            if r3 = true then
              match punctualsame_Same_int.f K r1.2.1 ([4, 0] : List Int) with
              | none => none
              | some r4 =>
                if r4 = true then
                  match punctualsame_Same_int.f K r2.1.Played.Runs ([1, 1, 0, 0, (-1), (-1), (-1), (-1)] : List Int) with
                  | none => none
                  | some r5 =>
                    if r5 = true then
                      match punctualsame_Same_int.f K r2.1.Played.Ends ([4, 2, (-1)] : List Int) with
                      | none => none
                      | some r6 =>
                        if r6 = true then
                          some (r2.1.Turned == 3)
                        else
                          some false
                    else
                      some false
                else
                  some false
            else
              some false
        else
          some false
      else
        some false
theorem turns_ok (K : Nat)  (w0 : World) (r : Bool) (h : turns.f K = some r) :
    Calls Try.prog 8 #[] w0 (turns.Post w0 r) := by
  have hS := St.start w0
  unfold turns.f at h
  refine calls_enter (n := 59) (args := []) (fn := Try.f8) rfl rfl rfl rfl ?_
  show WE _ _ _ _ [] _
  refine we_seq fun K1 hK1 => ?_
  refine we_region [(0, 0)] rfl ?_
  refine ge_batch [0] (ans := []) (vs := [(0, .bool false)]) (l := []) (by kernel_rfl) trivial ?_
  refine ge_nil fun a hF => hK1 _ _ ?_ a hF
  refine we_seq fun K2 hK2 => ?_
  refine we_region [(0, 1), (1, 1), (2, 0), (3, 0), (4, 0), (5, 0), (6, 1), (7, 0), (8, 0), (9, 2)] rfl ?_
  refine ge_call (d := some 7) (f := 31) (args := #[]) (by kernel_rfl) (two_ok _ _ rfl) ?_
  rintro _ w1 ⟨v1, rfl, hS1⟩
  refine ⟨_, rfl, hS1.below, ?_⟩
  have hS2 := hS.call hS1
  obtain ⟨Z1, cz1, rfl⟩ := hS2.open 0 rfl
  rcases hq2 : modes_Responses.f K two.f with _ | r1
  · rw [hq2] at h; cases h
  rw [hq2] at h
  simp only [] at h
  refine ge_call (d := some 8) (f := 10) (args := #[(.slice Z1 two.f.length cz1)]) (by kernel_rfl) (modes_Responses_ok K two.f Z1 cz1 _ (hS2.rdAt 0 rfl) (hS2.capAt 0 rfl) _ hq2) ?_
  rintro _ w2 ⟨v2, v3, rfl, hS3⟩
  refine ⟨_, rfl, hS3.below, ?_⟩
  have hS4 := hS2.call hS3
  refine ge_batch [2, 3, 4, 5] (ans := []) (vs := [(11, .agg #[.int .i64 r1.2.2.Code, .int .i64 r1.2.2.At]), (10, v3), (9, v2), (6, .tuple #[v2, v3, .agg #[.int .i64 r1.2.2.Code, .int .i64 r1.2.2.At]])]) (l := []) (by kernel_rfl) trivial ?_
  refine ge_new (d := some 3) (o := .cells #[.int .i64 0, .int .i64 0] 29) (v := fun b => .pointer (some ⟨b, 0, none⟩)) hS4 (fun b => by kernel_rfl) fun b1 w3 hx1 hS5 => ?_
  refine ge_batch [7, 8] (ans := []) (vs := [(2, v3), (1, v2)]) (l := []) (by kernel_rfl) trivial ?_
  refine ge_set (b := b1) (j := 0) (cs := #[.int .i64 0, .int .i64 0]) (t := 29) (vs := [.int .i64 r1.2.2.Code, .int .i64 r1.2.2.At]) hS5 (by kernel_rfl) rfl rfl fun w4 hS6 => ?_
  have hS7 : St w0 w4 [Own.blk b1 (.cells #[.int .i64 r1.2.2.Code, .int .i64 r1.2.2.At] 29 (0, 0)), Own.of v2 3 r1.1, Own.of v3 3 r1.2.1, Own.of (.slice Z1 two.f.length cz1) 35 two.f] := hS6
  refine ge_nil fun a hF => hK2 _ _ ?_ a hF
  refine we_seq fun K3 hK3 => ?_
  refine we_region [(0, 1), (1, 0), (2, 0), (3, 0), (4, 1), (5, 1), (6, 1), (7, 0), (8, 0), (9, 0), (10, 1), (11, 1), (12, 2), (13, 2)] rfl ?_
  refine ge_call (d := some 13) (f := 31) (args := #[]) (by kernel_rfl) (two_ok _ _ rfl) ?_
  rintro _ w5 ⟨v4, rfl, hS8⟩
  refine ⟨_, rfl, hS8.below, ?_⟩
  have hS9 := hS7.call hS8
  refine ge_batch [1, 2, 3] (ans := []) (vs := [(16, .agg #[.int .i64 1, .int .i64 6]), (15, .agg #[.int .i64 1, .int .i64 0]), (14, .agg #[.int .i64 0, .int .i64 0])]) (l := []) (by kernel_rfl) trivial ?_
  refine ge_new (d := some 17) (o := .cells #[.int .i64 0, .int .i64 0, .int .i64 1, .int .i64 0, .int .i64 1, .int .i64 6] 33) (v := fun b => .slice (some ⟨b, 0, none⟩) 3 3) hS9 (fun b => by kernel_rfl) fun b2 w6 hx2 hS10 => ?_
  refine ge_new (d := some 18) (o := .cells #[.int .i64 2, .int .i64 2, .int .i64 2] 3) (v := fun b => .slice (some ⟨b, 0, none⟩) 3 3) hS10 (fun b => by kernel_rfl) fun b3 w7 hx3 hS11 => ?_
  obtain ⟨Z2, cz2, rfl⟩ := hS11.open 2 rfl
  rcases hq4 : modes_Play.f K two.f ([(⟨0, 0⟩ : SCome), (⟨1, 0⟩ : SCome), (⟨1, 6⟩ : SCome)] : List SCome) ([2, 2, 2] : List Int) 8 with _ | r2
  · rw [hq4] at h; cases h
  rw [hq4] at h
  simp only [] at h
  refine ge_call (d := some 19) (f := 11) (args := #[(.slice Z2 two.f.length cz2), .slice (some ⟨b2, 0, none⟩) 3 3, .slice (some ⟨b3, 0, none⟩) 3 3, .int .i64 8]) (by kernel_rfl) (modes_Play_ok K two.f Z2 cz2 ([(⟨0, 0⟩ : SCome), (⟨1, 0⟩ : SCome), (⟨1, 6⟩ : SCome)] : List SCome) (some ⟨b2, 0, none⟩) 3 ([2, 2, 2] : List Int) (some ⟨b3, 0, none⟩) 3 8 _ (hS11.rdAt 2 rfl) (hS11.capAt 2 rfl) (hS11.rdBlk 1 ([(⟨0, 0⟩ : SCome), (⟨1, 0⟩ : SCome), (⟨1, 6⟩ : SCome)] : List SCome) rfl rfl rfl) (Nat.le_refl _) (hS11.rdBlk 0 ([2, 2, 2] : List Int) rfl rfl rfl) (Nat.le_refl _) _ hq4) ?_
  rintro _ w8 ⟨v5, v6, rfl, hS12⟩
  refine ⟨_, rfl, hS12.below, ?_⟩
  have hS13 := hS11.call hS12
  refine ge_batch [7, 8, 9] (ans := []) (vs := [(21, .agg #[.int .i64 r2.2.Code, .int .i64 r2.2.At]), (20, .agg #[v5, v6, .int .i64 r2.1.Turned]), (12, .tuple #[.agg #[v5, v6, .int .i64 r2.1.Turned], .agg #[.int .i64 r2.2.Code, .int .i64 r2.2.At]])]) (l := []) (by kernel_rfl) trivial ?_
  refine ge_new (d := some 4) (o := .cells #[.slice none 0 0, .slice none 0 0, .int .i64 0] 39) (v := fun b => .pointer (some ⟨b, 0, none⟩)) hS13 (fun b => by kernel_rfl) fun b4 w9 hx4 hS14 => ?_
  refine ge_new (d := some 5) (o := .cells #[.int .i64 0, .int .i64 0] 29) (v := fun b => .pointer (some ⟨b, 0, none⟩)) hS14 (fun b => by kernel_rfl) fun b5 w10 hx5 hS15 => ?_
  obtain ⟨Z3, cz3, rfl⟩ := hS15.open 2 rfl
  obtain ⟨Z4, cz4, rfl⟩ := hS15.open 3 rfl
  have hS16 := hS15.bring 1 rfl
  refine ge_set (b := b4) (j := 0) (cs := #[.slice none 0 0, .slice none 0 0, .int .i64 0]) (t := 39) (vs := [(.slice Z3 r2.1.Played.Runs.length cz3), (.slice Z4 r2.1.Played.Ends.length cz4), .int .i64 r2.1.Turned]) hS16 (by kernel_rfl) rfl rfl fun w11 hS17 => ?_
  have hS18 : St w0 w11 [Own.blk b4 (.cells #[(.slice Z3 r2.1.Played.Runs.length cz3), (.slice Z4 r2.1.Played.Ends.length cz4), .int .i64 r2.1.Turned] 39 (0, 0)), Own.blk b5 (.cells #[.int .i64 0, .int .i64 0] 29 (0, 0)), Own.of (.slice Z3 r2.1.Played.Runs.length cz3) 3 r2.1.Played.Runs, Own.of (.slice Z4 r2.1.Played.Ends.length cz4) 3 r2.1.Played.Ends, Own.blk b3 (.cells #[.int .i64 2, .int .i64 2, .int .i64 2] 3 (0, 0)), Own.blk b2 (.cells #[.int .i64 0, .int .i64 0, .int .i64 1, .int .i64 0, .int .i64 1, .int .i64 6] 33 (0, 0)), Own.of (.slice Z2 two.f.length cz2) 35 two.f, Own.blk b1 (.cells #[.int .i64 r1.2.2.Code, .int .i64 r1.2.2.At] 29 (0, 0)), Own.of v2 3 r1.1, Own.of v3 3 r1.2.1, Own.of (.slice Z1 two.f.length cz1) 35 two.f] := hS17
  have hS19 := hS18.bring 1 rfl
  refine ge_set (b := b5) (j := 0) (cs := #[.int .i64 0, .int .i64 0]) (t := 29) (vs := [.int .i64 r2.2.Code, .int .i64 r2.2.At]) hS19 (by kernel_rfl) rfl rfl fun w12 hS20 => ?_
  have hS21 : St w0 w12 [Own.blk b5 (.cells #[.int .i64 r2.2.Code, .int .i64 r2.2.At] 29 (0, 0)), Own.blk b4 (.cells #[(.slice Z3 r2.1.Played.Runs.length cz3), (.slice Z4 r2.1.Played.Ends.length cz4), .int .i64 r2.1.Turned] 39 (0, 0)), Own.of (.slice Z3 r2.1.Played.Runs.length cz3) 3 r2.1.Played.Runs, Own.of (.slice Z4 r2.1.Played.Ends.length cz4) 3 r2.1.Played.Ends, Own.blk b3 (.cells #[.int .i64 2, .int .i64 2, .int .i64 2] 3 (0, 0)), Own.blk b2 (.cells #[.int .i64 0, .int .i64 0, .int .i64 1, .int .i64 0, .int .i64 1, .int .i64 6] 33 (0, 0)), Own.of (.slice Z2 two.f.length cz2) 35 two.f, Own.blk b1 (.cells #[.int .i64 r1.2.2.Code, .int .i64 r1.2.2.At] 29 (0, 0)), Own.of v2 3 r1.1, Own.of v3 3 r1.2.1, Own.of (.slice Z1 two.f.length cz1) 35 two.f] := hS20
  refine ge_nil fun a hF => hK3 _ _ ?_ a hF
  refine we_seq fun K4 hK4 => ?_
  refine we_region [(0, 0), (1, 0), (2, 0), (3, 0), (4, 0), (5, 0), (6, 0), (7, 0), (8, 0), (9, 0), (10, 1), (11, 1), (12, 0), (13, 0), (14, 0), (15, 1), (16, 1), (17, 0), (18, 0), (19, 0), (20, 0), (21, 0), (22, 1), (23, 1), (24, 0), (25, 0), (26, 0), (27, 0), (28, 0), (29, 1), (30, 1), (31, 0), (32, 0), (33, 0), (34, 0), (35, 0), (36, 0), (37, 0)] rfl ?_
  refine ge_batch [0, 1, 2, 3] (ans := [.val (.int .i64 r1.2.2.Code)]) (vs := [(25, .bool (r1.2.2.Code == 0)), (24, .bool (r1.2.2.Code == 0)), (23, .int .i64 r1.2.2.Code), (22, .pointer (some ⟨b1, 0, none⟩))]) (l := [.loaded ⟨b1, 0, none⟩ (.int .i64 r1.2.2.Code)]) (by kernel_rfl) ⟨hS21.cell 7 rfl rfl, trivial⟩ ?_
  by_cases hc1 : r1.2.2.Code = 0
  · rw [if_pos hc1] at h
    refine ge_known (t := 25) (b := (r1.2.2.Code == 0)) (c := true) (by kernel_rfl) (beq_iff_eq.2 hc1) ?_
    refine ge_batch [4, 5, 6, 7, 8] (ans := [.val (.int .i64 r2.2.Code)]) (vs := [(30, .bool (r2.2.Code == 0)), (29, .bool (r2.2.Code == 0)), (28, .bool (r2.2.Code == 0)), (27, .int .i64 r2.2.Code), (26, .pointer (some ⟨b5, 0, none⟩))]) (l := [.loaded ⟨b5, 0, none⟩ (.int .i64 r2.2.Code)]) (by kernel_rfl) ⟨hS21.cell 0 rfl rfl, trivial⟩ ?_
    by_cases hc2 : r2.2.Code = 0
    · rw [if_pos hc2] at h
      refine ge_known (t := 30) (b := (r2.2.Code == 0)) (c := true) (by kernel_rfl) (beq_iff_eq.2 hc2) ?_
      refine ge_batch [9] (ans := []) (vs := [(31, v2)]) (l := []) (by kernel_rfl) trivial ?_
      refine ge_new (d := some 32) (o := .cells #[.int .i64 3, .int .i64 2] 3) (v := fun b => .slice (some ⟨b, 0, none⟩) 2 2) hS21 (fun b => by kernel_rfl) fun b6 w13 hx6 hS22 => ?_
      obtain ⟨Z5, cz5, rfl⟩ := hS22.open 9 rfl
      rcases hq5 : punctualsame_Same_int.f K r1.1 ([3, 2] : List Int) with _ | r3
      · rw [hq5] at h; cases h
      rw [hq5] at h
      simp only [] at h
      refine ge_call (d := some 33) (f := 21) (args := #[(.slice Z5 r1.1.length cz5), .slice (some ⟨b6, 0, none⟩) 2 2]) (by kernel_rfl) (punctualsame_Same_int_ok K r1.1 Z5 cz5 ([3, 2] : List Int) (some ⟨b6, 0, none⟩) 2 _ (hS22.rdAt 9 rfl) (hS22.capAt 9 rfl) (hS22.rdBlk 0 ([3, 2] : List Int) rfl rfl rfl) (Nat.le_refl _) _ hq5) ?_
      rintro _ w14 ⟨rfl, hS23⟩
      refine ⟨_, rfl, hS23.below, ?_⟩
      have hS24 := hS22.call hS23
      refine ge_batch [12, 13] (ans := []) (vs := [(35, .bool r3), (34, .bool r3)]) (l := []) (by kernel_rfl) trivial ?_
      by_cases hc3 : r3 = true
      · rw [if_pos hc3] at h
        refine ge_known (t := 35) (b := r3) (c := true) (by kernel_rfl) hc3 ?_
        refine ge_batch [14] (ans := []) (vs := [(36, v3)]) (l := []) (by kernel_rfl) trivial ?_
        refine ge_new (d := some 37) (o := .cells #[.int .i64 4, .int .i64 0] 3) (v := fun b => .slice (some ⟨b, 0, none⟩) 2 2) hS24 (fun b => by kernel_rfl) fun b7 w15 hx7 hS25 => ?_
        obtain ⟨Z6, cz6, rfl⟩ := hS25.open 11 rfl
        rcases hq6 : punctualsame_Same_int.f K r1.2.1 ([4, 0] : List Int) with _ | r4
        · rw [hq6] at h; cases h
        rw [hq6] at h
        simp only [] at h
        refine ge_call (d := some 38) (f := 21) (args := #[(.slice Z6 r1.2.1.length cz6), .slice (some ⟨b7, 0, none⟩) 2 2]) (by kernel_rfl) (punctualsame_Same_int_ok K r1.2.1 Z6 cz6 ([4, 0] : List Int) (some ⟨b7, 0, none⟩) 2 _ (hS25.rdAt 11 rfl) (hS25.capAt 11 rfl) (hS25.rdBlk 0 ([4, 0] : List Int) rfl rfl rfl) (Nat.le_refl _) _ hq6) ?_
        rintro _ w16 ⟨rfl, hS26⟩
        refine ⟨_, rfl, hS26.below, ?_⟩
        have hS27 := hS25.call hS26
        refine ge_batch [17, 18] (ans := []) (vs := [(40, .bool r4), (39, .bool r4)]) (l := []) (by kernel_rfl) trivial ?_
        by_cases hc4 : r4 = true
        · rw [if_pos hc4] at h
          refine ge_known (t := 40) (b := r4) (c := true) (by kernel_rfl) hc4 ?_
          refine ge_batch [19, 20, 21] (ans := [.val ((.slice Z3 r2.1.Played.Runs.length cz3))]) (vs := [(43, (.slice Z3 r2.1.Played.Runs.length cz3)), (42, .pointer (some ⟨b4, 0, none⟩)), (41, .pointer (some ⟨b4, 0, none⟩))]) (l := [.loaded ⟨b4, 0, none⟩ ((.slice Z3 r2.1.Played.Runs.length cz3))]) (by kernel_rfl) ⟨hS27.cell 3 rfl rfl, trivial⟩ ?_
          refine ge_new (d := some 44) (o := .cells #[.int .i64 1, .int .i64 1, .int .i64 0, .int .i64 0, .int .i64 (-1), .int .i64 (-1), .int .i64 (-1), .int .i64 (-1)] 3) (v := fun b => .slice (some ⟨b, 0, none⟩) 8 8) hS27 (fun b => by kernel_rfl) fun b8 w17 hx8 hS28 => ?_
          rcases hq7 : punctualsame_Same_int.f K r2.1.Played.Runs ([1, 1, 0, 0, (-1), (-1), (-1), (-1)] : List Int) with _ | r5
          · rw [hq7] at h; cases h
          rw [hq7] at h
          simp only [] at h
          refine ge_call (d := some 45) (f := 21) (args := #[(.slice Z3 r2.1.Played.Runs.length cz3), .slice (some ⟨b8, 0, none⟩) 8 8]) (by kernel_rfl) (punctualsame_Same_int_ok K r2.1.Played.Runs Z3 cz3 ([1, 1, 0, 0, (-1), (-1), (-1), (-1)] : List Int) (some ⟨b8, 0, none⟩) 8 _ (hS28.rdAt 5 rfl) (hS28.capAt 5 rfl) (hS28.rdBlk 0 ([1, 1, 0, 0, (-1), (-1), (-1), (-1)] : List Int) rfl rfl rfl) (Nat.le_refl _) _ hq7) ?_
          rintro _ w18 ⟨rfl, hS29⟩
          refine ⟨_, rfl, hS29.below, ?_⟩
          have hS30 := hS28.call hS29
          refine ge_batch [24, 25] (ans := []) (vs := [(47, .bool r5), (46, .bool r5)]) (l := []) (by kernel_rfl) trivial ?_
          by_cases hc5 : r5 = true
          · rw [if_pos hc5] at h
            refine ge_known (t := 47) (b := r5) (c := true) (by kernel_rfl) hc5 ?_
            refine ge_batch [26, 27, 28] (ans := [.val ((.slice Z4 r2.1.Played.Ends.length cz4))]) (vs := [(50, (.slice Z4 r2.1.Played.Ends.length cz4)), (49, .pointer (some ⟨b4, 1, none⟩)), (48, .pointer (some ⟨b4, 0, none⟩))]) (l := [.loaded ⟨b4, 1, none⟩ ((.slice Z4 r2.1.Played.Ends.length cz4))]) (by kernel_rfl) ⟨hS30.cell 4 rfl rfl, trivial⟩ ?_
            refine ge_new (d := some 51) (o := .cells #[.int .i64 4, .int .i64 2, .int .i64 (-1)] 3) (v := fun b => .slice (some ⟨b, 0, none⟩) 3 3) hS30 (fun b => by kernel_rfl) fun b9 w19 hx9 hS31 => ?_
            rcases hq8 : punctualsame_Same_int.f K r2.1.Played.Ends ([4, 2, (-1)] : List Int) with _ | r6
            · rw [hq8] at h; cases h
            rw [hq8] at h
            simp only [] at h
            refine ge_call (d := some 52) (f := 21) (args := #[(.slice Z4 r2.1.Played.Ends.length cz4), .slice (some ⟨b9, 0, none⟩) 3 3]) (by kernel_rfl) (punctualsame_Same_int_ok K r2.1.Played.Ends Z4 cz4 ([4, 2, (-1)] : List Int) (some ⟨b9, 0, none⟩) 3 _ (hS31.rdAt 7 rfl) (hS31.capAt 7 rfl) (hS31.rdBlk 0 ([4, 2, (-1)] : List Int) rfl rfl rfl) (Nat.le_refl _) _ hq8) ?_
            rintro _ w20 ⟨rfl, hS32⟩
            refine ⟨_, rfl, hS32.below, ?_⟩
            have hS33 := hS31.call hS32
            refine ge_batch [31, 32] (ans := []) (vs := [(54, .bool r6), (53, .bool r6)]) (l := []) (by kernel_rfl) trivial ?_
            by_cases hc6 : r6 = true
            · rw [if_pos hc6] at h
              refine ge_known (t := 54) (b := r6) (c := true) (by kernel_rfl) hc6 ?_
              refine ge_batch [33, 34, 35, 36, 37] (ans := [.val (.int .i64 r2.1.Turned)]) (vs := [(0, .bool (r2.1.Turned == 3)), (58, .bool (r2.1.Turned == 3)), (57, .bool (r2.1.Turned == 3)), (56, .int .i64 r2.1.Turned), (55, .pointer (some ⟨b4, 2, none⟩))]) (l := [.loaded ⟨b4, 2, none⟩ (.int .i64 r2.1.Turned)]) (by kernel_rfl) ⟨hS33.cell 5 rfl rfl, trivial⟩ ?_
              refine ge_nil fun a hF => hK4 _ _ ?_ a hF
              have hS34 := hS33.takeN 0
              obtain rfl := Option.some.inj h
              exact we_ret (post_ret (rs := [.tmp 0]) (ans := []) (vs := [.bool (r2.1.Turned == 3)]) (l := []) rfl (by kernel_rfl) trivial ⟨rfl, hS34⟩)
            · rw [if_neg hc6] at h
              refine ge_known (t := 54) (b := r6) (c := false) (by kernel_rfl) (Bool.eq_false_iff.2 hc6) ?_
              refine ge_batch [33, 34, 35, 36, 37] (ans := []) (vs := [(0, .bool false), (58, .bool false), (57, undef), (56, undef), (55, undef)]) (l := []) (by kernel_rfl) trivial ?_
              refine ge_nil fun a hF => hK4 _ _ ?_ a hF
              have hS35 := hS33.takeN 0
              obtain rfl := Option.some.inj h
              exact we_ret (post_ret (rs := [.tmp 0]) (ans := []) (vs := [.bool false]) (l := []) rfl (by kernel_rfl) trivial ⟨rfl, hS35⟩)
          · rw [if_neg hc5] at h
            refine ge_known (t := 47) (b := r5) (c := false) (by kernel_rfl) (Bool.eq_false_iff.2 hc5) ?_
            refine ge_batch [26, 27, 28] (ans := []) (vs := [(50, undef), (49, undef), (48, undef)]) (l := []) (by kernel_rfl) trivial ?_
            refine ge_off rfl rfl rfl (by kernel_rfl) ?_
            refine ge_off rfl rfl rfl (by kernel_rfl) ?_
            refine ge_batch [31, 32, 33, 34, 35, 36, 37] (ans := []) (vs := [(0, .bool false), (58, .bool false), (57, undef), (56, undef), (55, undef), (54, .bool false), (53, .bool false)]) (l := []) (by kernel_rfl) trivial ?_
            refine ge_nil fun a hF => hK4 _ _ ?_ a hF
            have hS36 := hS30.takeN 0
            obtain rfl := Option.some.inj h
            exact we_ret (post_ret (rs := [.tmp 0]) (ans := []) (vs := [.bool false]) (l := []) rfl (by kernel_rfl) trivial ⟨rfl, hS36⟩)
        · rw [if_neg hc4] at h
          refine ge_known (t := 40) (b := r4) (c := false) (by kernel_rfl) (Bool.eq_false_iff.2 hc4) ?_
          refine ge_batch [19, 20, 21] (ans := []) (vs := [(43, undef), (42, undef), (41, undef)]) (l := []) (by kernel_rfl) trivial ?_
          refine ge_off rfl rfl rfl (by kernel_rfl) ?_
          refine ge_off rfl rfl rfl (by kernel_rfl) ?_
          refine ge_batch [24, 25, 26, 27, 28] (ans := []) (vs := [(50, undef), (49, undef), (48, undef), (47, .bool false), (46, .bool false)]) (l := []) (by kernel_rfl) trivial ?_
          refine ge_off rfl rfl rfl (by kernel_rfl) ?_
          refine ge_off rfl rfl rfl (by kernel_rfl) ?_
          refine ge_batch [31, 32, 33, 34, 35, 36, 37] (ans := []) (vs := [(0, .bool false), (58, .bool false), (57, undef), (56, undef), (55, undef), (54, .bool false), (53, .bool false)]) (l := []) (by kernel_rfl) trivial ?_
          refine ge_nil fun a hF => hK4 _ _ ?_ a hF
          have hS37 := hS27.takeN 0
          obtain rfl := Option.some.inj h
          exact we_ret (post_ret (rs := [.tmp 0]) (ans := []) (vs := [.bool false]) (l := []) rfl (by kernel_rfl) trivial ⟨rfl, hS37⟩)
      · rw [if_neg hc3] at h
        refine ge_known (t := 35) (b := r3) (c := false) (by kernel_rfl) (Bool.eq_false_iff.2 hc3) ?_
        refine ge_batch [14] (ans := []) (vs := [(36, undef)]) (l := []) (by kernel_rfl) trivial ?_
        refine ge_off rfl rfl rfl (by kernel_rfl) ?_
        refine ge_off rfl rfl rfl (by kernel_rfl) ?_
        refine ge_batch [17, 18, 19, 20, 21] (ans := []) (vs := [(43, undef), (42, undef), (41, undef), (40, .bool false), (39, .bool false)]) (l := []) (by kernel_rfl) trivial ?_
        refine ge_off rfl rfl rfl (by kernel_rfl) ?_
        refine ge_off rfl rfl rfl (by kernel_rfl) ?_
        refine ge_batch [24, 25, 26, 27, 28] (ans := []) (vs := [(50, undef), (49, undef), (48, undef), (47, .bool false), (46, .bool false)]) (l := []) (by kernel_rfl) trivial ?_
        refine ge_off rfl rfl rfl (by kernel_rfl) ?_
        refine ge_off rfl rfl rfl (by kernel_rfl) ?_
        refine ge_batch [31, 32, 33, 34, 35, 36, 37] (ans := []) (vs := [(0, .bool false), (58, .bool false), (57, undef), (56, undef), (55, undef), (54, .bool false), (53, .bool false)]) (l := []) (by kernel_rfl) trivial ?_
        refine ge_nil fun a hF => hK4 _ _ ?_ a hF
        have hS38 := hS24.takeN 0
        obtain rfl := Option.some.inj h
        exact we_ret (post_ret (rs := [.tmp 0]) (ans := []) (vs := [.bool false]) (l := []) rfl (by kernel_rfl) trivial ⟨rfl, hS38⟩)
    · rw [if_neg hc2] at h
      refine ge_known (t := 30) (b := (r2.2.Code == 0)) (c := false) (by kernel_rfl) (beq_eq_false_iff_ne.2 hc2) ?_
      refine ge_batch [9] (ans := []) (vs := [(31, undef)]) (l := []) (by kernel_rfl) trivial ?_
      refine ge_off rfl rfl rfl (by kernel_rfl) ?_
      refine ge_off rfl rfl rfl (by kernel_rfl) ?_
      refine ge_batch [12, 13, 14] (ans := []) (vs := [(36, undef), (35, .bool false), (34, .bool false)]) (l := []) (by kernel_rfl) trivial ?_
      refine ge_off rfl rfl rfl (by kernel_rfl) ?_
      refine ge_off rfl rfl rfl (by kernel_rfl) ?_
      refine ge_batch [17, 18, 19, 20, 21] (ans := []) (vs := [(43, undef), (42, undef), (41, undef), (40, .bool false), (39, .bool false)]) (l := []) (by kernel_rfl) trivial ?_
      refine ge_off rfl rfl rfl (by kernel_rfl) ?_
      refine ge_off rfl rfl rfl (by kernel_rfl) ?_
      refine ge_batch [24, 25, 26, 27, 28] (ans := []) (vs := [(50, undef), (49, undef), (48, undef), (47, .bool false), (46, .bool false)]) (l := []) (by kernel_rfl) trivial ?_
      refine ge_off rfl rfl rfl (by kernel_rfl) ?_
      refine ge_off rfl rfl rfl (by kernel_rfl) ?_
      refine ge_batch [31, 32, 33, 34, 35, 36, 37] (ans := []) (vs := [(0, .bool false), (58, .bool false), (57, undef), (56, undef), (55, undef), (54, .bool false), (53, .bool false)]) (l := []) (by kernel_rfl) trivial ?_
      refine ge_nil fun a hF => hK4 _ _ ?_ a hF
      have hS39 := hS21.takeN 0
      obtain rfl := Option.some.inj h
      exact we_ret (post_ret (rs := [.tmp 0]) (ans := []) (vs := [.bool false]) (l := []) rfl (by kernel_rfl) trivial ⟨rfl, hS39⟩)
  · rw [if_neg hc1] at h
    refine ge_known (t := 25) (b := (r1.2.2.Code == 0)) (c := false) (by kernel_rfl) (beq_eq_false_iff_ne.2 hc1) ?_
    refine ge_batch [4, 5, 6, 7, 8, 9] (ans := []) (vs := [(31, undef), (30, .bool false), (29, .bool false), (28, undef), (27, undef), (26, undef)]) (l := []) (by kernel_rfl) trivial ?_
    refine ge_off rfl rfl rfl (by kernel_rfl) ?_
    refine ge_off rfl rfl rfl (by kernel_rfl) ?_
    refine ge_batch [12, 13, 14] (ans := []) (vs := [(36, undef), (35, .bool false), (34, .bool false)]) (l := []) (by kernel_rfl) trivial ?_
    refine ge_off rfl rfl rfl (by kernel_rfl) ?_
    refine ge_off rfl rfl rfl (by kernel_rfl) ?_
    refine ge_batch [17, 18, 19, 20, 21] (ans := []) (vs := [(43, undef), (42, undef), (41, undef), (40, .bool false), (39, .bool false)]) (l := []) (by kernel_rfl) trivial ?_
    refine ge_off rfl rfl rfl (by kernel_rfl) ?_
    refine ge_off rfl rfl rfl (by kernel_rfl) ?_
    refine ge_batch [24, 25, 26, 27, 28] (ans := []) (vs := [(50, undef), (49, undef), (48, undef), (47, .bool false), (46, .bool false)]) (l := []) (by kernel_rfl) trivial ?_
    refine ge_off rfl rfl rfl (by kernel_rfl) ?_
    refine ge_off rfl rfl rfl (by kernel_rfl) ?_
    refine ge_batch [31, 32, 33, 34, 35, 36, 37] (ans := []) (vs := [(0, .bool false), (58, .bool false), (57, undef), (56, undef), (55, undef), (54, .bool false), (53, .bool false)]) (l := []) (by kernel_rfl) trivial ?_
    refine ge_nil fun a hF => hK4 _ _ ?_ a hF
    have hS40 := hS21.takeN 0
    obtain rfl := Option.some.inj h
    exact we_ret (post_ret (rs := [.tmp 0]) (ans := []) (vs := [.bool false]) (l := []) rfl (by kernel_rfl) trivial ⟨rfl, hS40⟩)

/-! punctual/punctuallaw.few -/
abbrev few.Post (w0 : World) (r : Bool) (e : Ending) (w : World) : Prop := e = .returned (.bool r) ∧ St w0 w []
def few.f (x0 : Int) : Bool :=
  decide (x0 ≤ 5000)
theorem few_ok (x0 : Int) (w0 : World) (r : Bool) (h : few.f x0 = r) :
    Calls Try.prog 9 #[.int .i64 x0] w0 (few.Post w0 r) := by
  have hS := St.start w0
  unfold few.f at h
  refine calls_enter (n := 5) (args := [.int .i64 x0]) (fn := Try.f9) rfl rfl rfl rfl ?_
  show WE _ _ _ _ [(0, .int .i64 x0)] _
  refine we_seq fun K1 hK1 => ?_
  refine we_region [(0, 0)] rfl ?_
  refine ge_batch [0] (ans := []) (vs := [(2, .bool false)]) (l := []) (by kernel_rfl) trivial ?_
  refine ge_nil fun a hF => hK1 _ _ ?_ a hF
  refine we_seq fun K2 hK2 => ?_
  refine we_region [(0, 0), (1, 0), (2, 0)] rfl ?_
  refine ge_batch [0, 1, 2] (ans := []) (vs := [(2, .bool (decide (x0 ≤ 5000))), (4, .bool (decide (x0 ≤ 5000))), (3, .int .i64 x0)]) (l := []) (by kernel_rfl) trivial ?_
  refine ge_nil fun a hF => hK2 _ _ ?_ a hF
  subst h
  exact we_ret (post_ret (rs := [.tmp 2]) (ans := []) (vs := [.bool (decide (x0 ≤ 5000))]) (l := []) rfl (by kernel_rfl) trivial ⟨rfl, hS⟩)

/-! punctual/punctuallaw.ModesKeep$1 -/
abbrev ModesKeep_1.Post (w0 : World) (r : Bool) (e : Ending) (w : World) : Prop := e = .returned (.bool r) ∧ St w0 w []
def ModesKeep_1.f (x0 : Int) (lf_0_0_0 : List Int) (lf_0_0_1 : List Int) (xf_0_1 : Int) (xf_1 : Int) (xf_2 : SCome) : Option Bool :=
  if 0 ≤ xf_1 then
    match lf_0_0_1[(xf_1).toNat]? with
    | none => none
    | some e1 =>
      if e1 ≥ 0 then
        some (decide ((IntKind.i64.wrap (e1 - xf_2.At)) ≤ x0))
      else
        some false
  else
    none
theorem ModesKeep_1_ok (x0 : Int) (bf_0 : Nat) (lf_0_0_0 : List Int) (Af_0_0_0 : Option Addr) (cf_0_0_0 : Nat) (lf_0_0_1 : List Int) (Af_0_0_1 : Option Addr) (cf_0_0_1 : Nat) (xf_0_1 : Int) (bf_1 : Nat) (xf_1 : Int) (bf_2 : Nat) (xf_2 : SCome) (w0 : World) (hRf_0_0_0 : RdL w0 Af_0_0_0 lf_0_0_0) (hLf_0_0_0 : lf_0_0_0.length ≤ cf_0_0_0) (hRf_0_0_1 : RdL w0 Af_0_0_1 lf_0_0_1) (hLf_0_0_1 : lf_0_0_1.length ≤ cf_0_0_1) (hBf_0 : Glob w0 bf_0 [.slice Af_0_0_0 lf_0_0_0.length cf_0_0_0, .slice Af_0_0_1 lf_0_0_1.length cf_0_0_1, .int .i64 xf_0_1]) (hBf_1 : Glob w0 bf_1 [.int .i64 xf_1]) (hBf_2 : Glob w0 bf_2 [.int .i64 xf_2.Task, .int .i64 xf_2.At]) (r : Bool) (h : ModesKeep_1.f x0 lf_0_0_0 lf_0_0_1 xf_0_1 xf_1 xf_2 = some r) :
    Calls Try.prog 12 #[.int .i64 x0, .pointer (some ⟨bf_0, 0, none⟩), .pointer (some ⟨bf_1, 0, none⟩), .pointer (some ⟨bf_2, 0, none⟩)] w0 (ModesKeep_1.Post w0 r) := by
  have hS := St.start w0
  unfold ModesKeep_1.f at h
  refine calls_enter (n := 26) (args := [.int .i64 x0, .pointer (some ⟨bf_0, 0, none⟩), .pointer (some ⟨bf_1, 0, none⟩), .pointer (some ⟨bf_2, 0, none⟩)]) (fn := Try.f12) rfl rfl rfl rfl ?_
  show WE _ _ _ _ [(0, .int .i64 x0), (1, .pointer (some ⟨bf_0, 0, none⟩)), (2, .pointer (some ⟨bf_1, 0, none⟩)), (3, .pointer (some ⟨bf_2, 0, none⟩))] _
  refine we_seq fun K1 hK1 => ?_
  refine we_region [(0, 0)] rfl ?_
  refine ge_batch [0] (ans := []) (vs := [(5, .bool false)]) (l := []) (by kernel_rfl) trivial ?_
  refine ge_nil fun a hF => hK1 _ _ ?_ a hF
  refine we_seq fun K2 hK2 => ?_
  refine we_draws (by kernel_rfl) [(0, 0), (1, 0), (2, 0), (3, 0), (4, 0), (5, 0), (6, 0), (7, 0), (8, 0), (9, 0), (10, 0), (11, 0), (12, 0), (13, 0), (14, 0), (15, 0), (16, 0), (17, 0), (18, 0), (19, 0), (20, 0)] (by kernel_rfl) ?_
  have hS1 := hS.drew
  refine ge_batch [0, 1, 2, 3] (ans := [.val (.slice Af_0_0_1 lf_0_0_1.length cf_0_0_1), .val (.int .i64 xf_1)]) (vs := [(9, .int .i64 xf_1), (8, .slice Af_0_0_1 lf_0_0_1.length cf_0_0_1), (7, .pointer (some ⟨bf_0, 1, none⟩)), (6, .pointer (some ⟨bf_0, 0, none⟩))]) (l := [.loaded ⟨bf_0, 1, none⟩ (.slice Af_0_0_1 lf_0_0_1.length cf_0_0_1), .loaded ⟨bf_1, 0, none⟩ (.int .i64 xf_1)]) (by kernel_rfl) ⟨hS1.glob hBf_0 rfl, hS1.glob hBf_1 rfl, trivial⟩ ?_
  by_cases hc1 : 0 ≤ xf_1
  · rw [if_pos hc1] at h
    rcases hx1 : lf_0_0_1[(xf_1).toNat]? with _ | e1
    · rw [hx1] at h; cases h
    rw [hx1] at h
    simp only [] at h
    refine ge_index (d := 10) (ty := 0) (t := 24) (el := 3) (sz := 1) (m := lf_0_0_1.length) (c := cf_0_0_1) (x := (.tmp 8)) (y := (.tmp 9)) (A := Af_0_0_1) (k' := .i64) (j := xf_1) (jn := ((xf_1).toNat)) (b0 := blkOf Af_0_0_1) (o0 := offOf Af_0_0_1) (by kernel_rfl) (by kernel_rfl) (by kernel_rfl) (by kernel_rfl) (by kernel_rfl) ((hS1.rd hRf_0_0_1).eqSome (pos_of_get hx1)) (Int.toNat_of_nonneg hc1).symm (lt_of_get hx1) ?_
    refine ge_batch [5, 6, 7] (ans := [.val (.int .i64 e1)]) (vs := [(13, .bool (decide (e1 ≥ 0))), (12, .bool (decide (e1 ≥ 0))), (11, .int .i64 e1)]) (l := [.loaded ⟨blkOf Af_0_0_1, offOf Af_0_0_1 + ((xf_1).toNat) * 1, none⟩ (.int .i64 e1)]) (by kernel_rfl) ⟨RdL.cell (j := 0) (hS1.rd hRf_0_0_1) hx1 rfl, trivial⟩ ?_
    by_cases hc2 : e1 ≥ 0
    · rw [if_pos hc2] at h
      refine ge_known (t := 13) (b := decide (e1 ≥ 0)) (c := true) (by kernel_rfl) (decide_eq_true hc2) ?_
      refine ge_batch [8, 9, 10, 11] (ans := [.val (.slice Af_0_0_1 lf_0_0_1.length cf_0_0_1), .val (.int .i64 xf_1)]) (vs := [(17, .int .i64 xf_1), (16, .slice Af_0_0_1 lf_0_0_1.length cf_0_0_1), (15, .pointer (some ⟨bf_0, 1, none⟩)), (14, .pointer (some ⟨bf_0, 0, none⟩))]) (l := [.loaded ⟨bf_0, 1, none⟩ (.slice Af_0_0_1 lf_0_0_1.length cf_0_0_1), .loaded ⟨bf_1, 0, none⟩ (.int .i64 xf_1)]) (by kernel_rfl) ⟨hS1.glob hBf_0 rfl, hS1.glob hBf_1 rfl, trivial⟩ ?_
      refine ge_index (d := 18) (ty := 0) (t := 24) (el := 3) (sz := 1) (m := lf_0_0_1.length) (c := cf_0_0_1) (x := (.tmp 16)) (y := (.tmp 17)) (A := Af_0_0_1) (k' := .i64) (j := xf_1) (jn := ((xf_1).toNat)) (b0 := blkOf Af_0_0_1) (o0 := offOf Af_0_0_1) (by kernel_rfl) (by kernel_rfl) (by kernel_rfl) (by kernel_rfl) (by kernel_rfl) ((hS1.rd hRf_0_0_1).eqSome (pos_of_get hx1)) (Int.toNat_of_nonneg hc1).symm (lt_of_get hx1) ?_
      refine ge_batch [13, 14, 15, 16, 17, 18, 19, 20] (ans := [.val (.int .i64 e1), .val (.int .i64 xf_2.At)]) (vs := [(5, .bool (decide ((IntKind.i64.wrap (e1 - xf_2.At)) ≤ x0))), (25, .bool (decide ((IntKind.i64.wrap (e1 - xf_2.At)) ≤ x0))), (24, .bool (decide ((IntKind.i64.wrap (e1 - xf_2.At)) ≤ x0))), (23, .int .i64 x0), (22, .int .i64 (IntKind.i64.wrap (e1 - xf_2.At))), (21, .int .i64 xf_2.At), (20, .pointer (some ⟨bf_2, 1, none⟩)), (19, .int .i64 e1)]) (l := [.loaded ⟨blkOf Af_0_0_1, offOf Af_0_0_1 + ((xf_1).toNat) * 1, none⟩ (.int .i64 e1), .loaded ⟨bf_2, 1, none⟩ (.int .i64 xf_2.At)]) (by kernel_rfl) ⟨RdL.cell (j := 0) (hS1.rd hRf_0_0_1) hx1 rfl, hS1.glob hBf_2 rfl, trivial⟩ ?_
      refine ge_nil fun a hF => hK2 _ _ ?_ a hF
      obtain rfl := Option.some.inj h
      exact we_ret (post_ret (rs := [.tmp 5]) (ans := []) (vs := [.bool (decide ((IntKind.i64.wrap (e1 - xf_2.At)) ≤ x0))]) (l := []) rfl (by kernel_rfl) trivial ⟨rfl, hS1⟩)
    · rw [if_neg hc2] at h
      refine ge_known (t := 13) (b := decide (e1 ≥ 0)) (c := false) (by kernel_rfl) (decide_eq_false hc2) ?_
      refine ge_batch [8, 9, 10, 11, 12, 13, 14, 15, 16, 17, 18, 19, 20] (ans := []) (vs := [(5, .bool false), (25, .bool false), (24, undef), (23, undef), (22, undef), (21, undef), (20, undef), (19, undef), (18, undef), (17, undef), (16, undef), (15, undef), (14, undef)]) (l := []) (by kernel_rfl) trivial ?_
      refine ge_nil fun a hF => hK2 _ _ ?_ a hF
      obtain rfl := Option.some.inj h
      exact we_ret (post_ret (rs := [.tmp 5]) (ans := []) (vs := [.bool false]) (l := []) rfl (by kernel_rfl) trivial ⟨rfl, hS1⟩)
  · rw [if_neg hc1] at h
    cases h

/-! punctual/punctuallaw.ModesKeep -/
abbrev ModesKeep.Post (w0 : World) (r : Bool) (e : Ending) (w : World) : Prop := e = .returned (.bool r) ∧ St w0 w []
def ModesKeep.p0 (l0 : List SCrit) (l1 : List SCome) : Option (Unit ⊕ Bool) :=
    if (few.f (l0.length : Int)) = true then
      if (l1.length : Int) > 300 then
        some (.inr true)
      else
        some (.inl ())
    else
      some (.inr true)
def ModesKeep.p2 (l0 : List SCrit) (e1 : SCome) : Option (Unit ⊕ Bool) :=
    if e1.Task < 0 then
      some (.inr true)
    else
      if e1.Task ≥ (l0.length : Int) then
        some (.inr true)
      else
        if e1.At < 0 then
          some (.inr true)
        else
          if e1.At > 2000 then
            some (.inr true)
          else
            some (.inl ())
def ModesKeep.r3 (l0 : List SCrit) (l1 : List SCome) (i1 : Nat) (e1 : SCome) : Nat → Option (Nat ⊕ (Unit ⊕ Bool))
  | i2 =>
    if (i2 : Int) < (((l1.take i1).drop 0).length : Int) then
      match ((l1.take i1).drop 0)[i2]? with
      | none => none
      | some e2 =>
        if e2.Task = e1.Task then
          if 0 ≤ e1.Task then
            match l0[(e1.Task).toNat]? with
            | none => none
            | some e3 =>
              if (IntKind.i64.wrap (e1.At - e2.At)) < e3.T then
                some (.inr (.inr true))
              else
                some (.inl (i2 + 1))
          else
            none
        else
          some (.inl (i2 + 1))
    else
      some (.inr (.inl ()))
def ModesKeep.r1 (K : Nat) (l0 : List SCrit) (l1 : List SCome) : Int × Nat → Option ((Int × Nat) ⊕ (Int ⊕ Bool))
  | (z1, i1) =>
    if (i1 : Int) < (l1.length : Int) then
      match l1[i1]? with
      | none => none
      | some e1 =>
        match ModesKeep.p2 l0 e1 with
        | none => none
        | some (.inl _) =>
          if i1 ≤ l1.length then
            match iter (ModesKeep.r3 l0 l1 i1 e1) K 0 with
            | none => none
            | some (.inl _) =>
              if 0 ≤ e1.Task then
                match l0[(e1.Task).toNat]? with
                | none => none
                | some e4 =>
                  some (.inl (gmax z1 (IntKind.i64.wrap (e1.At + e4.D)), (i1 + 1)))
              else
                none
            | some (.inr rr1) =>
              some (.inr (.inr rr1))
          else
            none
        | some (.inr rr2) =>
          some (.inr (.inr rr2))
    else
      some (.inr (.inl z1))
def ModesKeep.r4 (l0 : List SCrit) (l1 : List SCome) (r2 : (List Int) × (List Int) × SFault) (r3 : SModal × SFault) : Nat → Option (Nat ⊕ (Unit ⊕ Bool))
  | i3 =>
    if (i3 : Int) < (l1.length : Int) then
      match l1[i3]? with
      | none => none
      | some e5 =>
        if 0 ≤ e5.Task then
          match l0[(e5.Task).toNat]? with
          | none => none
          | some e6 =>
            if e6.High = true then
              match r2.1[(e5.Task).toNat]? with
              | none => none
              | some e7 =>
                match r2.2.1[(e5.Task).toNat]? with
                | none => none
                | some e8 =>
                  match ModesKeep_1.f (gmax e7 e8) r3.1.Played.Runs r3.1.Played.Ends r3.1.Turned (i3 : Int) e5 with
                  | none => none
                  | some r4 =>
                    if r4 = true then
                      if r3.1.Turned < 0 then
                        match ModesKeep_1.f e7 r3.1.Played.Runs r3.1.Played.Ends r3.1.Turned (i3 : Int) e5 with
                        | none => none
                        | some r5 =>
                          if r5 = true then
                            some (.inl (i3 + 1))
                          else
                            some (.inr (.inr false))
                      else
                        if r3.1.Turned > (IntKind.i64.wrap (e5.At + e7)) then
                          match ModesKeep_1.f e7 r3.1.Played.Runs r3.1.Played.Ends r3.1.Turned (i3 : Int) e5 with
                          | none => none
                          | some r6 =>
                            if r6 = true then
                              some (.inl (i3 + 1))
                            else
                              some (.inr (.inr false))
                        else
                          some (.inl (i3 + 1))
                    else
                      some (.inr (.inr false))
            else
              if r3.1.Turned < 0 then
                match r2.1[(e5.Task).toNat]? with
                | none => none
                | some e9 =>
                  match ModesKeep_1.f e9 r3.1.Played.Runs r3.1.Played.Ends r3.1.Turned (i3 : Int) e5 with
                  | none => none
                  | some r7 =>
                    if r7 = true then
                      some (.inl (i3 + 1))
                    else
                      some (.inr (.inr false))
              else
                match r2.1[(e5.Task).toNat]? with
                | none => none
                | some e10 =>
                  if r3.1.Turned > (IntKind.i64.wrap (e5.At + e10)) then
                    match ModesKeep_1.f e10 r3.1.Played.Runs r3.1.Played.Ends r3.1.Turned (i3 : Int) e5 with
                    | none => none
                    | some r8 =>
                      if r8 = true then
                        some (.inl (i3 + 1))
                      else
                        some (.inr (.inr false))
                  else
                    some (.inl (i3 + 1))
        else
          none
    else
      some (.inr (.inl ()))
def ModesKeep.p5 (r3 : SModal × SFault) : Option (Bool ⊕ Bool) :=
    if r3.2.Code = 2 then
      some (.inl true)
    else
      some (.inl (r3.2.Code == 3))
def ModesKeep.p6 (r2 : (List Int) × (List Int) × SFault) : Option (Bool ⊕ Bool) :=
    if (r2.1.length : Int) = 0 then
      some (.inl ((r2.2.1.length : Int) == 0))
    else
      some (.inl false)
def ModesKeep.f (K : Nat) (l0 : List SCrit) (l1 : List SCome) (l2 : List Int) : Option Bool :=
  match turns.f K with
  | none => none
  | some r1 =>
    if r1 = true then
      match ModesKeep.p0 l0 l1 with
      | none => none
      | some (.inl _) =>
        match modes_Responses.f K l0 with
        | none => none
        | some r2 =>
          if r2.2.2.Code = 0 then
            match iter (ModesKeep.r1 K l0 l1) K (0, 0) with
            | none => none
            | some (.inl z3) =>
              if z3 > 3000 then
                some true
              else
                match modes_Play.f K l0 l1 l2 z3 with
                | none => none
                | some r3 =>
                  if r3.2.Code = 0 then
                    if (r3.1.Played.Ends.length : Int) = (l1.length : Int) then
                      match iter (ModesKeep.r4 l0 l1 r2 r3) K 0 with
                      | none => none
                      | some (.inl _) =>
                        some true
                      | some (.inr rr3) =>
                        some rr3
                    else
                      some false
                  else
                    match ModesKeep.p5 r3 with
                    | none => none
                    | some (.inl q2) =>
                      some q2
                    | some (.inr rr4) =>
                      some rr4
            | some (.inr rr5) =>
              some rr5
          else
            match ModesKeep.p6 r2 with
            | none => none
            | some (.inl q4) =>
              some q4
            | some (.inr rr6) =>
              some rr6
      | some (.inr rr7) =>
        some rr7
    else
      some false
abbrev ModesKeep.A0 (K : Nat) (w0 : World) (l0 : List SCrit) (A0 : Option Addr) (c0 : Nat) (l1 : List SCome) (A1 : Option Addr) (c1 : Nat) (l2 : List Int) (A2 : Option Addr) (c2 : Nat) (hR0 : RdL w0 A0 l0) (hL0 : l0.length ≤ c0) (hR1 : RdL w0 A1 l1) (hL1 : l1.length ≤ c1) (hR2 : RdL w0 A2 l2) (hL2 : l2.length ≤ c2) (r1 : Bool) (hc1 : r1 = true) : Unit → Act → World → Prop := fun (s : Unit) a w => St w0 w [] ∧ Frm 199 a [(0, .slice A0 l0.length c0), (1, .slice A1 l1.length c1), (2, .slice A2 l2.length c2)]
abbrev ModesKeep.B0 (K : Nat) (w0 : World) (l0 : List SCrit) (A0 : Option Addr) (c0 : Nat) (l1 : List SCome) (A1 : Option Addr) (c1 : Nat) (l2 : List Int) (A2 : Option Addr) (c2 : Nat) (hR0 : RdL w0 A0 l0) (hL0 : l0.length ≤ c0) (hR1 : RdL w0 A1 l1) (hL1 : l1.length ≤ c1) (hR2 : RdL w0 A2 l2) (hL2 : l2.length ≤ c2) (r1 : Bool) (hc1 : r1 = true) : Bool → Exit → Act → World → Prop := Rets Try.prog Try.f3 (ModesKeep.Post w0)
theorem ModesKeep_p0 (K : Nat) (w0 : World) (l0 : List SCrit) (A0 : Option Addr) (c0 : Nat) (l1 : List SCome) (A1 : Option Addr) (c1 : Nat) (l2 : List Int) (A2 : Option Addr) (c2 : Nat) (hR0 : RdL w0 A0 l0) (hL0 : l0.length ≤ c0) (hR1 : RdL w0 A1 l1) (hL1 : l1.length ≤ c1) (hR2 : RdL w0 A2 l2) (hL2 : l2.length ≤ c2) (r1 : Bool) (hc1 : r1 = true) (o : Unit ⊕ Bool) (h : ModesKeep.p0 l0 l1 = some o) (w : World) (hS : St w0 w []) (Q : Exit → Act → World → Prop) (hQ : ∀ x a w, Outs (ModesKeep.A0 K w0 l0 A0 c0 l1 A1 c1 l2 A2 c2 hR0 hL0 hR1 hL1 hR2 hL2 r1 hc1) (ModesKeep.B0 K w0 l0 A0 c0 l1 A1 c1 l2 A2 c2 hR0 hL0 hR1 hL1 hR2 hL2 r1 hc1) o x a w → Q x a w) : WE Try.prog 199 (subF Try.f3 [1, 1, 0]) Q [(0, .slice A0 l0.length c0), (1, .slice A1 l1.length c1), (2, .slice A2 l2.length c2), (6, .bool false), (19, .bool r1), (20, .bool false)] w := by
  simp only [ModesKeep.p0] at h
  refine we_seq fun K5 hK5 => ?_
  refine we_region [(0, 0), (1, 0), (2, 1), (3, 0), (4, 0), (5, 0), (6, 0), (7, 0), (8, 0)] rfl ?_
  refine ge_batch [0, 1] (ans := []) (vs := [(22, .int .i64 (l0.length : Int)), (21, .slice A0 l0.length c0)]) (l := []) (by kernel_rfl) trivial ?_
  refine ge_call (d := some 23) (f := 9) (args := #[.int .i64 (l0.length : Int)]) (by kernel_rfl) (few_ok (l0.length : Int) _ _ rfl) ?_
  rintro _ w2 ⟨rfl, hS3⟩
  refine ⟨_, rfl, hS3.below, ?_⟩
  have hS4 := hS.call hS3
  refine ge_batch [3, 4] (ans := []) (vs := [(25, .bool (!(few.f (l0.length : Int)))), (24, .bool (!(few.f (l0.length : Int))))]) (l := []) (by kernel_rfl) trivial ?_
  by_cases hc2 : (few.f (l0.length : Int)) = true
  · rw [if_pos hc2] at h
    refine ge_known (t := 25) (b := !(few.f (l0.length : Int))) (c := false) (by kernel_rfl) (congrArg (fun z => !z) hc2) ?_
    refine ge_batch [5, 6, 7, 8] (ans := []) (vs := [(29, .bool (decide ((l1.length : Int) > 300))), (28, .bool (decide ((l1.length : Int) > 300))), (27, .int .i64 (l1.length : Int)), (26, .slice A1 l1.length c1)]) (l := []) (by kernel_rfl) trivial ?_
    refine ge_nil fun a hF => hK5 _ _ ?_ a hF
    by_cases hc3 : (l1.length : Int) > 300
    · rw [if_pos hc3] at h
      refine we_known (t := 29) (b := decide ((l1.length : Int) > 300)) (v := true) (by kernel_rfl) (decide_eq_true hc3) ?_
      refine we_true (by kernel_rfl) ?_
      refine we_seq fun K6 hK6 => ?_
      refine we_region [(0, 0)] rfl ?_
      refine ge_batch [0] (ans := []) (vs := [(6, .bool true)]) (l := []) (by kernel_rfl) trivial ?_
      refine ge_nil fun a hF => hK6 _ _ ?_ a hF
      obtain rfl := Option.some.inj h
      exact we_ret fun a hF => hQ _ _ _ (Outs.out nofun ⟨rfl, (post_ret (rs := [.tmp 6]) (ans := []) (vs := [.bool true]) (l := []) rfl (by kernel_rfl) trivial ⟨rfl, hS4⟩) a hF⟩)
    · rw [if_neg hc3] at h
      refine we_known (t := 29) (b := decide ((l1.length : Int) > 300)) (v := false) (by kernel_rfl) (decide_eq_false hc3) ?_
      refine we_false (by kernel_rfl) ?_
      obtain rfl := Option.some.inj h
      exact we_skip fun a hF => hQ _ _ _ (Outs.again ⟨hS4, hF.weaken ⟨by kernel_rfl, by kernel_rfl, by kernel_rfl, trivial⟩⟩)
  · rw [if_neg hc2] at h
    refine ge_known (t := 25) (b := !(few.f (l0.length : Int))) (c := true) (by kernel_rfl) (congrArg (fun z => !z) (Bool.eq_false_iff.2 hc2)) ?_
    refine ge_batch [5, 6, 7, 8] (ans := []) (vs := [(29, .bool true), (28, undef), (27, undef), (26, undef)]) (l := []) (by kernel_rfl) trivial ?_
    refine ge_nil fun a hF => hK5 _ _ ?_ a hF
    refine we_true (by kernel_rfl) ?_
    refine we_seq fun K7 hK7 => ?_
    refine we_region [(0, 0)] rfl ?_
    refine ge_batch [0] (ans := []) (vs := [(6, .bool true)]) (l := []) (by kernel_rfl) trivial ?_
    refine ge_nil fun a hF => hK7 _ _ ?_ a hF
    obtain rfl := Option.some.inj h
    exact we_ret fun a hF => hQ _ _ _ (Outs.out nofun ⟨rfl, (post_ret (rs := [.tmp 6]) (ans := []) (vs := [.bool true]) (l := []) rfl (by kernel_rfl) trivial ⟨rfl, hS4⟩) a hF⟩)
abbrev ModesKeep.A2 (K : Nat) (w0 : World) (l0 : List SCrit) (A0 : Option Addr) (c0 : Nat) (l1 : List SCome) (A1 : Option Addr) (c1 : Nat) (l2 : List Int) (A2 : Option Addr) (c2 : Nat) (hR0 : RdL w0 A0 l0) (hL0 : l0.length ≤ c0) (hR1 : RdL w0 A1 l1) (hL1 : l1.length ≤ c1) (hR2 : RdL w0 A2 l2) (hL2 : l2.length ≤ c2) (r1 : Bool) (hc1 : r1 = true) (r2 : (List Int) × (List Int) × SFault) (b1 : Nat) (hc4 : r2.2.2.Code = 0) (Z1 : Option Addr) (cz1 : Nat) (Z2 : Option Addr) (cz2 : Nat) (z1 : Int) (i1 : Nat) (hc5 : (i1 : Int) < (l1.length : Int)) (e1 : SCome) (hx2 : l1[i1]? = some e1) (b2 : Nat) : Unit → Act → World → Prop := fun (s : Unit) a w => St w0 w [Own.blk b2 (.cells #[.int .i64 e1.Task, .int .i64 e1.At] 33 (0, 0)), Own.blk b1 (.cells #[.int .i64 r2.2.2.Code, .int .i64 r2.2.2.At] 29 (0, 0)), Own.of (.slice Z1 r2.1.length cz1) 3 r2.1, Own.of (.slice Z2 r2.2.1.length cz2) 3 r2.2.1] ∧ Frm 199 a [(0, .slice A0 l0.length c0), (1, .slice A1 l1.length c1), (2, .slice A2 l2.length c2), (7, (.slice Z1 r2.1.length cz1)), (8, (.slice Z2 r2.2.1.length cz2)), (9, .pointer (some ⟨b1, 0, none⟩)), (10, .int .i64 z1), (11, .int .i64 (i1 : Int)), (12, .pointer (some ⟨b2, 0, none⟩)), (47, .slice A1 l1.length c1), (48, .int .i64 (l1.length : Int)), (49, .int .i64 (i1 : Int))]
abbrev ModesKeep.B2 (K : Nat) (w0 : World) (l0 : List SCrit) (A0 : Option Addr) (c0 : Nat) (l1 : List SCome) (A1 : Option Addr) (c1 : Nat) (l2 : List Int) (A2 : Option Addr) (c2 : Nat) (hR0 : RdL w0 A0 l0) (hL0 : l0.length ≤ c0) (hR1 : RdL w0 A1 l1) (hL1 : l1.length ≤ c1) (hR2 : RdL w0 A2 l2) (hL2 : l2.length ≤ c2) (r1 : Bool) (hc1 : r1 = true) (r2 : (List Int) × (List Int) × SFault) (b1 : Nat) (hc4 : r2.2.2.Code = 0) (Z1 : Option Addr) (cz1 : Nat) (Z2 : Option Addr) (cz2 : Nat) (z1 : Int) (i1 : Nat) (hc5 : (i1 : Int) < (l1.length : Int)) (e1 : SCome) (hx2 : l1[i1]? = some e1) (b2 : Nat) : Bool → Exit → Act → World → Prop := Rets Try.prog Try.f3 (ModesKeep.Post w0)
theorem ModesKeep_p2 (K : Nat) (w0 : World) (l0 : List SCrit) (A0 : Option Addr) (c0 : Nat) (l1 : List SCome) (A1 : Option Addr) (c1 : Nat) (l2 : List Int) (A2 : Option Addr) (c2 : Nat) (hR0 : RdL w0 A0 l0) (hL0 : l0.length ≤ c0) (hR1 : RdL w0 A1 l1) (hL1 : l1.length ≤ c1) (hR2 : RdL w0 A2 l2) (hL2 : l2.length ≤ c2) (r1 : Bool) (hc1 : r1 = true) (r2 : (List Int) × (List Int) × SFault) (b1 : Nat) (hc4 : r2.2.2.Code = 0) (Z1 : Option Addr) (cz1 : Nat) (Z2 : Option Addr) (cz2 : Nat) (z1 : Int) (i1 : Nat) (hc5 : (i1 : Int) < (l1.length : Int)) (e1 : SCome) (hx2 : l1[i1]? = some e1) (b2 : Nat) (o : Unit ⊕ Bool) (h : ModesKeep.p2 l0 e1 = some o) (w : World) (hS : St w0 w [Own.blk b2 (.cells #[.int .i64 e1.Task, .int .i64 e1.At] 33 (0, 0)), Own.blk b1 (.cells #[.int .i64 r2.2.2.Code, .int .i64 r2.2.2.At] 29 (0, 0)), Own.of (.slice Z1 r2.1.length cz1) 3 r2.1, Own.of (.slice Z2 r2.2.1.length cz2) 3 r2.2.1]) (Q : Exit → Act → World → Prop) (hQ : ∀ x a w, Outs (ModesKeep.A2 K w0 l0 A0 c0 l1 A1 c1 l2 A2 c2 hR0 hL0 hR1 hL1 hR2 hL2 r1 hc1 r2 b1 hc4 Z1 cz1 Z2 cz2 z1 i1 hc5 e1 hx2 b2) (ModesKeep.B2 K w0 l0 A0 c0 l1 A1 c1 l2 A2 c2 hR0 hL0 hR1 hL1 hR2 hL2 r1 hc1 r2 b1 hc4 Z1 cz1 Z2 cz2 z1 i1 hc5 e1 hx2 b2) o x a w → Q x a w) : WE Try.prog 199 (subF Try.f3 [1, 1, 1, 1, 1, 1, 0, 1, 0, 0, 1, 1, 0, 0, 1, 0]) Q [(0, .slice A0 l0.length c0), (1, .slice A1 l1.length c1), (2, .slice A2 l2.length c2), (7, (.slice Z1 r2.1.length cz1)), (8, (.slice Z2 r2.2.1.length cz2)), (9, .pointer (some ⟨b1, 0, none⟩)), (10, .int .i64 z1), (11, .int .i64 (i1 : Int)), (12, .pointer (some ⟨b2, 0, none⟩)), (47, .slice A1 l1.length c1), (48, .int .i64 (l1.length : Int)), (49, .int .i64 (i1 : Int)), (50, .bool true), (51, .int .i64 (i1 : Int)), (52, .pointer (some ⟨blkOf A1, offOf A1 + i1 * 2, none⟩)), (53, .agg #[.int .i64 e1.Task, .int .i64 e1.At])] w := by
  simp only [ModesKeep.p2] at h
  refine we_seq fun K19 hK19 => ?_
  refine we_region [(0, 0), (1, 0), (2, 0), (3, 0), (4, 0), (5, 0), (6, 0), (7, 0), (8, 0), (9, 0), (10, 0), (11, 0), (12, 0), (13, 0), (14, 0), (15, 0), (16, 0), (17, 0), (18, 0), (19, 0)] rfl ?_
  refine ge_batch [0, 1, 2, 3] (ans := [.val (.int .i64 e1.Task)]) (vs := [(57, .bool (decide (e1.Task < 0))), (56, .bool (decide (e1.Task < 0))), (55, .int .i64 e1.Task), (54, .pointer (some ⟨b2, 0, none⟩))]) (l := [.loaded ⟨b2, 0, none⟩ (.int .i64 e1.Task)]) (by kernel_rfl) ⟨hS.cell 0 rfl rfl, trivial⟩ ?_
  by_cases hc6 : e1.Task < 0
  · rw [if_pos hc6] at h
    refine ge_known (t := 57) (b := decide (e1.Task < 0)) (c := true) (by kernel_rfl) (decide_eq_true hc6) ?_
    refine ge_batch [4, 5, 6, 7, 8, 9, 10, 11, 12, 13, 14, 15, 16, 17, 18, 19] (ans := []) (vs := [(73, .bool true), (72, undef), (71, undef), (70, undef), (69, .bool true), (68, .bool true), (67, undef), (66, undef), (65, undef), (64, .bool true), (63, .bool true), (62, undef), (61, undef), (60, undef), (59, undef), (58, undef)]) (l := []) (by kernel_rfl) trivial ?_
    refine ge_nil fun a hF => hK19 _ _ ?_ a hF
    refine we_true (by kernel_rfl) ?_
    refine we_seq fun K20 hK20 => ?_
    refine we_region [(0, 0)] rfl ?_
    refine ge_batch [0] (ans := []) (vs := [(6, .bool true)]) (l := []) (by kernel_rfl) trivial ?_
    refine ge_nil fun a hF => hK20 _ _ ?_ a hF
    have hS17 := hS.takeN 0
    obtain rfl := Option.some.inj h
    exact we_ret fun a hF => hQ _ _ _ (Outs.out nofun ⟨rfl, (post_ret (rs := [.tmp 6]) (ans := []) (vs := [.bool true]) (l := []) rfl (by kernel_rfl) trivial ⟨rfl, hS17⟩) a hF⟩)
  · rw [if_neg hc6] at h
    refine ge_known (t := 57) (b := decide (e1.Task < 0)) (c := false) (by kernel_rfl) (decide_eq_false hc6) ?_
    refine ge_batch [4, 5, 6, 7, 8, 9, 10] (ans := [.val (.int .i64 e1.Task)]) (vs := [(64, .bool (decide (e1.Task ≥ (l0.length : Int)))), (63, .bool (decide (e1.Task ≥ (l0.length : Int)))), (62, .bool (decide (e1.Task ≥ (l0.length : Int)))), (61, .int .i64 (l0.length : Int)), (60, .slice A0 l0.length c0), (59, .int .i64 e1.Task), (58, .pointer (some ⟨b2, 0, none⟩))]) (l := [.loaded ⟨b2, 0, none⟩ (.int .i64 e1.Task)]) (by kernel_rfl) ⟨hS.cell 0 rfl rfl, trivial⟩ ?_
    by_cases hc7 : e1.Task ≥ (l0.length : Int)
    · rw [if_pos hc7] at h
      refine ge_known (t := 64) (b := decide (e1.Task ≥ (l0.length : Int))) (c := true) (by kernel_rfl) (decide_eq_true hc7) ?_
      refine ge_batch [11, 12, 13, 14, 15, 16, 17, 18, 19] (ans := []) (vs := [(73, .bool true), (72, undef), (71, undef), (70, undef), (69, .bool true), (68, .bool true), (67, undef), (66, undef), (65, undef)]) (l := []) (by kernel_rfl) trivial ?_
      refine ge_nil fun a hF => hK19 _ _ ?_ a hF
      refine we_true (by kernel_rfl) ?_
      refine we_seq fun K21 hK21 => ?_
      refine we_region [(0, 0)] rfl ?_
      refine ge_batch [0] (ans := []) (vs := [(6, .bool true)]) (l := []) (by kernel_rfl) trivial ?_
      refine ge_nil fun a hF => hK21 _ _ ?_ a hF
      have hS18 := hS.takeN 0
      obtain rfl := Option.some.inj h
      exact we_ret fun a hF => hQ _ _ _ (Outs.out nofun ⟨rfl, (post_ret (rs := [.tmp 6]) (ans := []) (vs := [.bool true]) (l := []) rfl (by kernel_rfl) trivial ⟨rfl, hS18⟩) a hF⟩)
    · rw [if_neg hc7] at h
      refine ge_known (t := 64) (b := decide (e1.Task ≥ (l0.length : Int))) (c := false) (by kernel_rfl) (decide_eq_false hc7) ?_
      refine ge_batch [11, 12, 13, 14, 15] (ans := [.val (.int .i64 e1.At)]) (vs := [(69, .bool (decide (e1.At < 0))), (68, .bool (decide (e1.At < 0))), (67, .bool (decide (e1.At < 0))), (66, .int .i64 e1.At), (65, .pointer (some ⟨b2, 1, none⟩))]) (l := [.loaded ⟨b2, 1, none⟩ (.int .i64 e1.At)]) (by kernel_rfl) ⟨hS.cell 0 rfl rfl, trivial⟩ ?_
      by_cases hc8 : e1.At < 0
      · rw [if_pos hc8] at h
        refine ge_known (t := 69) (b := decide (e1.At < 0)) (c := true) (by kernel_rfl) (decide_eq_true hc8) ?_
        refine ge_batch [16, 17, 18, 19] (ans := []) (vs := [(73, .bool true), (72, undef), (71, undef), (70, undef)]) (l := []) (by kernel_rfl) trivial ?_
        refine ge_nil fun a hF => hK19 _ _ ?_ a hF
        refine we_true (by kernel_rfl) ?_
        refine we_seq fun K22 hK22 => ?_
        refine we_region [(0, 0)] rfl ?_
        refine ge_batch [0] (ans := []) (vs := [(6, .bool true)]) (l := []) (by kernel_rfl) trivial ?_
        refine ge_nil fun a hF => hK22 _ _ ?_ a hF
        have hS19 := hS.takeN 0
        obtain rfl := Option.some.inj h
        exact we_ret fun a hF => hQ _ _ _ (Outs.out nofun ⟨rfl, (post_ret (rs := [.tmp 6]) (ans := []) (vs := [.bool true]) (l := []) rfl (by kernel_rfl) trivial ⟨rfl, hS19⟩) a hF⟩)
      · rw [if_neg hc8] at h
        refine ge_known (t := 69) (b := decide (e1.At < 0)) (c := false) (by kernel_rfl) (decide_eq_false hc8) ?_
        refine ge_batch [16, 17, 18, 19] (ans := [.val (.int .i64 e1.At)]) (vs := [(73, .bool (decide (e1.At > 2000))), (72, .bool (decide (e1.At > 2000))), (71, .int .i64 e1.At), (70, .pointer (some ⟨b2, 1, none⟩))]) (l := [.loaded ⟨b2, 1, none⟩ (.int .i64 e1.At)]) (by kernel_rfl) ⟨hS.cell 0 rfl rfl, trivial⟩ ?_
        refine ge_nil fun a hF => hK19 _ _ ?_ a hF
        by_cases hc9 : e1.At > 2000
        · rw [if_pos hc9] at h
          refine we_known (t := 73) (b := decide (e1.At > 2000)) (v := true) (by kernel_rfl) (decide_eq_true hc9) ?_
          refine we_true (by kernel_rfl) ?_
          refine we_seq fun K23 hK23 => ?_
          refine we_region [(0, 0)] rfl ?_
          refine ge_batch [0] (ans := []) (vs := [(6, .bool true)]) (l := []) (by kernel_rfl) trivial ?_
          refine ge_nil fun a hF => hK23 _ _ ?_ a hF
          have hS20 := hS.takeN 0
          obtain rfl := Option.some.inj h
          exact we_ret fun a hF => hQ _ _ _ (Outs.out nofun ⟨rfl, (post_ret (rs := [.tmp 6]) (ans := []) (vs := [.bool true]) (l := []) rfl (by kernel_rfl) trivial ⟨rfl, hS20⟩) a hF⟩)
        · rw [if_neg hc9] at h
          refine we_known (t := 73) (b := decide (e1.At > 2000)) (v := false) (by kernel_rfl) (decide_eq_false hc9) ?_
          refine we_false (by kernel_rfl) ?_
          have hS21 := hS.bring 3 rfl
          have hS22 := hS21.bring 3 rfl
          have hS23 := hS22.bring 3 rfl
          have hS24 := hS23.bring 3 rfl
          obtain rfl := Option.some.inj h
          exact we_skip fun a hF => hQ _ _ _ (Outs.again ⟨hS24, hF.weaken ⟨by kernel_rfl, by kernel_rfl, by kernel_rfl, by kernel_rfl, by kernel_rfl, by kernel_rfl, by kernel_rfl, by kernel_rfl, by kernel_rfl, by kernel_rfl, by kernel_rfl, by kernel_rfl, trivial⟩⟩)
abbrev ModesKeep.A3 (K : Nat) (w0 : World) (l0 : List SCrit) (A0 : Option Addr) (c0 : Nat) (l1 : List SCome) (A1 : Option Addr) (c1 : Nat) (l2 : List Int) (A2 : Option Addr) (c2 : Nat) (hR0 : RdL w0 A0 l0) (hL0 : l0.length ≤ c0) (hR1 : RdL w0 A1 l1) (hL1 : l1.length ≤ c1) (hR2 : RdL w0 A2 l2) (hL2 : l2.length ≤ c2) (r1 : Bool) (hc1 : r1 = true) (r2 : (List Int) × (List Int) × SFault) (b1 : Nat) (hc4 : r2.2.2.Code = 0) (Z1 : Option Addr) (cz1 : Nat) (Z2 : Option Addr) (cz2 : Nat) (z1 : Int) (i1 : Nat) (hc5 : (i1 : Int) < (l1.length : Int)) (e1 : SCome) (hx2 : l1[i1]? = some e1) (b2 : Nat) (hc10 : i1 ≤ l1.length) : Nat → Act → World → Prop := fun (s : Nat) a w => St w0 w [Own.blk b2 (.cells #[.int .i64 e1.Task, .int .i64 e1.At] 33 (0, 0)), Own.blk b1 (.cells #[.int .i64 r2.2.2.Code, .int .i64 r2.2.2.At] 29 (0, 0)), Own.of (.slice Z1 r2.1.length cz1) 3 r2.1, Own.of (.slice Z2 r2.2.1.length cz2) 3 r2.2.1] ∧ Frm 199 a [(0, .slice A0 l0.length c0), (1, .slice A1 l1.length c1), (2, .slice A2 l2.length c2), (7, (.slice Z1 r2.1.length cz1)), (8, (.slice Z2 r2.2.1.length cz2)), (9, .pointer (some ⟨b1, 0, none⟩)), (10, .int .i64 z1), (12, .pointer (some ⟨b2, 0, none⟩)), (47, .slice A1 l1.length c1), (48, .int .i64 (l1.length : Int)), (49, .int .i64 (i1 : Int)), (76, .slice (subA A1 c1 0 2) (((l1.take i1).drop 0).length) (c1 - 0)), (77, .int .i64 (((l1.take i1).drop 0).length : Int)), (78, .int .i64 (s : Int))]
abbrev ModesKeep.B3 (K : Nat) (w0 : World) (l0 : List SCrit) (A0 : Option Addr) (c0 : Nat) (l1 : List SCome) (A1 : Option Addr) (c1 : Nat) (l2 : List Int) (A2 : Option Addr) (c2 : Nat) (hR0 : RdL w0 A0 l0) (hL0 : l0.length ≤ c0) (hR1 : RdL w0 A1 l1) (hL1 : l1.length ≤ c1) (hR2 : RdL w0 A2 l2) (hL2 : l2.length ≤ c2) (r1 : Bool) (hc1 : r1 = true) (r2 : (List Int) × (List Int) × SFault) (b1 : Nat) (hc4 : r2.2.2.Code = 0) (Z1 : Option Addr) (cz1 : Nat) (Z2 : Option Addr) (cz2 : Nat) (z1 : Int) (i1 : Nat) (hc5 : (i1 : Int) < (l1.length : Int)) (e1 : SCome) (hx2 : l1[i1]? = some e1) (b2 : Nat) (hc10 : i1 ≤ l1.length) : (Unit ⊕ Bool) → Exit → Act → World → Prop := Exits 2 (fun (s : Unit) a w => St w0 w [Own.blk b2 (.cells #[.int .i64 e1.Task, .int .i64 e1.At] 33 (0, 0)), Own.blk b1 (.cells #[.int .i64 r2.2.2.Code, .int .i64 r2.2.2.At] 29 (0, 0)), Own.of (.slice Z1 r2.1.length cz1) 3 r2.1, Own.of (.slice Z2 r2.2.1.length cz2) 3 r2.2.1] ∧ Frm 199 a [(0, .slice A0 l0.length c0), (1, .slice A1 l1.length c1), (2, .slice A2 l2.length c2), (7, (.slice Z1 r2.1.length cz1)), (8, (.slice Z2 r2.2.1.length cz2)), (9, .pointer (some ⟨b1, 0, none⟩)), (10, .int .i64 z1), (12, .pointer (some ⟨b2, 0, none⟩)), (47, .slice A1 l1.length c1), (48, .int .i64 (l1.length : Int)), (49, .int .i64 (i1 : Int))]) (Rets Try.prog Try.f3 (ModesKeep.Post w0))
theorem ModesKeep_r3 (K : Nat) (w0 : World) (l0 : List SCrit) (A0 : Option Addr) (c0 : Nat) (l1 : List SCome) (A1 : Option Addr) (c1 : Nat) (l2 : List Int) (A2 : Option Addr) (c2 : Nat) (hR0 : RdL w0 A0 l0) (hL0 : l0.length ≤ c0) (hR1 : RdL w0 A1 l1) (hL1 : l1.length ≤ c1) (hR2 : RdL w0 A2 l2) (hL2 : l2.length ≤ c2) (r1 : Bool) (hc1 : r1 = true) (r2 : (List Int) × (List Int) × SFault) (b1 : Nat) (hc4 : r2.2.2.Code = 0) (Z1 : Option Addr) (cz1 : Nat) (Z2 : Option Addr) (cz2 : Nat) (z1 : Int) (i1 : Nat) (hc5 : (i1 : Int) < (l1.length : Int)) (e1 : SCome) (hx2 : l1[i1]? = some e1) (b2 : Nat) (hc10 : i1 ≤ l1.length) (s : Nat) (o : Nat ⊕ (Unit ⊕ Bool)) (h : ModesKeep.r3 l0 l1 i1 e1 s = some o) (a : Act) (w : World) (hA : ModesKeep.A3 K w0 l0 A0 c0 l1 A1 c1 l2 A2 c2 hR0 hL0 hR1 hL1 hR2 hL2 r1 hc1 r2 b1 hc4 Z1 cz1 Z2 cz2 z1 i1 hc5 e1 hx2 b2 hc10 s a w) (Q : Exit → Act → World → Prop) (hQ : ∀ x a w, Outs (ModesKeep.A3 K w0 l0 A0 c0 l1 A1 c1 l2 A2 c2 hR0 hL0 hR1 hL1 hR2 hL2 r1 hc1 r2 b1 hc4 Z1 cz1 Z2 cz2 z1 i1 hc5 e1 hx2 b2 hc10) (ModesKeep.B3 K w0 l0 A0 c0 l1 A1 c1 l2 A2 c2 hR0 hL0 hR1 hL1 hR2 hL2 r1 hc1 r2 b1 hc4 Z1 cz1 Z2 cz2 z1 i1 hc5 e1 hx2 b2 hc10) o x a w → Q x a w) : (subF Try.f3 [1, 1, 1, 1, 1, 1, 0, 1, 0, 0, 1, 1, 0, 0, 1, 1, 0, 1, 0, 0]).wp Try.prog Q a w := by
  obtain ⟨i2, hs⟩ : ∃ z, z = s := ⟨s, rfl⟩
  subst hs
  obtain ⟨hS, hF⟩ := hA
  replace hS : St w0 w [Own.blk b2 (.cells #[.int .i64 e1.Task, .int .i64 e1.At] 33 (0, 0)), Own.blk b1 (.cells #[.int .i64 r2.2.2.Code, .int .i64 r2.2.2.At] 29 (0, 0)), Own.of (.slice Z1 r2.1.length cz1) 3 r2.1, Own.of (.slice Z2 r2.2.1.length cz2) 3 r2.2.1] := hS
  simp only [ModesKeep.r3] at h
  refine (?_ : WE Try.prog 199 (subF Try.f3 [1, 1, 1, 1, 1, 1, 0, 1, 0, 0, 1, 1, 0, 0, 1, 1, 0, 1, 0, 0]) Q [(0, .slice A0 l0.length c0), (1, .slice A1 l1.length c1), (2, .slice A2 l2.length c2), (7, (.slice Z1 r2.1.length cz1)), (8, (.slice Z2 r2.2.1.length cz2)), (9, .pointer (some ⟨b1, 0, none⟩)), (10, .int .i64 z1), (12, .pointer (some ⟨b2, 0, none⟩)), (47, .slice A1 l1.length c1), (48, .int .i64 (l1.length : Int)), (49, .int .i64 (i1 : Int)), (76, .slice (subA A1 c1 0 2) (((l1.take i1).drop 0).length) (c1 - 0)), (77, .int .i64 (((l1.take i1).drop 0).length : Int)), (78, .int .i64 (i2 : Int))] w) a hF
  clear hF a
  refine we_seq fun K26 hK26 => ?_
  refine we_region [(0, 0)] rfl ?_
  refine ge_batch [0] (ans := []) (vs := [(79, .bool (decide ((i2 : Int) < (((l1.take i1).drop 0).length : Int))))]) (l := []) (by kernel_rfl) trivial ?_
  refine ge_nil fun a hF => hK26 _ _ ?_ a hF
  refine we_seq fun K27 hK27 => ?_
  by_cases hc11 : (i2 : Int) < (((l1.take i1).drop 0).length : Int)
  · rw [if_pos hc11] at h
    refine we_known (t := 79) (b := decide ((i2 : Int) < (((l1.take i1).drop 0).length : Int))) (v := true) (by kernel_rfl) (decide_eq_true hc11) ?_
    refine we_true (by kernel_rfl) ?_
    refine we_skip fun a hF => hK27 _ _ ?_ a hF
    refine we_seq fun K28 hK28 => ?_
    refine we_block ?_
    refine we_seq fun K29 hK29 => ?_
    refine we_region [(0, 0), (1, 0), (2, 1), (3, 2)] rfl ?_
    rcases hx4 : ((l1.take i1).drop 0)[i2]? with _ | e2
    · rw [hx4] at h; cases h
    rw [hx4] at h
    simp only [] at h
    refine ge_index (d := 80) (ty := 0) (t := 23) (el := 33) (sz := 2) (m := ((l1.take i1).drop 0).length) (c := (c1 - 0)) (x := (.tmp 76)) (y := (.tmp 78)) (A := (subA A1 c1 0 2)) (k' := .i64) (j := (i2 : Int)) (jn := i2) (b0 := blkOf (subA A1 c1 0 2)) (o0 := offOf (subA A1 c1 0 2)) (by kernel_rfl) (by kernel_rfl) (by kernel_rfl) (by kernel_rfl) (by kernel_rfl) ((hS.rd (RdL.part hR1 hL1 0 i1)).eqSome (pos_of_get hx4)) rfl (lt_of_get hx4) ?_
    refine ge_batch [1] (ans := [.val (.int .i64 e2.Task), .val (.int .i64 e2.At)]) (vs := [(81, .agg #[.int .i64 e2.Task, .int .i64 e2.At])]) (l := [.loaded ⟨blkOf (subA A1 c1 0 2), offOf (subA A1 c1 0 2) + i2 * 2, none⟩ (.int .i64 e2.Task), .loaded ⟨blkOf (subA A1 c1 0 2), offOf (subA A1 c1 0 2) + i2 * 2 + 1, none⟩ (.int .i64 e2.At)]) (by kernel_rfl) ⟨RdL.cell (j := 0) (hS.rd (RdL.part hR1 hL1 0 i1)) hx4 rfl, RdL.cell (j := 1) (hS.rd (RdL.part hR1 hL1 0 i1)) hx4 rfl, trivial⟩ ?_
    refine ge_new (d := some 14) (o := .cells #[.int .i64 0, .int .i64 0] 33) (v := fun b => .pointer (some ⟨b, 0, none⟩)) hS (fun b => by kernel_rfl) fun b3 w10 hx5 hS30 => ?_
    refine ge_set (b := b3) (j := 0) (cs := #[.int .i64 0, .int .i64 0]) (t := 33) (vs := [.int .i64 e2.Task, .int .i64 e2.At]) hS30 (by kernel_rfl) rfl rfl fun w11 hS31 => ?_
    have hS32 : St w0 w11 [Own.blk b3 (.cells #[.int .i64 e2.Task, .int .i64 e2.At] 33 (0, 0)), Own.blk b2 (.cells #[.int .i64 e1.Task, .int .i64 e1.At] 33 (0, 0)), Own.blk b1 (.cells #[.int .i64 r2.2.2.Code, .int .i64 r2.2.2.At] 29 (0, 0)), Own.of (.slice Z1 r2.1.length cz1) 3 r2.1, Own.of (.slice Z2 r2.2.1.length cz2) 3 r2.2.1] := hS31
    refine ge_nil fun a hF => hK29 _ _ ?_ a hF
    refine we_seq fun K30 hK30 => ?_
    refine we_draws (by kernel_rfl) [(0, 0), (1, 0), (2, 0), (3, 0), (4, 0), (5, 0), (6, 0), (7, 0), (8, 0), (9, 0), (10, 0), (11, 0), (12, 0), (13, 0), (14, 0), (15, 0), (16, 0), (17, 0), (18, 0)] (by kernel_rfl) ?_
    have hS33 := hS32.drew
    refine ge_batch [0, 1, 2, 3, 4, 5] (ans := [.val (.int .i64 e2.Task), .val (.int .i64 e1.Task)]) (vs := [(87, .bool (e2.Task == e1.Task)), (86, .bool (e2.Task == e1.Task)), (85, .int .i64 e1.Task), (84, .pointer (some ⟨b2, 0, none⟩)), (83, .int .i64 e2.Task), (82, .pointer (some ⟨b3, 0, none⟩))]) (l := [.loaded ⟨b3, 0, none⟩ (.int .i64 e2.Task), .loaded ⟨b2, 0, none⟩ (.int .i64 e1.Task)]) (by kernel_rfl) ⟨hS33.cell 0 rfl rfl, hS33.cell 1 rfl rfl, trivial⟩ ?_
    by_cases hc12 : e2.Task = e1.Task
    · rw [if_pos hc12] at h
      refine ge_known (t := 87) (b := (e2.Task == e1.Task)) (c := true) (by kernel_rfl) (beq_iff_eq.2 hc12) ?_
      refine ge_batch [6, 7, 8, 9, 10, 11, 12, 13] (ans := [.val (.int .i64 e1.At), .val (.int .i64 e2.At), .val (.int .i64 e1.Task)]) (vs := [(95, .int .i64 e1.Task), (94, .pointer (some ⟨b2, 0, none⟩)), (93, .slice A0 l0.length c0), (92, .int .i64 (IntKind.i64.wrap (e1.At - e2.At))), (91, .int .i64 e2.At), (90, .pointer (some ⟨b3, 1, none⟩)), (89, .int .i64 e1.At), (88, .pointer (some ⟨b2, 1, none⟩))]) (l := [.loaded ⟨b2, 1, none⟩ (.int .i64 e1.At), .loaded ⟨b3, 1, none⟩ (.int .i64 e2.At), .loaded ⟨b2, 0, none⟩ (.int .i64 e1.Task)]) (by kernel_rfl) ⟨hS33.cell 1 rfl rfl, hS33.cell 0 rfl rfl, hS33.cell 1 rfl rfl, trivial⟩ ?_
      by_cases hc13 : 0 ≤ e1.Task
      · rw [if_pos hc13] at h
        rcases hx6 : l0[(e1.Task).toNat]? with _ | e3
        · rw [hx6] at h; cases h
        rw [hx6] at h
        simp only [] at h
        refine ge_index (d := 96) (ty := 0) (t := 22) (el := 35) (sz := 6) (m := l0.length) (c := c0) (x := (.tmp 93)) (y := (.tmp 95)) (A := A0) (k' := .i64) (j := e1.Task) (jn := ((e1.Task).toNat)) (b0 := blkOf A0) (o0 := offOf A0) (by kernel_rfl) (by kernel_rfl) (by kernel_rfl) (by kernel_rfl) (by kernel_rfl) ((hS33.rd hR0).eqSome (pos_of_get hx6)) (Int.toNat_of_nonneg hc13).symm (lt_of_get hx6) ?_
        refine ge_batch [15, 16, 17, 18] (ans := [.val (.int .i64 e3.T)]) (vs := [(100, .bool (decide ((IntKind.i64.wrap (e1.At - e2.At)) < e3.T))), (99, .bool (decide ((IntKind.i64.wrap (e1.At - e2.At)) < e3.T))), (98, .int .i64 e3.T), (97, .pointer (some ⟨blkOf A0, offOf A0 + (e1.Task).toNat * 6 + 2, none⟩))]) (l := [.loaded ⟨blkOf A0, offOf A0 + ((e1.Task).toNat) * 6 + 2, none⟩ (.int .i64 e3.T)]) (by kernel_rfl) ⟨RdL.cell (j := 2) (hS33.rd hR0) hx6 rfl, trivial⟩ ?_
        refine ge_nil fun a hF => hK30 _ _ ?_ a hF
        by_cases hc14 : (IntKind.i64.wrap (e1.At - e2.At)) < e3.T
        · rw [if_pos hc14] at h
          refine we_known (t := 100) (b := decide ((IntKind.i64.wrap (e1.At - e2.At)) < e3.T)) (v := true) (by kernel_rfl) (decide_eq_true hc14) ?_
          refine we_true (by kernel_rfl) ?_
          refine we_seq fun K31 hK31 => ?_
          refine we_region [(0, 0)] rfl ?_
          refine ge_batch [0] (ans := []) (vs := [(6, .bool true)]) (l := []) (by kernel_rfl) trivial ?_
          refine ge_nil fun a hF => hK31 _ _ ?_ a hF
          have hS34 := hS33.takeN 0
          obtain rfl := Option.some.inj h
          exact we_ret fun a hF => hQ _ _ _ (Outs.out nofun (Exits.on ⟨rfl, (post_ret (rs := [.tmp 6]) (ans := []) (vs := [.bool true]) (l := []) rfl (by kernel_rfl) trivial ⟨rfl, hS34⟩) a hF⟩))
        · rw [if_neg hc14] at h
          refine we_known (t := 100) (b := decide ((IntKind.i64.wrap (e1.At - e2.At)) < e3.T)) (v := false) (by kernel_rfl) (decide_eq_false hc14) ?_
          refine we_false (by kernel_rfl) ?_
          refine we_skip fun a hF => hK28 _ _ ?_ a hF
          refine we_region [(0, 0), (1, 0)] rfl ?_
          refine ge_addn (d := 101) (ty := 3) (x := (.tmp 78)) (y := (.const (.int .i64 1))) (t := 3) (t2 := 3) (k := .i64) (m := i2) (by kernel_rfl) (by kernel_rfl) (by kernel_rfl) (by have h0 := hR1.small; have h1 : ((l1.take i1).drop 0).length ≤ l1.length := (by simp only [List.length_drop, List.length_take]; omega); omega) ?_
          refine ge_batch [1] (ans := []) (vs := [(78, .int .i64 ((i2 + 1 : Nat) : Int))]) (l := []) (by kernel_rfl) trivial ?_
          have hS35 := hS33.bring 4 rfl
          have hS36 := hS35.bring 4 rfl
          have hS37 := hS36.bring 4 rfl
          have hS38 := hS37.bring 4 rfl
          have hS39 := hS38.takeN 4
          obtain rfl := Option.some.inj h
          exact ge_nil fun a hF => hQ _ _ _ (Outs.again ⟨hS39, hF.weaken ⟨by kernel_rfl, by kernel_rfl, by kernel_rfl, by kernel_rfl, by kernel_rfl, by kernel_rfl, by kernel_rfl, by kernel_rfl, by kernel_rfl, by kernel_rfl, by kernel_rfl, by kernel_rfl, by kernel_rfl, by kernel_rfl, trivial⟩⟩)
      · rw [if_neg hc13] at h
        cases h
    · rw [if_neg hc12] at h
      refine ge_known (t := 87) (b := (e2.Task == e1.Task)) (c := false) (by kernel_rfl) (beq_eq_false_iff_ne.2 hc12) ?_
      refine ge_batch [6, 7, 8, 9, 10, 11, 12, 13, 14, 15, 16, 17, 18] (ans := []) (vs := [(100, .bool false), (99, undef), (98, undef), (97, undef), (96, undef), (95, undef), (94, undef), (93, undef), (92, undef), (91, undef), (90, undef), (89, undef), (88, undef)]) (l := []) (by kernel_rfl) trivial ?_
      refine ge_nil fun a hF => hK30 _ _ ?_ a hF
      refine we_false (by kernel_rfl) ?_
      refine we_skip fun a hF => hK28 _ _ ?_ a hF
      refine we_region [(0, 0), (1, 0)] rfl ?_
      refine ge_addn (d := 101) (ty := 3) (x := (.tmp 78)) (y := (.const (.int .i64 1))) (t := 3) (t2 := 3) (k := .i64) (m := i2) (by kernel_rfl) (by kernel_rfl) (by kernel_rfl) (by have h0 := hR1.small; have h1 : ((l1.take i1).drop 0).length ≤ l1.length := (by simp only [List.length_drop, List.length_take]; omega); omega) ?_
      refine ge_batch [1] (ans := []) (vs := [(78, .int .i64 ((i2 + 1 : Nat) : Int))]) (l := []) (by kernel_rfl) trivial ?_
      have hS40 := hS33.bring 4 rfl
      have hS41 := hS40.bring 4 rfl
      have hS42 := hS41.bring 4 rfl
      have hS43 := hS42.bring 4 rfl
      have hS44 := hS43.takeN 4
      obtain rfl := Option.some.inj h
      exact ge_nil fun a hF => hQ _ _ _ (Outs.again ⟨hS44, hF.weaken ⟨by kernel_rfl, by kernel_rfl, by kernel_rfl, by kernel_rfl, by kernel_rfl, by kernel_rfl, by kernel_rfl, by kernel_rfl, by kernel_rfl, by kernel_rfl, by kernel_rfl, by kernel_rfl, by kernel_rfl, by kernel_rfl, trivial⟩⟩)
  · rw [if_neg hc11] at h
    refine we_known (t := 79) (b := decide ((i2 : Int) < (((l1.take i1).drop 0).length : Int))) (v := false) (by kernel_rfl) (decide_eq_false hc11) ?_
    refine we_false (by kernel_rfl) ?_
    have hS45 := hS.bring 3 rfl
    have hS46 := hS45.bring 3 rfl
    have hS47 := hS46.bring 3 rfl
    have hS48 := hS47.bring 3 rfl
    obtain rfl := Option.some.inj h
    exact we_exit fun a hF => hQ _ _ _ (Outs.out nofun (Exits.here ⟨hS48, hF.weaken ⟨by kernel_rfl, by kernel_rfl, by kernel_rfl, by kernel_rfl, by kernel_rfl, by kernel_rfl, by kernel_rfl, by kernel_rfl, by kernel_rfl, by kernel_rfl, by kernel_rfl, trivial⟩⟩))
abbrev ModesKeep.A1 (K : Nat) (w0 : World) (l0 : List SCrit) (A0 : Option Addr) (c0 : Nat) (l1 : List SCome) (A1 : Option Addr) (c1 : Nat) (l2 : List Int) (A2 : Option Addr) (c2 : Nat) (hR0 : RdL w0 A0 l0) (hL0 : l0.length ≤ c0) (hR1 : RdL w0 A1 l1) (hL1 : l1.length ≤ c1) (hR2 : RdL w0 A2 l2) (hL2 : l2.length ≤ c2) (r1 : Bool) (hc1 : r1 = true) (r2 : (List Int) × (List Int) × SFault) (b1 : Nat) (hc4 : r2.2.2.Code = 0) (Z1 : Option Addr) (cz1 : Nat) (Z2 : Option Addr) (cz2 : Nat) : (Int × Nat) → Act → World → Prop := fun (s : Int × Nat) a w => St w0 w [Own.blk b1 (.cells #[.int .i64 r2.2.2.Code, .int .i64 r2.2.2.At] 29 (0, 0)), Own.of (.slice Z1 r2.1.length cz1) 3 r2.1, Own.of (.slice Z2 r2.2.1.length cz2) 3 r2.2.1] ∧ Frm 199 a [(0, .slice A0 l0.length c0), (1, .slice A1 l1.length c1), (2, .slice A2 l2.length c2), (7, (.slice Z1 r2.1.length cz1)), (8, (.slice Z2 r2.2.1.length cz2)), (9, .pointer (some ⟨b1, 0, none⟩)), (10, .int .i64 s.1), (47, .slice A1 l1.length c1), (48, .int .i64 (l1.length : Int)), (49, .int .i64 (s.2 : Int))]
abbrev ModesKeep.B1 (K : Nat) (w0 : World) (l0 : List SCrit) (A0 : Option Addr) (c0 : Nat) (l1 : List SCome) (A1 : Option Addr) (c1 : Nat) (l2 : List Int) (A2 : Option Addr) (c2 : Nat) (hR0 : RdL w0 A0 l0) (hL0 : l0.length ≤ c0) (hR1 : RdL w0 A1 l1) (hL1 : l1.length ≤ c1) (hR2 : RdL w0 A2 l2) (hL2 : l2.length ≤ c2) (r1 : Bool) (hc1 : r1 = true) (r2 : (List Int) × (List Int) × SFault) (b1 : Nat) (hc4 : r2.2.2.Code = 0) (Z1 : Option Addr) (cz1 : Nat) (Z2 : Option Addr) (cz2 : Nat) : (Int ⊕ Bool) → Exit → Act → World → Prop := Exits 0 (fun (s : Int) a w => St w0 w [Own.blk b1 (.cells #[.int .i64 r2.2.2.Code, .int .i64 r2.2.2.At] 29 (0, 0)), Own.of (.slice Z1 r2.1.length cz1) 3 r2.1, Own.of (.slice Z2 r2.2.1.length cz2) 3 r2.2.1] ∧ Frm 199 a [(0, .slice A0 l0.length c0), (1, .slice A1 l1.length c1), (2, .slice A2 l2.length c2), (7, (.slice Z1 r2.1.length cz1)), (8, (.slice Z2 r2.2.1.length cz2)), (9, .pointer (some ⟨b1, 0, none⟩)), (10, .int .i64 s)]) (Rets Try.prog Try.f3 (ModesKeep.Post w0))
theorem ModesKeep_r1 (K : Nat) (w0 : World) (l0 : List SCrit) (A0 : Option Addr) (c0 : Nat) (l1 : List SCome) (A1 : Option Addr) (c1 : Nat) (l2 : List Int) (A2 : Option Addr) (c2 : Nat) (hR0 : RdL w0 A0 l0) (hL0 : l0.length ≤ c0) (hR1 : RdL w0 A1 l1) (hL1 : l1.length ≤ c1) (hR2 : RdL w0 A2 l2) (hL2 : l2.length ≤ c2) (r1 : Bool) (hc1 : r1 = true) (r2 : (List Int) × (List Int) × SFault) (b1 : Nat) (hc4 : r2.2.2.Code = 0) (Z1 : Option Addr) (cz1 : Nat) (Z2 : Option Addr) (cz2 : Nat) (s : Int × Nat) (o : (Int × Nat) ⊕ (Int ⊕ Bool)) (h : ModesKeep.r1 K l0 l1 s = some o) (a : Act) (w : World) (hA : ModesKeep.A1 K w0 l0 A0 c0 l1 A1 c1 l2 A2 c2 hR0 hL0 hR1 hL1 hR2 hL2 r1 hc1 r2 b1 hc4 Z1 cz1 Z2 cz2 s a w) (Q : Exit → Act → World → Prop) (hQ : ∀ x a w, Outs (ModesKeep.A1 K w0 l0 A0 c0 l1 A1 c1 l2 A2 c2 hR0 hL0 hR1 hL1 hR2 hL2 r1 hc1 r2 b1 hc4 Z1 cz1 Z2 cz2) (ModesKeep.B1 K w0 l0 A0 c0 l1 A1 c1 l2 A2 c2 hR0 hL0 hR1 hL1 hR2 hL2 r1 hc1 r2 b1 hc4 Z1 cz1 Z2 cz2) o x a w → Q x a w) : (subF Try.f3 [1, 1, 1, 1, 1, 1, 0, 1, 0, 0]).wp Try.prog Q a w := by
  obtain ⟨z1, i1⟩ := s
  obtain ⟨hS, hF⟩ := hA
  replace hS : St w0 w [Own.blk b1 (.cells #[.int .i64 r2.2.2.Code, .int .i64 r2.2.2.At] 29 (0, 0)), Own.of (.slice Z1 r2.1.length cz1) 3 r2.1, Own.of (.slice Z2 r2.2.1.length cz2) 3 r2.2.1] := hS
  simp only [ModesKeep.r1] at h
  refine (?_ : WE Try.prog 199 (subF Try.f3 [1, 1, 1, 1, 1, 1, 0, 1, 0, 0]) Q [(0, .slice A0 l0.length c0), (1, .slice A1 l1.length c1), (2, .slice A2 l2.length c2), (7, (.slice Z1 r2.1.length cz1)), (8, (.slice Z2 r2.2.1.length cz2)), (9, .pointer (some ⟨b1, 0, none⟩)), (10, .int .i64 z1), (47, .slice A1 l1.length c1), (48, .int .i64 (l1.length : Int)), (49, .int .i64 (i1 : Int))] w) a hF
  clear hF a
  refine we_seq fun K14 hK14 => ?_
  refine we_region [(0, 0)] rfl ?_
  refine ge_batch [0] (ans := []) (vs := [(50, .bool (decide ((i1 : Int) < (l1.length : Int))))]) (l := []) (by kernel_rfl) trivial ?_
  refine ge_nil fun a hF => hK14 _ _ ?_ a hF
  refine we_seq fun K15 hK15 => ?_
  by_cases hc5 : (i1 : Int) < (l1.length : Int)
  · rw [if_pos hc5] at h
    refine we_known (t := 50) (b := decide ((i1 : Int) < (l1.length : Int))) (v := true) (by kernel_rfl) (decide_eq_true hc5) ?_
    refine we_true (by kernel_rfl) ?_
    refine we_skip fun a hF => hK15 _ _ ?_ a hF
    refine we_seq fun K16 hK16 => ?_
    refine we_block ?_
    refine we_seq fun K17 hK17 => ?_
    refine we_region [(0, 0), (1, 0), (2, 0), (3, 1), (4, 0), (5, 2)] rfl ?_
    refine ge_batch [0] (ans := []) (vs := [(51, .int .i64 (i1 : Int))]) (l := []) (by kernel_rfl) trivial ?_
    rcases hx2 : l1[i1]? with _ | e1
    · rw [hx2] at h; cases h
    rw [hx2] at h
    simp only [] at h
    refine ge_index (d := 52) (ty := 0) (t := 23) (el := 33) (sz := 2) (m := l1.length) (c := c1) (x := (.tmp 47)) (y := (.tmp 49)) (A := A1) (k' := .i64) (j := (i1 : Int)) (jn := i1) (b0 := blkOf A1) (o0 := offOf A1) (by kernel_rfl) (by kernel_rfl) (by kernel_rfl) (by kernel_rfl) (by kernel_rfl) ((hS.rd hR1).eqSome (pos_of_get hx2)) rfl (lt_of_get hx2) ?_
    refine ge_batch [2] (ans := [.val (.int .i64 e1.Task), .val (.int .i64 e1.At)]) (vs := [(53, .agg #[.int .i64 e1.Task, .int .i64 e1.At])]) (l := [.loaded ⟨blkOf A1, offOf A1 + i1 * 2, none⟩ (.int .i64 e1.Task), .loaded ⟨blkOf A1, offOf A1 + i1 * 2 + 1, none⟩ (.int .i64 e1.At)]) (by kernel_rfl) ⟨RdL.cell (j := 0) (hS.rd hR1) hx2 rfl, RdL.cell (j := 1) (hS.rd hR1) hx2 rfl, trivial⟩ ?_
    refine ge_new (d := some 12) (o := .cells #[.int .i64 0, .int .i64 0] 33) (v := fun b => .pointer (some ⟨b, 0, none⟩)) hS (fun b => by kernel_rfl) fun b2 w7 hx3 hS14 => ?_
    refine ge_batch [4] (ans := []) (vs := [(11, .int .i64 (i1 : Int))]) (l := []) (by kernel_rfl) trivial ?_
    refine ge_set (b := b2) (j := 0) (cs := #[.int .i64 0, .int .i64 0]) (t := 33) (vs := [.int .i64 e1.Task, .int .i64 e1.At]) hS14 (by kernel_rfl) rfl rfl fun w8 hS15 => ?_
    have hS16 : St w0 w8 [Own.blk b2 (.cells #[.int .i64 e1.Task, .int .i64 e1.At] 33 (0, 0)), Own.blk b1 (.cells #[.int .i64 r2.2.2.Code, .int .i64 r2.2.2.At] 29 (0, 0)), Own.of (.slice Z1 r2.1.length cz1) 3 r2.1, Own.of (.slice Z2 r2.2.1.length cz2) 3 r2.2.1] := hS15
    refine ge_nil fun a hF => hK17 _ _ ?_ a hF
    refine we_seq fun K18 hK18 => ?_
    rcases hq5 : ModesKeep.p2 l0 e1 with _ | (_ | rr2)
    · rw [hq5] at h; cases h
    · rw [hq5] at h
      simp only [] at h
      refine we_keep (e' := [(0, .slice A0 l0.length c0), (1, .slice A1 l1.length c1), (2, .slice A2 l2.length c2), (7, (.slice Z1 r2.1.length cz1)), (8, (.slice Z2 r2.2.1.length cz2)), (9, .pointer (some ⟨b1, 0, none⟩)), (10, .int .i64 z1), (11, .int .i64 (i1 : Int)), (12, .pointer (some ⟨b2, 0, none⟩)), (47, .slice A1 l1.length c1), (48, .int .i64 (l1.length : Int)), (49, .int .i64 (i1 : Int)), (50, .bool true), (51, .int .i64 (i1 : Int)), (52, .pointer (some ⟨blkOf A1, offOf A1 + i1 * 2, none⟩)), (53, .agg #[.int .i64 e1.Task, .int .i64 e1.At])]) ⟨by kernel_rfl, by kernel_rfl, by kernel_rfl, by kernel_rfl, by kernel_rfl, by kernel_rfl, by kernel_rfl, by kernel_rfl, by kernel_rfl, by kernel_rfl, by kernel_rfl, by kernel_rfl, by kernel_rfl, by kernel_rfl, by kernel_rfl, by kernel_rfl, trivial⟩ (ModesKeep_p2 K w0 l0 A0 c0 l1 A1 c1 l2 A2 c2 hR0 hL0 hR1 hL1 hR2 hL2 r1 hc1 r2 b1 hc4 Z1 cz1 Z2 cz2 z1 i1 hc5 e1 hx2 b2 _ hq5 _ hS16 _ ?_)
      rintro _ a w9 ⟨rfl, hS25, hF⟩
      replace hS25 : St w0 w9 [Own.blk b2 (.cells #[.int .i64 e1.Task, .int .i64 e1.At] 33 (0, 0)), Own.blk b1 (.cells #[.int .i64 r2.2.2.Code, .int .i64 r2.2.2.At] 29 (0, 0)), Own.of (.slice Z1 r2.1.length cz1) 3 r2.1, Own.of (.slice Z2 r2.2.1.length cz2) 3 r2.2.1] := hS25
      refine hK18 [(0, .slice A0 l0.length c0), (1, .slice A1 l1.length c1), (2, .slice A2 l2.length c2), (7, (.slice Z1 r2.1.length cz1)), (8, (.slice Z2 r2.2.1.length cz2)), (9, .pointer (some ⟨b1, 0, none⟩)), (10, .int .i64 z1), (11, .int .i64 (i1 : Int)), (12, .pointer (some ⟨b2, 0, none⟩)), (47, .slice A1 l1.length c1), (48, .int .i64 (l1.length : Int)), (49, .int .i64 (i1 : Int))] w9 ?_ a hF
      refine we_seq fun K24 hK24 => ?_
      refine we_seq fun K25 hK25 => ?_
      refine we_region [(0, 0), (1, 0), (2, 0), (3, 0), (4, 0)] rfl ?_
      refine ge_batch [0, 1] (ans := []) (vs := [(75, .int .i64 (i1 : Int)), (74, .slice A1 l1.length c1)]) (l := []) (by kernel_rfl) trivial ?_
      by_cases hc10 : i1 ≤ l1.length
      · rw [if_pos hc10] at h
        refine ge_part (d := 76) (ty := 23) (t := 23) (el := 33) (sz := 2) (m := l1.length) (c := c1) (lo := 0) (hi := i1) (x := (.tmp 74)) (xl := none) (xh := some (.tmp 75)) (A := A1) (by kernel_rfl) (by kernel_rfl) rfl ⟨.i64, (i1 : Int), by kernel_rfl, rfl⟩ (by kernel_rfl) (by kernel_rfl) (by have f0 := hc10; have f1 := hL1; omega) (by have f0 := hc10; have f1 := hL1; omega) ?_
        refine ge_same (t := 76) (v := .slice (subA A1 c1 0 2) (i1 - 0) (c1 - 0)) (v' := .slice (subA A1 c1 0 2) (((l1.take i1).drop 0).length) (c1 - 0)) (by kernel_rfl) (by have f0 := hc10; have f1 := hL1; rw [show i1 - 0 = ((l1.take i1).drop 0).length by simp only [List.length_drop, List.length_take]; omega]) ?_
        refine ge_batch [3, 4] (ans := []) (vs := [(78, .int .i64 0), (77, .int .i64 (((l1.take i1).drop 0).length : Int))]) (l := []) (by kernel_rfl) trivial ?_
        refine ge_nil fun a hF => hK25 _ _ ?_ a hF
        refine we_block ?_
        have hS26 := hS25.bring 3 rfl
        have hS27 := hS26.bring 3 rfl
        have hS28 := hS27.bring 3 rfl
        have hS29 := hS28.bring 3 rfl
        rcases hq6 : iter (ModesKeep.r3 l0 l1 i1 e1) K 0 with _ | (_ | rr1)
        · rw [hq6] at h; cases h
        · rw [hq6] at h
          simp only [] at h
          refine we_iter (A := ModesKeep.A3 K w0 l0 A0 c0 l1 A1 c1 l2 A2 c2 hR0 hL0 hR1 hL1 hR2 hL2 r1 hc1 r2 b1 hc4 Z1 cz1 Z2 cz2 z1 i1 hc5 e1 hx2 b2 hc10) (B := ModesKeep.B3 K w0 l0 A0 c0 l1 A1 c1 l2 A2 c2 hR0 hL0 hR1 hL1 hR2 hL2 r1 hc1 r2 b1 hc4 Z1 cz1 Z2 cz2 z1 i1 hc5 e1 hx2 b2 hc10) hq6 (fun a hF => ⟨hS29, hF.weaken ⟨by kernel_rfl, by kernel_rfl, by kernel_rfl, by kernel_rfl, by kernel_rfl, by kernel_rfl, by kernel_rfl, by kernel_rfl, by kernel_rfl, by kernel_rfl, by kernel_rfl, by kernel_rfl, by kernel_rfl, by kernel_rfl, trivial⟩⟩) (fun s o hf a w hA Q hQ => ModesKeep_r3 K w0 l0 A0 c0 l1 A1 c1 l2 A2 c2 hR0 hL0 hR1 hL1 hR2 hL2 r1 hc1 r2 b1 hc4 Z1 cz1 Z2 cz2 z1 i1 hc5 e1 hx2 b2 hc10 s o hf a w hA Q hQ) ?_
          rintro _ a w12 _ ⟨rfl, hS49, hF⟩
          replace hS49 : St w0 w12 [Own.blk b2 (.cells #[.int .i64 e1.Task, .int .i64 e1.At] 33 (0, 0)), Own.blk b1 (.cells #[.int .i64 r2.2.2.Code, .int .i64 r2.2.2.At] 29 (0, 0)), Own.of (.slice Z1 r2.1.length cz1) 3 r2.1, Own.of (.slice Z2 r2.2.1.length cz2) 3 r2.2.1] := hS49
          refine hK24 [(0, .slice A0 l0.length c0), (1, .slice A1 l1.length c1), (2, .slice A2 l2.length c2), (7, (.slice Z1 r2.1.length cz1)), (8, (.slice Z2 r2.2.1.length cz2)), (9, .pointer (some ⟨b1, 0, none⟩)), (10, .int .i64 z1), (12, .pointer (some ⟨b2, 0, none⟩)), (47, .slice A1 l1.length c1), (48, .int .i64 (l1.length : Int)), (49, .int .i64 (i1 : Int))] w12 ?_ a hF
          refine we_draws (by kernel_rfl) [(0, 0), (1, 0), (2, 0), (3, 0), (4, 0), (5, 0), (6, 0), (7, 0), (8, 0), (9, 0), (10, 0), (11, 0)] (by kernel_rfl) ?_
          have hS50 := hS49.drew
          refine ge_batch [0, 1, 2, 3, 4, 5] (ans := [.val (.int .i64 e1.At), .val (.int .i64 e1.Task)]) (vs := [(107, .int .i64 e1.Task), (106, .pointer (some ⟨b2, 0, none⟩)), (105, .slice A0 l0.length c0), (104, .int .i64 e1.At), (103, .pointer (some ⟨b2, 1, none⟩)), (102, .int .i64 z1)]) (l := [.loaded ⟨b2, 1, none⟩ (.int .i64 e1.At), .loaded ⟨b2, 0, none⟩ (.int .i64 e1.Task)]) (by kernel_rfl) ⟨hS50.cell 0 rfl rfl, hS50.cell 0 rfl rfl, trivial⟩ ?_
          by_cases hc15 : 0 ≤ e1.Task
          · rw [if_pos hc15] at h
            rcases hx7 : l0[(e1.Task).toNat]? with _ | e4
            · rw [hx7] at h; cases h
            rw [hx7] at h
            simp only [] at h
            refine ge_index (d := 108) (ty := 0) (t := 22) (el := 35) (sz := 6) (m := l0.length) (c := c0) (x := (.tmp 105)) (y := (.tmp 107)) (A := A0) (k' := .i64) (j := e1.Task) (jn := ((e1.Task).toNat)) (b0 := blkOf A0) (o0 := offOf A0) (by kernel_rfl) (by kernel_rfl) (by kernel_rfl) (by kernel_rfl) (by kernel_rfl) ((hS50.rd hR0).eqSome (pos_of_get hx7)) (Int.toNat_of_nonneg hc15).symm (lt_of_get hx7) ?_
            refine ge_batch [7, 8, 9, 10, 11] (ans := [.val (.int .i64 e4.D)]) (vs := [(10, .int .i64 (gmax z1 (IntKind.i64.wrap (e1.At + e4.D)))), (112, .int .i64 (gmax z1 (IntKind.i64.wrap (e1.At + e4.D)))), (111, .int .i64 (IntKind.i64.wrap (e1.At + e4.D))), (110, .int .i64 e4.D), (109, .pointer (some ⟨blkOf A0, offOf A0 + (e1.Task).toNat * 6 + 3, none⟩))]) (l := [.loaded ⟨blkOf A0, offOf A0 + ((e1.Task).toNat) * 6 + 3, none⟩ (.int .i64 e4.D)]) (by kernel_rfl) ⟨RdL.cell (j := 3) (hS50.rd hR0) hx7 rfl, trivial⟩ ?_
            refine ge_nil fun a hF => hK16 _ _ ?_ a hF
            refine we_region [(0, 0), (1, 0)] rfl ?_
            refine ge_addn (d := 113) (ty := 3) (x := (.tmp 49)) (y := (.const (.int .i64 1))) (t := 3) (t2 := 3) (k := .i64) (m := i1) (by kernel_rfl) (by kernel_rfl) (by kernel_rfl) (by have h0 := hR1.small; omega) ?_
            refine ge_batch [1] (ans := []) (vs := [(49, .int .i64 ((i1 + 1 : Nat) : Int))]) (l := []) (by kernel_rfl) trivial ?_
            have hS51 := hS50.bring 3 rfl
            have hS52 := hS51.bring 3 rfl
            have hS53 := hS52.bring 3 rfl
            have hS54 := hS53.takeN 3
            obtain rfl := Option.some.inj h
            exact ge_nil fun a hF => hQ _ _ _ (Outs.again ⟨hS54, hF.weaken ⟨by kernel_rfl, by kernel_rfl, by kernel_rfl, by kernel_rfl, by kernel_rfl, by kernel_rfl, by kernel_rfl, by kernel_rfl, by kernel_rfl, by kernel_rfl, trivial⟩⟩)
          · rw [if_neg hc15] at h
            cases h
        · rw [hq6] at h
          simp only [] at h
          refine we_iter (A := ModesKeep.A3 K w0 l0 A0 c0 l1 A1 c1 l2 A2 c2 hR0 hL0 hR1 hL1 hR2 hL2 r1 hc1 r2 b1 hc4 Z1 cz1 Z2 cz2 z1 i1 hc5 e1 hx2 b2 hc10) (B := ModesKeep.B3 K w0 l0 A0 c0 l1 A1 c1 l2 A2 c2 hR0 hL0 hR1 hL1 hR2 hL2 r1 hc1 r2 b1 hc4 Z1 cz1 Z2 cz2 z1 i1 hc5 e1 hx2 b2 hc10) hq6 (fun a hF => ⟨hS29, hF.weaken ⟨by kernel_rfl, by kernel_rfl, by kernel_rfl, by kernel_rfl, by kernel_rfl, by kernel_rfl, by kernel_rfl, by kernel_rfl, by kernel_rfl, by kernel_rfl, by kernel_rfl, by kernel_rfl, by kernel_rfl, by kernel_rfl, trivial⟩⟩) (fun s o hf a w hA Q hQ => ModesKeep_r3 K w0 l0 A0 c0 l1 A1 c1 l2 A2 c2 hR0 hL0 hR1 hL1 hR2 hL2 r1 hc1 r2 b1 hc4 Z1 cz1 Z2 cz2 z1 i1 hc5 e1 hx2 b2 hc10 s o hf a w hA Q hQ) ?_
          rintro _ a w1 _ ⟨rfl, hb⟩
          obtain rfl := Option.some.inj h
          exact hQ _ _ _ (Outs.out nofun (Exits.on ⟨rfl, hb⟩))
      · rw [if_neg hc10] at h
        cases h
    · rw [hq5] at h
      simp only [] at h
      refine we_keep (e' := [(0, .slice A0 l0.length c0), (1, .slice A1 l1.length c1), (2, .slice A2 l2.length c2), (7, (.slice Z1 r2.1.length cz1)), (8, (.slice Z2 r2.2.1.length cz2)), (9, .pointer (some ⟨b1, 0, none⟩)), (10, .int .i64 z1), (11, .int .i64 (i1 : Int)), (12, .pointer (some ⟨b2, 0, none⟩)), (47, .slice A1 l1.length c1), (48, .int .i64 (l1.length : Int)), (49, .int .i64 (i1 : Int)), (50, .bool true), (51, .int .i64 (i1 : Int)), (52, .pointer (some ⟨blkOf A1, offOf A1 + i1 * 2, none⟩)), (53, .agg #[.int .i64 e1.Task, .int .i64 e1.At])]) ⟨by kernel_rfl, by kernel_rfl, by kernel_rfl, by kernel_rfl, by kernel_rfl, by kernel_rfl, by kernel_rfl, by kernel_rfl, by kernel_rfl, by kernel_rfl, by kernel_rfl, by kernel_rfl, by kernel_rfl, by kernel_rfl, by kernel_rfl, by kernel_rfl, trivial⟩ (ModesKeep_p2 K w0 l0 A0 c0 l1 A1 c1 l2 A2 c2 hR0 hL0 hR1 hL1 hR2 hL2 r1 hc1 r2 b1 hc4 Z1 cz1 Z2 cz2 z1 i1 hc5 e1 hx2 b2 _ hq5 _ hS16 _ ?_)
      rintro _ a w1 ⟨_, rfl, hb⟩
      obtain rfl := Option.some.inj h
      exact hQ _ _ _ (Outs.out nofun (Exits.on ⟨rfl, hb⟩))
  · rw [if_neg hc5] at h
    refine we_known (t := 50) (b := decide ((i1 : Int) < (l1.length : Int))) (v := false) (by kernel_rfl) (decide_eq_false hc5) ?_
    refine we_false (by kernel_rfl) ?_
    have hS55 := hS.bring 2 rfl
    have hS56 := hS55.bring 2 rfl
    have hS57 := hS56.bring 2 rfl
    obtain rfl := Option.some.inj h
    exact we_exit fun a hF => hQ _ _ _ (Outs.out nofun (Exits.here ⟨hS57, hF.weaken ⟨by kernel_rfl, by kernel_rfl, by kernel_rfl, by kernel_rfl, by kernel_rfl, by kernel_rfl, by kernel_rfl, trivial⟩⟩))
abbrev ModesKeep.A4 (K : Nat) (w0 : World) (l0 : List SCrit) (A0 : Option Addr) (c0 : Nat) (l1 : List SCome) (A1 : Option Addr) (c1 : Nat) (l2 : List Int) (A2 : Option Addr) (c2 : Nat) (hR0 : RdL w0 A0 l0) (hL0 : l0.length ≤ c0) (hR1 : RdL w0 A1 l1) (hL1 : l1.length ≤ c1) (hR2 : RdL w0 A2 l2) (hL2 : l2.length ≤ c2) (r1 : Bool) (hc1 : r1 = true) (r2 : (List Int) × (List Int) × SFault) (b1 : Nat) (hc4 : r2.2.2.Code = 0) (Z1 : Option Addr) (cz1 : Nat) (Z2 : Option Addr) (cz2 : Nat) (z3 : Int) (hc16 : ¬ (z3 > 3000)) (r3 : SModal × SFault) (b4 : Nat) (Z3 : Option Addr) (cz3 : Nat) (Z4 : Option Addr) (cz4 : Nat) (hc17 : r3.2.Code = 0) (hc18 : (r3.1.Played.Ends.length : Int) = (l1.length : Int)) : Nat → Act → World → Prop := fun (s : Nat) a w => St w0 w [Own.blk b4 (.cells #[(.slice Z3 r3.1.Played.Runs.length cz3), (.slice Z4 r3.1.Played.Ends.length cz4), .int .i64 r3.1.Turned] 39 (0, 0)), Own.of (.slice Z1 r2.1.length cz1) 3 r2.1, Own.of (.slice Z2 r2.2.1.length cz2) 3 r2.2.1, Own.of (.slice Z3 r3.1.Played.Runs.length cz3) 3 r3.1.Played.Runs, Own.of (.slice Z4 r3.1.Played.Ends.length cz4) 3 r3.1.Played.Ends] ∧ Frm 199 a [(0, .slice A0 l0.length c0), (7, (.slice Z1 r2.1.length cz1)), (8, (.slice Z2 r2.2.1.length cz2)), (15, .pointer (some ⟨b4, 0, none⟩)), (142, .slice A1 l1.length c1), (143, .int .i64 (l1.length : Int)), (144, .int .i64 (s : Int))]
abbrev ModesKeep.B4 (K : Nat) (w0 : World) (l0 : List SCrit) (A0 : Option Addr) (c0 : Nat) (l1 : List SCome) (A1 : Option Addr) (c1 : Nat) (l2 : List Int) (A2 : Option Addr) (c2 : Nat) (hR0 : RdL w0 A0 l0) (hL0 : l0.length ≤ c0) (hR1 : RdL w0 A1 l1) (hL1 : l1.length ≤ c1) (hR2 : RdL w0 A2 l2) (hL2 : l2.length ≤ c2) (r1 : Bool) (hc1 : r1 = true) (r2 : (List Int) × (List Int) × SFault) (b1 : Nat) (hc4 : r2.2.2.Code = 0) (Z1 : Option Addr) (cz1 : Nat) (Z2 : Option Addr) (cz2 : Nat) (z3 : Int) (hc16 : ¬ (z3 > 3000)) (r3 : SModal × SFault) (b4 : Nat) (Z3 : Option Addr) (cz3 : Nat) (Z4 : Option Addr) (cz4 : Nat) (hc17 : r3.2.Code = 0) (hc18 : (r3.1.Played.Ends.length : Int) = (l1.length : Int)) : (Unit ⊕ Bool) → Exit → Act → World → Prop := Exits 4 (fun (s : Unit) a w => St w0 w [] ∧ Frm 199 a []) (Rets Try.prog Try.f3 (ModesKeep.Post w0))
theorem ModesKeep_r4 (K : Nat) (w0 : World) (l0 : List SCrit) (A0 : Option Addr) (c0 : Nat) (l1 : List SCome) (A1 : Option Addr) (c1 : Nat) (l2 : List Int) (A2 : Option Addr) (c2 : Nat) (hR0 : RdL w0 A0 l0) (hL0 : l0.length ≤ c0) (hR1 : RdL w0 A1 l1) (hL1 : l1.length ≤ c1) (hR2 : RdL w0 A2 l2) (hL2 : l2.length ≤ c2) (r1 : Bool) (hc1 : r1 = true) (r2 : (List Int) × (List Int) × SFault) (b1 : Nat) (hc4 : r2.2.2.Code = 0) (Z1 : Option Addr) (cz1 : Nat) (Z2 : Option Addr) (cz2 : Nat) (z3 : Int) (hc16 : ¬ (z3 > 3000)) (r3 : SModal × SFault) (b4 : Nat) (Z3 : Option Addr) (cz3 : Nat) (Z4 : Option Addr) (cz4 : Nat) (hc17 : r3.2.Code = 0) (hc18 : (r3.1.Played.Ends.length : Int) = (l1.length : Int)) (s : Nat) (o : Nat ⊕ (Unit ⊕ Bool)) (h : ModesKeep.r4 l0 l1 r2 r3 s = some o) (a : Act) (w : World) (hA : ModesKeep.A4 K w0 l0 A0 c0 l1 A1 c1 l2 A2 c2 hR0 hL0 hR1 hL1 hR2 hL2 r1 hc1 r2 b1 hc4 Z1 cz1 Z2 cz2 z3 hc16 r3 b4 Z3 cz3 Z4 cz4 hc17 hc18 s a w) (Q : Exit → Act → World → Prop) (hQ : ∀ x a w, Outs (ModesKeep.A4 K w0 l0 A0 c0 l1 A1 c1 l2 A2 c2 hR0 hL0 hR1 hL1 hR2 hL2 r1 hc1 r2 b1 hc4 Z1 cz1 Z2 cz2 z3 hc16 r3 b4 Z3 cz3 Z4 cz4 hc17 hc18) (ModesKeep.B4 K w0 l0 A0 c0 l1 A1 c1 l2 A2 c2 hR0 hL0 hR1 hL1 hR2 hL2 r1 hc1 r2 b1 hc4 Z1 cz1 Z2 cz2 z3 hc16 r3 b4 Z3 cz3 Z4 cz4 hc17 hc18) o x a w → Q x a w) : (subF Try.f3 [1, 1, 1, 1, 1, 1, 1, 1, 1, 1, 1, 0, 1, 0, 0]).wp Try.prog Q a w := by
  obtain ⟨i3, hs⟩ : ∃ z, z = s := ⟨s, rfl⟩
  subst hs
  obtain ⟨hS, hF⟩ := hA
  replace hS : St w0 w [Own.blk b4 (.cells #[(.slice Z3 r3.1.Played.Runs.length cz3), (.slice Z4 r3.1.Played.Ends.length cz4), .int .i64 r3.1.Turned] 39 (0, 0)), Own.of (.slice Z1 r2.1.length cz1) 3 r2.1, Own.of (.slice Z2 r2.2.1.length cz2) 3 r2.2.1, Own.of (.slice Z3 r3.1.Played.Runs.length cz3) 3 r3.1.Played.Runs, Own.of (.slice Z4 r3.1.Played.Ends.length cz4) 3 r3.1.Played.Ends] := hS
  simp only [ModesKeep.r4] at h
  refine (?_ : WE Try.prog 199 (subF Try.f3 [1, 1, 1, 1, 1, 1, 1, 1, 1, 1, 1, 0, 1, 0, 0]) Q [(0, .slice A0 l0.length c0), (7, (.slice Z1 r2.1.length cz1)), (8, (.slice Z2 r2.2.1.length cz2)), (15, .pointer (some ⟨b4, 0, none⟩)), (142, .slice A1 l1.length c1), (143, .int .i64 (l1.length : Int)), (144, .int .i64 (i3 : Int))] w) a hF
  clear hF a
  refine we_seq fun K42 hK42 => ?_
  refine we_region [(0, 0)] rfl ?_
  refine ge_batch [0] (ans := []) (vs := [(145, .bool (decide ((i3 : Int) < (l1.length : Int))))]) (l := []) (by kernel_rfl) trivial ?_
  refine ge_nil fun a hF => hK42 _ _ ?_ a hF
  refine we_seq fun K43 hK43 => ?_
  by_cases hc19 : (i3 : Int) < (l1.length : Int)
  · rw [if_pos hc19] at h
    refine we_known (t := 145) (b := decide ((i3 : Int) < (l1.length : Int))) (v := true) (by kernel_rfl) (decide_eq_true hc19) ?_
    refine we_true (by kernel_rfl) ?_
    refine we_skip fun a hF => hK43 _ _ ?_ a hF
    refine we_seq fun K44 hK44 => ?_
    refine we_block ?_
    refine we_seq fun K45 hK45 => ?_
    refine we_region [(0, 0), (1, 0), (2, 0), (3, 1), (4, 1), (5, 2), (6, 2)] rfl ?_
    refine ge_batch [0] (ans := []) (vs := [(146, .int .i64 (i3 : Int))]) (l := []) (by kernel_rfl) trivial ?_
    rcases hx9 : l1[i3]? with _ | e5
    · rw [hx9] at h; cases h
    rw [hx9] at h
    simp only [] at h
    refine ge_index (d := 147) (ty := 0) (t := 23) (el := 33) (sz := 2) (m := l1.length) (c := c1) (x := (.tmp 142)) (y := (.tmp 144)) (A := A1) (k' := .i64) (j := (i3 : Int)) (jn := i3) (b0 := blkOf A1) (o0 := offOf A1) (by kernel_rfl) (by kernel_rfl) (by kernel_rfl) (by kernel_rfl) (by kernel_rfl) ((hS.rd hR1).eqSome (pos_of_get hx9)) rfl (lt_of_get hx9) ?_
    refine ge_batch [2] (ans := [.val (.int .i64 e5.Task), .val (.int .i64 e5.At)]) (vs := [(148, .agg #[.int .i64 e5.Task, .int .i64 e5.At])]) (l := [.loaded ⟨blkOf A1, offOf A1 + i3 * 2, none⟩ (.int .i64 e5.Task), .loaded ⟨blkOf A1, offOf A1 + i3 * 2 + 1, none⟩ (.int .i64 e5.At)]) (by kernel_rfl) ⟨RdL.cell (j := 0) (hS.rd hR1) hx9 rfl, RdL.cell (j := 1) (hS.rd hR1) hx9 rfl, trivial⟩ ?_
    refine ge_new (d := some 16) (o := .cells #[.int .i64 0] 3) (v := fun b => .pointer (some ⟨b, 0, none⟩)) hS (fun b => by kernel_rfl) fun b5 w18 hx10 hS74 => ?_
    refine ge_new (d := some 17) (o := .cells #[.int .i64 0, .int .i64 0] 33) (v := fun b => .pointer (some ⟨b, 0, none⟩)) hS74 (fun b => by kernel_rfl) fun b6 w19 hx11 hS75 => ?_
    have hS76 := hS75.bring 1 rfl
    refine ge_set (b := b5) (j := 0) (cs := #[.int .i64 0]) (t := 3) (vs := [.int .i64 (i3 : Int)]) hS76 (by kernel_rfl) rfl rfl fun w20 hS77 => ?_
    have hS78 : St w0 w20 [Own.blk b5 (.cells #[.int .i64 (i3 : Int)] 3 (0, 0)), Own.blk b6 (.cells #[.int .i64 0, .int .i64 0] 33 (0, 0)), Own.blk b4 (.cells #[(.slice Z3 r3.1.Played.Runs.length cz3), (.slice Z4 r3.1.Played.Ends.length cz4), .int .i64 r3.1.Turned] 39 (0, 0)), Own.of (.slice Z1 r2.1.length cz1) 3 r2.1, Own.of (.slice Z2 r2.2.1.length cz2) 3 r2.2.1, Own.of (.slice Z3 r3.1.Played.Runs.length cz3) 3 r3.1.Played.Runs, Own.of (.slice Z4 r3.1.Played.Ends.length cz4) 3 r3.1.Played.Ends] := hS77
    have hS79 := hS78.bring 1 rfl
    refine ge_set (b := b6) (j := 0) (cs := #[.int .i64 0, .int .i64 0]) (t := 33) (vs := [.int .i64 e5.Task, .int .i64 e5.At]) hS79 (by kernel_rfl) rfl rfl fun w21 hS80 => ?_
    have hS81 : St w0 w21 [Own.blk b6 (.cells #[.int .i64 e5.Task, .int .i64 e5.At] 33 (0, 0)), Own.blk b5 (.cells #[.int .i64 (i3 : Int)] 3 (0, 0)), Own.blk b4 (.cells #[(.slice Z3 r3.1.Played.Runs.length cz3), (.slice Z4 r3.1.Played.Ends.length cz4), .int .i64 r3.1.Turned] 39 (0, 0)), Own.of (.slice Z1 r2.1.length cz1) 3 r2.1, Own.of (.slice Z2 r2.2.1.length cz2) 3 r2.2.1, Own.of (.slice Z3 r3.1.Played.Runs.length cz3) 3 r3.1.Played.Runs, Own.of (.slice Z4 r3.1.Played.Ends.length cz4) 3 r3.1.Played.Ends] := hS80
    refine ge_nil fun a hF => hK45 _ _ ?_ a hF
    refine we_seq fun K46 hK46 => ?_
    refine we_region [(0, 0), (1, 0)] rfl ?_
    refine ge_batch [0, 1] (ans := []) (vs := [(18, .func (.func 12) #[] #[.pointer (some ⟨b4, 0, none⟩), .pointer (some ⟨b5, 0, none⟩), .pointer (some ⟨b6, 0, none⟩)]), (149, .func (.func 12) #[] #[.pointer (some ⟨b4, 0, none⟩), .pointer (some ⟨b5, 0, none⟩), .pointer (some ⟨b6, 0, none⟩)])]) (l := []) (by kernel_rfl) trivial ?_
    refine ge_nil fun a hF => hK46 _ _ ?_ a hF
    refine we_seq fun K47 hK47 => ?_
    refine we_seq fun K48 hK48 => ?_
    refine we_draws (by kernel_rfl) [(0, 0), (1, 0), (2, 0), (3, 0), (4, 0), (5, 0), (6, 0), (7, 0), (8, 0), (9, 0), (10, 0), (11, 0), (12, 0), (13, 0), (14, 0), (15, 0), (16, 0), (17, 0), (18, 0), (19, 1), (20, 0), (21, 0)] (by kernel_rfl) ?_
    have hS82 := hS81.drew
    refine ge_batch [0, 1, 2] (ans := [.val (.int .i64 e5.Task)]) (vs := [(152, .int .i64 e5.Task), (151, .pointer (some ⟨b6, 0, none⟩)), (150, .slice A0 l0.length c0)]) (l := [.loaded ⟨b6, 0, none⟩ (.int .i64 e5.Task)]) (by kernel_rfl) ⟨hS82.cell 0 rfl rfl, trivial⟩ ?_
    by_cases hc20 : 0 ≤ e5.Task
    · rw [if_pos hc20] at h
      rcases hx12 : l0[(e5.Task).toNat]? with _ | e6
      · rw [hx12] at h; cases h
      rw [hx12] at h
      simp only [] at h
      refine ge_index (d := 153) (ty := 0) (t := 22) (el := 35) (sz := 6) (m := l0.length) (c := c0) (x := (.tmp 150)) (y := (.tmp 152)) (A := A0) (k' := .i64) (j := e5.Task) (jn := ((e5.Task).toNat)) (b0 := blkOf A0) (o0 := offOf A0) (by kernel_rfl) (by kernel_rfl) (by kernel_rfl) (by kernel_rfl) (by kernel_rfl) ((hS82.rd hR0).eqSome (pos_of_get hx12)) (Int.toNat_of_nonneg hc20).symm (lt_of_get hx12) ?_
      refine ge_batch [4, 5, 6] (ans := [.val (.bool e6.High)]) (vs := [(156, .bool e6.High), (155, .bool e6.High), (154, .pointer (some ⟨blkOf A0, offOf A0 + (e5.Task).toNat * 6 + 4, none⟩))]) (l := [.loaded ⟨blkOf A0, offOf A0 + ((e5.Task).toNat) * 6 + 4, none⟩ (.bool e6.High)]) (by kernel_rfl) ⟨RdL.cell (j := 4) (hS82.rd hR0) hx12 rfl, trivial⟩ ?_
      by_cases hc21 : e6.High = true
      · rw [if_pos hc21] at h
        refine ge_known (t := 156) (b := e6.High) (c := true) (by kernel_rfl) hc21 ?_
        refine ge_batch [7, 8, 9, 10] (ans := [.val (.int .i64 e5.Task)]) (vs := [(160, .int .i64 e5.Task), (159, .pointer (some ⟨b6, 0, none⟩)), (158, (.slice Z1 r2.1.length cz1)), (157, .func (.func 12) #[] #[.pointer (some ⟨b4, 0, none⟩), .pointer (some ⟨b5, 0, none⟩), .pointer (some ⟨b6, 0, none⟩)])]) (l := [.loaded ⟨b6, 0, none⟩ (.int .i64 e5.Task)]) (by kernel_rfl) ⟨hS82.cell 0 rfl rfl, trivial⟩ ?_
        rcases hx13 : r2.1[(e5.Task).toNat]? with _ | e7
        · rw [hx13] at h; cases h
        rw [hx13] at h
        simp only [] at h
        refine ge_index (d := 161) (ty := 0) (t := 24) (el := 3) (sz := 1) (m := r2.1.length) (c := cz1) (x := (.tmp 158)) (y := (.tmp 160)) (A := Z1) (k' := .i64) (j := e5.Task) (jn := ((e5.Task).toNat)) (b0 := blkOf Z1) (o0 := offOf Z1) (by kernel_rfl) (by kernel_rfl) (by kernel_rfl) (by kernel_rfl) (by kernel_rfl) ((hS82.rdAt 3 rfl).eqSome (pos_of_get hx13)) (Int.toNat_of_nonneg hc20).symm (lt_of_get hx13) ?_
        refine ge_batch [12, 13, 14, 15] (ans := [.val (.int .i64 e7), .val (.int .i64 e5.Task)]) (vs := [(165, .int .i64 e5.Task), (164, .pointer (some ⟨b6, 0, none⟩)), (163, (.slice Z2 r2.2.1.length cz2)), (162, .int .i64 e7)]) (l := [.loaded ⟨blkOf Z1, offOf Z1 + ((e5.Task).toNat) * 1, none⟩ (.int .i64 e7), .loaded ⟨b6, 0, none⟩ (.int .i64 e5.Task)]) (by kernel_rfl) ⟨RdL.cell (j := 0) (hS82.rdAt 3 rfl) hx13 rfl, hS82.cell 0 rfl rfl, trivial⟩ ?_
        rcases hx14 : r2.2.1[(e5.Task).toNat]? with _ | e8
        · rw [hx14] at h; cases h
        rw [hx14] at h
        simp only [] at h
        refine ge_index (d := 166) (ty := 0) (t := 24) (el := 3) (sz := 1) (m := r2.2.1.length) (c := cz2) (x := (.tmp 163)) (y := (.tmp 165)) (A := Z2) (k' := .i64) (j := e5.Task) (jn := ((e5.Task).toNat)) (b0 := blkOf Z2) (o0 := offOf Z2) (by kernel_rfl) (by kernel_rfl) (by kernel_rfl) (by kernel_rfl) (by kernel_rfl) ((hS82.rdAt 4 rfl).eqSome (pos_of_get hx14)) (Int.toNat_of_nonneg hc20).symm (lt_of_get hx14) ?_
        rcases hq9 : ModesKeep_1.f (gmax e7 e8) r3.1.Played.Runs r3.1.Played.Ends r3.1.Turned (i3 : Int) e5 with _ | r4
        · rw [hq9] at h; cases h
        rw [hq9] at h
        simp only [] at h
        refine ge_batch [17, 18] (ans := [.val (.int .i64 e8)]) (vs := [(168, .int .i64 (gmax e7 e8)), (167, .int .i64 e8)]) (l := [.loaded ⟨blkOf Z2, offOf Z2 + ((e5.Task).toNat) * 1, none⟩ (.int .i64 e8)]) (by kernel_rfl) ⟨RdL.cell (j := 0) (hS82.rdAt 4 rfl) hx14 rfl, trivial⟩ ?_
        refine ge_call (d := some 169) (f := 12) (args := #[.int .i64 (gmax e7 e8), .pointer (some ⟨b4, 0, none⟩), .pointer (some ⟨b5, 0, none⟩), .pointer (some ⟨b6, 0, none⟩)]) (by kernel_rfl) (ModesKeep_1_ok (gmax e7 e8) b4 r3.1.Played.Runs Z3 cz3 r3.1.Played.Ends Z4 cz4 r3.1.Turned b5 (i3 : Int) b6 e5 _ (hS82.rdAt 5 rfl) (hS82.capAt 5 rfl) (hS82.rdAt 6 rfl) (hS82.capAt 6 rfl) (hS82.globOf 2 rfl) (hS82.globOf 1 rfl) (hS82.globOf 0 rfl) _ hq9) ?_
        rintro _ w22 ⟨rfl, hS83⟩
        refine ⟨_, rfl, hS83.below, ?_⟩
        have hS84 := hS82.call hS83
        refine ge_batch [20, 21] (ans := []) (vs := [(171, .bool (!r4)), (170, .bool (!r4))]) (l := []) (by kernel_rfl) trivial ?_
        refine ge_nil fun a hF => hK48 _ _ ?_ a hF
        by_cases hc22 : r4 = true
        · rw [if_pos hc22] at h
          refine we_known (t := 171) (b := !r4) (v := false) (by kernel_rfl) (congrArg (fun z => !z) hc22) ?_
          refine we_false (by kernel_rfl) ?_
          refine we_skip fun a hF => hK47 _ _ ?_ a hF
          refine we_seq fun K49 hK49 => ?_
          refine we_draws (by kernel_rfl) [(0, 0), (1, 0), (2, 0), (3, 0), (4, 0), (5, 0), (6, 0), (7, 0), (8, 0), (9, 0), (10, 0), (11, 0), (12, 0), (13, 0), (14, 0), (15, 0), (16, 0), (17, 0), (18, 0), (19, 0), (20, 0), (21, 0), (22, 0), (23, 1), (24, 0), (25, 0)] (by kernel_rfl) ?_
          have hS85 := hS84.drew
          refine ge_batch [0, 1, 2, 3] (ans := [.val (.int .i64 r3.1.Turned)]) (vs := [(175, .bool (decide (r3.1.Turned < 0))), (174, .bool (decide (r3.1.Turned < 0))), (173, .int .i64 r3.1.Turned), (172, .pointer (some ⟨b4, 2, none⟩))]) (l := [.loaded ⟨b4, 2, none⟩ (.int .i64 r3.1.Turned)]) (by kernel_rfl) ⟨hS85.cell 2 rfl rfl, trivial⟩ ?_
          by_cases hc23 : r3.1.Turned < 0
          · rw [if_pos hc23] at h
            refine ge_known (t := 175) (b := decide (r3.1.Turned < 0)) (c := true) (by kernel_rfl) (decide_eq_true hc23) ?_
            refine ge_batch [4, 5, 6, 7, 8, 9, 10, 11, 12, 13, 14, 15, 16, 17, 18, 19, 20] (ans := [.val (.int .i64 e5.Task)]) (vs := [(192, .int .i64 e5.Task), (191, .pointer (some ⟨b6, 0, none⟩)), (190, (.slice Z1 r2.1.length cz1)), (189, .func (.func 12) #[] #[.pointer (some ⟨b4, 0, none⟩), .pointer (some ⟨b5, 0, none⟩), .pointer (some ⟨b6, 0, none⟩)]), (188, .bool true), (187, .bool true), (186, undef), (185, undef), (184, undef), (183, undef), (182, undef), (181, undef), (180, undef), (179, undef), (178, undef), (177, undef), (176, undef)]) (l := [.loaded ⟨b6, 0, none⟩ (.int .i64 e5.Task)]) (by kernel_rfl) ⟨hS85.cell 0 rfl rfl, trivial⟩ ?_
            refine ge_index (d := 193) (ty := 0) (t := 24) (el := 3) (sz := 1) (m := r2.1.length) (c := cz1) (x := (.tmp 190)) (y := (.tmp 192)) (A := Z1) (k' := .i64) (j := e5.Task) (jn := ((e5.Task).toNat)) (b0 := blkOf Z1) (o0 := offOf Z1) (by kernel_rfl) (by kernel_rfl) (by kernel_rfl) (by kernel_rfl) (by kernel_rfl) ((hS85.rdAt 3 rfl).eqSome (pos_of_get hx13)) (Int.toNat_of_nonneg hc20).symm (lt_of_get hx13) ?_
            rcases hq10 : ModesKeep_1.f e7 r3.1.Played.Runs r3.1.Played.Ends r3.1.Turned (i3 : Int) e5 with _ | r5
            · rw [hq10] at h; cases h
            rw [hq10] at h
            simp only [] at h
            refine ge_batch [22] (ans := [.val (.int .i64 e7)]) (vs := [(194, .int .i64 e7)]) (l := [.loaded ⟨blkOf Z1, offOf Z1 + ((e5.Task).toNat) * 1, none⟩ (.int .i64 e7)]) (by kernel_rfl) ⟨RdL.cell (j := 0) (hS85.rdAt 3 rfl) hx13 rfl, trivial⟩ ?_
            refine ge_call (d := some 195) (f := 12) (args := #[.int .i64 e7, .pointer (some ⟨b4, 0, none⟩), .pointer (some ⟨b5, 0, none⟩), .pointer (some ⟨b6, 0, none⟩)]) (by kernel_rfl) (ModesKeep_1_ok e7 b4 r3.1.Played.Runs Z3 cz3 r3.1.Played.Ends Z4 cz4 r3.1.Turned b5 (i3 : Int) b6 e5 _ (hS85.rdAt 5 rfl) (hS85.capAt 5 rfl) (hS85.rdAt 6 rfl) (hS85.capAt 6 rfl) (hS85.globOf 2 rfl) (hS85.globOf 1 rfl) (hS85.globOf 0 rfl) _ hq10) ?_
            rintro _ w23 ⟨rfl, hS86⟩
            refine ⟨_, rfl, hS86.below, ?_⟩
            have hS87 := hS85.call hS86
            refine ge_batch [24, 25] (ans := []) (vs := [(197, .bool (!r5)), (196, .bool (!r5))]) (l := []) (by kernel_rfl) trivial ?_
            refine ge_nil fun a hF => hK49 _ _ ?_ a hF
            by_cases hc24 : r5 = true
            · rw [if_pos hc24] at h
              refine we_known (t := 197) (b := !r5) (v := false) (by kernel_rfl) (congrArg (fun z => !z) hc24) ?_
              refine we_false (by kernel_rfl) ?_
              refine we_skip fun a hF => hK44 _ _ ?_ a hF
              refine we_region [(0, 0), (1, 0)] rfl ?_
              refine ge_addn (d := 198) (ty := 3) (x := (.tmp 144)) (y := (.const (.int .i64 1))) (t := 3) (t2 := 3) (k := .i64) (m := i3) (by kernel_rfl) (by kernel_rfl) (by kernel_rfl) (by have h0 := hR1.small; omega) ?_
              refine ge_batch [1] (ans := []) (vs := [(144, .int .i64 ((i3 + 1 : Nat) : Int))]) (l := []) (by kernel_rfl) trivial ?_
              have hS88 := hS87.bring 6 rfl
              have hS89 := hS88.bring 6 rfl
              have hS90 := hS89.bring 6 rfl
              have hS91 := hS90.bring 6 rfl
              have hS92 := hS91.bring 6 rfl
              have hS93 := hS92.takeN 5
              obtain rfl := Option.some.inj h
              exact ge_nil fun a hF => hQ _ _ _ (Outs.again ⟨hS93, hF.weaken ⟨by kernel_rfl, by kernel_rfl, by kernel_rfl, by kernel_rfl, by kernel_rfl, by kernel_rfl, by kernel_rfl, trivial⟩⟩)
            · rw [if_neg hc24] at h
              refine we_known (t := 197) (b := !r5) (v := true) (by kernel_rfl) (congrArg (fun z => !z) (Bool.eq_false_iff.2 hc24)) ?_
              refine we_true (by kernel_rfl) ?_
              refine we_seq fun K50 hK50 => ?_
              refine we_region [(0, 0)] rfl ?_
              refine ge_batch [0] (ans := []) (vs := [(6, .bool false)]) (l := []) (by kernel_rfl) trivial ?_
              refine ge_nil fun a hF => hK50 _ _ ?_ a hF
              have hS94 := hS87.takeN 0
              obtain rfl := Option.some.inj h
              exact we_ret fun a hF => hQ _ _ _ (Outs.out nofun (Exits.on ⟨rfl, (post_ret (rs := [.tmp 6]) (ans := []) (vs := [.bool false]) (l := []) rfl (by kernel_rfl) trivial ⟨rfl, hS94⟩) a hF⟩))
          · rw [if_neg hc23] at h
            refine ge_known (t := 175) (b := decide (r3.1.Turned < 0)) (c := false) (by kernel_rfl) (decide_eq_false hc23) ?_
            refine ge_batch [4, 5, 6, 7, 8, 9, 10] (ans := [.val (.int .i64 r3.1.Turned), .val (.int .i64 e5.At), .val (.int .i64 e5.Task)]) (vs := [(182, .int .i64 e5.Task), (181, .pointer (some ⟨b6, 0, none⟩)), (180, (.slice Z1 r2.1.length cz1)), (179, .int .i64 e5.At), (178, .pointer (some ⟨b6, 1, none⟩)), (177, .int .i64 r3.1.Turned), (176, .pointer (some ⟨b4, 2, none⟩))]) (l := [.loaded ⟨b4, 2, none⟩ (.int .i64 r3.1.Turned), .loaded ⟨b6, 1, none⟩ (.int .i64 e5.At), .loaded ⟨b6, 0, none⟩ (.int .i64 e5.Task)]) (by kernel_rfl) ⟨hS85.cell 2 rfl rfl, hS85.cell 0 rfl rfl, hS85.cell 0 rfl rfl, trivial⟩ ?_
            refine ge_index (d := 183) (ty := 0) (t := 24) (el := 3) (sz := 1) (m := r2.1.length) (c := cz1) (x := (.tmp 180)) (y := (.tmp 182)) (A := Z1) (k' := .i64) (j := e5.Task) (jn := ((e5.Task).toNat)) (b0 := blkOf Z1) (o0 := offOf Z1) (by kernel_rfl) (by kernel_rfl) (by kernel_rfl) (by kernel_rfl) (by kernel_rfl) ((hS85.rdAt 3 rfl).eqSome (pos_of_get hx13)) (Int.toNat_of_nonneg hc20).symm (lt_of_get hx13) ?_
            refine ge_batch [12, 13, 14, 15, 16] (ans := [.val (.int .i64 e7)]) (vs := [(188, .bool (decide (r3.1.Turned > (IntKind.i64.wrap (e5.At + e7))))), (187, .bool (decide (r3.1.Turned > (IntKind.i64.wrap (e5.At + e7))))), (186, .bool (decide (r3.1.Turned > (IntKind.i64.wrap (e5.At + e7))))), (185, .int .i64 (IntKind.i64.wrap (e5.At + e7))), (184, .int .i64 e7)]) (l := [.loaded ⟨blkOf Z1, offOf Z1 + ((e5.Task).toNat) * 1, none⟩ (.int .i64 e7)]) (by kernel_rfl) ⟨RdL.cell (j := 0) (hS85.rdAt 3 rfl) hx13 rfl, trivial⟩ ?_
            by_cases hc25 : r3.1.Turned > (IntKind.i64.wrap (e5.At + e7))
            · rw [if_pos hc25] at h
              refine ge_known (t := 188) (b := decide (r3.1.Turned > (IntKind.i64.wrap (e5.At + e7)))) (c := true) (by kernel_rfl) (decide_eq_true hc25) ?_
              refine ge_batch [17, 18, 19, 20] (ans := [.val (.int .i64 e5.Task)]) (vs := [(192, .int .i64 e5.Task), (191, .pointer (some ⟨b6, 0, none⟩)), (190, (.slice Z1 r2.1.length cz1)), (189, .func (.func 12) #[] #[.pointer (some ⟨b4, 0, none⟩), .pointer (some ⟨b5, 0, none⟩), .pointer (some ⟨b6, 0, none⟩)])]) (l := [.loaded ⟨b6, 0, none⟩ (.int .i64 e5.Task)]) (by kernel_rfl) ⟨hS85.cell 0 rfl rfl, trivial⟩ ?_
              refine ge_index (d := 193) (ty := 0) (t := 24) (el := 3) (sz := 1) (m := r2.1.length) (c := cz1) (x := (.tmp 190)) (y := (.tmp 192)) (A := Z1) (k' := .i64) (j := e5.Task) (jn := ((e5.Task).toNat)) (b0 := blkOf Z1) (o0 := offOf Z1) (by kernel_rfl) (by kernel_rfl) (by kernel_rfl) (by kernel_rfl) (by kernel_rfl) ((hS85.rdAt 3 rfl).eqSome (pos_of_get hx13)) (Int.toNat_of_nonneg hc20).symm (lt_of_get hx13) ?_
              rcases hq11 : ModesKeep_1.f e7 r3.1.Played.Runs r3.1.Played.Ends r3.1.Turned (i3 : Int) e5 with _ | r6
              · rw [hq11] at h; cases h
              rw [hq11] at h
              simp only [] at h
              refine ge_batch [22] (ans := [.val (.int .i64 e7)]) (vs := [(194, .int .i64 e7)]) (l := [.loaded ⟨blkOf Z1, offOf Z1 + ((e5.Task).toNat) * 1, none⟩ (.int .i64 e7)]) (by kernel_rfl) ⟨RdL.cell (j := 0) (hS85.rdAt 3 rfl) hx13 rfl, trivial⟩ ?_
              refine ge_call (d := some 195) (f := 12) (args := #[.int .i64 e7, .pointer (some ⟨b4, 0, none⟩), .pointer (some ⟨b5, 0, none⟩), .pointer (some ⟨b6, 0, none⟩)]) (by kernel_rfl) (ModesKeep_1_ok e7 b4 r3.1.Played.Runs Z3 cz3 r3.1.Played.Ends Z4 cz4 r3.1.Turned b5 (i3 : Int) b6 e5 _ (hS85.rdAt 5 rfl) (hS85.capAt 5 rfl) (hS85.rdAt 6 rfl) (hS85.capAt 6 rfl) (hS85.globOf 2 rfl) (hS85.globOf 1 rfl) (hS85.globOf 0 rfl) _ hq11) ?_
              rintro _ w24 ⟨rfl, hS95⟩
              refine ⟨_, rfl, hS95.below, ?_⟩
              have hS96 := hS85.call hS95
              refine ge_batch [24, 25] (ans := []) (vs := [(197, .bool (!r6)), (196, .bool (!r6))]) (l := []) (by kernel_rfl) trivial ?_
              refine ge_nil fun a hF => hK49 _ _ ?_ a hF
              by_cases hc26 : r6 = true
              · rw [if_pos hc26] at h
                refine we_known (t := 197) (b := !r6) (v := false) (by kernel_rfl) (congrArg (fun z => !z) hc26) ?_
                refine we_false (by kernel_rfl) ?_
                refine we_skip fun a hF => hK44 _ _ ?_ a hF
                refine we_region [(0, 0), (1, 0)] rfl ?_
                refine ge_addn (d := 198) (ty := 3) (x := (.tmp 144)) (y := (.const (.int .i64 1))) (t := 3) (t2 := 3) (k := .i64) (m := i3) (by kernel_rfl) (by kernel_rfl) (by kernel_rfl) (by have h0 := hR1.small; omega) ?_
                refine ge_batch [1] (ans := []) (vs := [(144, .int .i64 ((i3 + 1 : Nat) : Int))]) (l := []) (by kernel_rfl) trivial ?_
                have hS97 := hS96.bring 6 rfl
                have hS98 := hS97.bring 6 rfl
                have hS99 := hS98.bring 6 rfl
                have hS100 := hS99.bring 6 rfl
                have hS101 := hS100.bring 6 rfl
                have hS102 := hS101.takeN 5
                obtain rfl := Option.some.inj h
                exact ge_nil fun a hF => hQ _ _ _ (Outs.again ⟨hS102, hF.weaken ⟨by kernel_rfl, by kernel_rfl, by kernel_rfl, by kernel_rfl, by kernel_rfl, by kernel_rfl, by kernel_rfl, trivial⟩⟩)
              · rw [if_neg hc26] at h
                refine we_known (t := 197) (b := !r6) (v := true) (by kernel_rfl) (congrArg (fun z => !z) (Bool.eq_false_iff.2 hc26)) ?_
                refine we_true (by kernel_rfl) ?_
                refine we_seq fun K51 hK51 => ?_
                refine we_region [(0, 0)] rfl ?_
                refine ge_batch [0] (ans := []) (vs := [(6, .bool false)]) (l := []) (by kernel_rfl) trivial ?_
                refine ge_nil fun a hF => hK51 _ _ ?_ a hF
                have hS103 := hS96.takeN 0
                obtain rfl := Option.some.inj h
                exact we_ret fun a hF => hQ _ _ _ (Outs.out nofun (Exits.on ⟨rfl, (post_ret (rs := [.tmp 6]) (ans := []) (vs := [.bool false]) (l := []) rfl (by kernel_rfl) trivial ⟨rfl, hS103⟩) a hF⟩))
            · rw [if_neg hc25] at h
              refine ge_known (t := 188) (b := decide (r3.1.Turned > (IntKind.i64.wrap (e5.At + e7)))) (c := false) (by kernel_rfl) (decide_eq_false hc25) ?_
              refine ge_batch [17, 18, 19, 20, 21, 22] (ans := []) (vs := [(194, undef), (193, undef), (192, undef), (191, undef), (190, undef), (189, undef)]) (l := []) (by kernel_rfl) trivial ?_
              refine ge_off rfl rfl rfl (by kernel_rfl) ?_
              refine ge_batch [24, 25] (ans := []) (vs := [(197, .bool false), (196, undef)]) (l := []) (by kernel_rfl) trivial ?_
              refine ge_nil fun a hF => hK49 _ _ ?_ a hF
              refine we_false (by kernel_rfl) ?_
              refine we_skip fun a hF => hK44 _ _ ?_ a hF
              refine we_region [(0, 0), (1, 0)] rfl ?_
              refine ge_addn (d := 198) (ty := 3) (x := (.tmp 144)) (y := (.const (.int .i64 1))) (t := 3) (t2 := 3) (k := .i64) (m := i3) (by kernel_rfl) (by kernel_rfl) (by kernel_rfl) (by have h0 := hR1.small; omega) ?_
              refine ge_batch [1] (ans := []) (vs := [(144, .int .i64 ((i3 + 1 : Nat) : Int))]) (l := []) (by kernel_rfl) trivial ?_
              have hS104 := hS85.bring 6 rfl
              have hS105 := hS104.bring 6 rfl
              have hS106 := hS105.bring 6 rfl
              have hS107 := hS106.bring 6 rfl
              have hS108 := hS107.bring 6 rfl
              have hS109 := hS108.takeN 5
              obtain rfl := Option.some.inj h
              exact ge_nil fun a hF => hQ _ _ _ (Outs.again ⟨hS109, hF.weaken ⟨by kernel_rfl, by kernel_rfl, by kernel_rfl, by kernel_rfl, by kernel_rfl, by kernel_rfl, by kernel_rfl, trivial⟩⟩)
        · rw [if_neg hc22] at h
          refine we_known (t := 171) (b := !r4) (v := true) (by kernel_rfl) (congrArg (fun z => !z) (Bool.eq_false_iff.2 hc22)) ?_
          refine we_true (by kernel_rfl) ?_
          refine we_seq fun K52 hK52 => ?_
          refine we_region [(0, 0)] rfl ?_
          refine ge_batch [0] (ans := []) (vs := [(6, .bool false)]) (l := []) (by kernel_rfl) trivial ?_
          refine ge_nil fun a hF => hK52 _ _ ?_ a hF
          have hS110 := hS84.takeN 0
          obtain rfl := Option.some.inj h
          exact we_ret fun a hF => hQ _ _ _ (Outs.out nofun (Exits.on ⟨rfl, (post_ret (rs := [.tmp 6]) (ans := []) (vs := [.bool false]) (l := []) rfl (by kernel_rfl) trivial ⟨rfl, hS110⟩) a hF⟩))
      · rw [if_neg hc21] at h
        refine ge_known (t := 156) (b := e6.High) (c := false) (by kernel_rfl) (Bool.eq_false_iff.2 hc21) ?_
        refine ge_batch [7, 8, 9, 10, 11, 12, 13, 14, 15, 16, 17, 18] (ans := []) (vs := [(168, undef), (167, undef), (166, undef), (165, undef), (164, undef), (163, undef), (162, undef), (161, undef), (160, undef), (159, undef), (158, undef), (157, undef)]) (l := []) (by kernel_rfl) trivial ?_
        refine ge_off rfl rfl rfl (by kernel_rfl) ?_
        refine ge_batch [20, 21] (ans := []) (vs := [(171, .bool false), (170, undef)]) (l := []) (by kernel_rfl) trivial ?_
        refine ge_nil fun a hF => hK48 _ _ ?_ a hF
        refine we_false (by kernel_rfl) ?_
        refine we_skip fun a hF => hK47 _ _ ?_ a hF
        refine we_seq fun K53 hK53 => ?_
        refine we_draws (by kernel_rfl) [(0, 0), (1, 0), (2, 0), (3, 0), (4, 0), (5, 0), (6, 0), (7, 0), (8, 0), (9, 0), (10, 0), (11, 0), (12, 0), (13, 0), (14, 0), (15, 0), (16, 0), (17, 0), (18, 0), (19, 0), (20, 0), (21, 0), (22, 0), (23, 1), (24, 0), (25, 0)] (by kernel_rfl) ?_
        have hS111 := hS82.drew
        refine ge_batch [0, 1, 2, 3] (ans := [.val (.int .i64 r3.1.Turned)]) (vs := [(175, .bool (decide (r3.1.Turned < 0))), (174, .bool (decide (r3.1.Turned < 0))), (173, .int .i64 r3.1.Turned), (172, .pointer (some ⟨b4, 2, none⟩))]) (l := [.loaded ⟨b4, 2, none⟩ (.int .i64 r3.1.Turned)]) (by kernel_rfl) ⟨hS111.cell 2 rfl rfl, trivial⟩ ?_
        by_cases hc27 : r3.1.Turned < 0
        · rw [if_pos hc27] at h
          refine ge_known (t := 175) (b := decide (r3.1.Turned < 0)) (c := true) (by kernel_rfl) (decide_eq_true hc27) ?_
          refine ge_batch [4, 5, 6, 7, 8, 9, 10, 11, 12, 13, 14, 15, 16, 17, 18, 19, 20] (ans := [.val (.int .i64 e5.Task)]) (vs := [(192, .int .i64 e5.Task), (191, .pointer (some ⟨b6, 0, none⟩)), (190, (.slice Z1 r2.1.length cz1)), (189, .func (.func 12) #[] #[.pointer (some ⟨b4, 0, none⟩), .pointer (some ⟨b5, 0, none⟩), .pointer (some ⟨b6, 0, none⟩)]), (188, .bool true), (187, .bool true), (186, undef), (185, undef), (184, undef), (183, undef), (182, undef), (181, undef), (180, undef), (179, undef), (178, undef), (177, undef), (176, undef)]) (l := [.loaded ⟨b6, 0, none⟩ (.int .i64 e5.Task)]) (by kernel_rfl) ⟨hS111.cell 0 rfl rfl, trivial⟩ ?_
          rcases hx15 : r2.1[(e5.Task).toNat]? with _ | e9
          · rw [hx15] at h; cases h
          rw [hx15] at h
          simp only [] at h
          refine ge_index (d := 193) (ty := 0) (t := 24) (el := 3) (sz := 1) (m := r2.1.length) (c := cz1) (x := (.tmp 190)) (y := (.tmp 192)) (A := Z1) (k' := .i64) (j := e5.Task) (jn := ((e5.Task).toNat)) (b0 := blkOf Z1) (o0 := offOf Z1) (by kernel_rfl) (by kernel_rfl) (by kernel_rfl) (by kernel_rfl) (by kernel_rfl) ((hS111.rdAt 3 rfl).eqSome (pos_of_get hx15)) (Int.toNat_of_nonneg hc20).symm (lt_of_get hx15) ?_
          rcases hq12 : ModesKeep_1.f e9 r3.1.Played.Runs r3.1.Played.Ends r3.1.Turned (i3 : Int) e5 with _ | r7
          · rw [hq12] at h; cases h
          rw [hq12] at h
          simp only [] at h
          refine ge_batch [22] (ans := [.val (.int .i64 e9)]) (vs := [(194, .int .i64 e9)]) (l := [.loaded ⟨blkOf Z1, offOf Z1 + ((e5.Task).toNat) * 1, none⟩ (.int .i64 e9)]) (by kernel_rfl) ⟨RdL.cell (j := 0) (hS111.rdAt 3 rfl) hx15 rfl, trivial⟩ ?_
          refine ge_call (d := some 195) (f := 12) (args := #[.int .i64 e9, .pointer (some ⟨b4, 0, none⟩), .pointer (some ⟨b5, 0, none⟩), .pointer (some ⟨b6, 0, none⟩)]) (by kernel_rfl) (ModesKeep_1_ok e9 b4 r3.1.Played.Runs Z3 cz3 r3.1.Played.Ends Z4 cz4 r3.1.Turned b5 (i3 : Int) b6 e5 _ (hS111.rdAt 5 rfl) (hS111.capAt 5 rfl) (hS111.rdAt 6 rfl) (hS111.capAt 6 rfl) (hS111.globOf 2 rfl) (hS111.globOf 1 rfl) (hS111.globOf 0 rfl) _ hq12) ?_
          rintro _ w25 ⟨rfl, hS112⟩
          refine ⟨_, rfl, hS112.below, ?_⟩
          have hS113 := hS111.call hS112
          refine ge_batch [24, 25] (ans := []) (vs := [(197, .bool (!r7)), (196, .bool (!r7))]) (l := []) (by kernel_rfl) trivial ?_
          refine ge_nil fun a hF => hK53 _ _ ?_ a hF
          by_cases hc28 : r7 = true
          · rw [if_pos hc28] at h
            refine we_known (t := 197) (b := !r7) (v := false) (by kernel_rfl) (congrArg (fun z => !z) hc28) ?_
            refine we_false (by kernel_rfl) ?_
            refine we_skip fun a hF => hK44 _ _ ?_ a hF
            refine we_region [(0, 0), (1, 0)] rfl ?_
            refine ge_addn (d := 198) (ty := 3) (x := (.tmp 144)) (y := (.const (.int .i64 1))) (t := 3) (t2 := 3) (k := .i64) (m := i3) (by kernel_rfl) (by kernel_rfl) (by kernel_rfl) (by have h0 := hR1.small; omega) ?_
            refine ge_batch [1] (ans := []) (vs := [(144, .int .i64 ((i3 + 1 : Nat) : Int))]) (l := []) (by kernel_rfl) trivial ?_
            have hS114 := hS113.bring 6 rfl
            have hS115 := hS114.bring 6 rfl
            have hS116 := hS115.bring 6 rfl
            have hS117 := hS116.bring 6 rfl
            have hS118 := hS117.bring 6 rfl
            have hS119 := hS118.takeN 5
            obtain rfl := Option.some.inj h
            exact ge_nil fun a hF => hQ _ _ _ (Outs.again ⟨hS119, hF.weaken ⟨by kernel_rfl, by kernel_rfl, by kernel_rfl, by kernel_rfl, by kernel_rfl, by kernel_rfl, by kernel_rfl, trivial⟩⟩)
          · rw [if_neg hc28] at h
            refine we_known (t := 197) (b := !r7) (v := true) (by kernel_rfl) (congrArg (fun z => !z) (Bool.eq_false_iff.2 hc28)) ?_
            refine we_true (by kernel_rfl) ?_
            refine we_seq fun K54 hK54 => ?_
            refine we_region [(0, 0)] rfl ?_
            refine ge_batch [0] (ans := []) (vs := [(6, .bool false)]) (l := []) (by kernel_rfl) trivial ?_
            refine ge_nil fun a hF => hK54 _ _ ?_ a hF
            have hS120 := hS113.takeN 0
            obtain rfl := Option.some.inj h
            exact we_ret fun a hF => hQ _ _ _ (Outs.out nofun (Exits.on ⟨rfl, (post_ret (rs := [.tmp 6]) (ans := []) (vs := [.bool false]) (l := []) rfl (by kernel_rfl) trivial ⟨rfl, hS120⟩) a hF⟩))
        · rw [if_neg hc27] at h
          refine ge_known (t := 175) (b := decide (r3.1.Turned < 0)) (c := false) (by kernel_rfl) (decide_eq_false hc27) ?_
          refine ge_batch [4, 5, 6, 7, 8, 9, 10] (ans := [.val (.int .i64 r3.1.Turned), .val (.int .i64 e5.At), .val (.int .i64 e5.Task)]) (vs := [(182, .int .i64 e5.Task), (181, .pointer (some ⟨b6, 0, none⟩)), (180, (.slice Z1 r2.1.length cz1)), (179, .int .i64 e5.At), (178, .pointer (some ⟨b6, 1, none⟩)), (177, .int .i64 r3.1.Turned), (176, .pointer (some ⟨b4, 2, none⟩))]) (l := [.loaded ⟨b4, 2, none⟩ (.int .i64 r3.1.Turned), .loaded ⟨b6, 1, none⟩ (.int .i64 e5.At), .loaded ⟨b6, 0, none⟩ (.int .i64 e5.Task)]) (by kernel_rfl) ⟨hS111.cell 2 rfl rfl, hS111.cell 0 rfl rfl, hS111.cell 0 rfl rfl, trivial⟩ ?_
          rcases hx16 : r2.1[(e5.Task).toNat]? with _ | e10
          · rw [hx16] at h; cases h
          rw [hx16] at h
          simp only [] at h
          refine ge_index (d := 183) (ty := 0) (t := 24) (el := 3) (sz := 1) (m := r2.1.length) (c := cz1) (x := (.tmp 180)) (y := (.tmp 182)) (A := Z1) (k' := .i64) (j := e5.Task) (jn := ((e5.Task).toNat)) (b0 := blkOf Z1) (o0 := offOf Z1) (by kernel_rfl) (by kernel_rfl) (by kernel_rfl) (by kernel_rfl) (by kernel_rfl) ((hS111.rdAt 3 rfl).eqSome (pos_of_get hx16)) (Int.toNat_of_nonneg hc20).symm (lt_of_get hx16) ?_
          refine ge_batch [12, 13, 14, 15, 16] (ans := [.val (.int .i64 e10)]) (vs := [(188, .bool (decide (r3.1.Turned > (IntKind.i64.wrap (e5.At + e10))))), (187, .bool (decide (r3.1.Turned > (IntKind.i64.wrap (e5.At + e10))))), (186, .bool (decide (r3.1.Turned > (IntKind.i64.wrap (e5.At + e10))))), (185, .int .i64 (IntKind.i64.wrap (e5.At + e10))), (184, .int .i64 e10)]) (l := [.loaded ⟨blkOf Z1, offOf Z1 + ((e5.Task).toNat) * 1, none⟩ (.int .i64 e10)]) (by kernel_rfl) ⟨RdL.cell (j := 0) (hS111.rdAt 3 rfl) hx16 rfl, trivial⟩ ?_
          by_cases hc29 : r3.1.Turned > (IntKind.i64.wrap (e5.At + e10))
          · rw [if_pos hc29] at h
            refine ge_known (t := 188) (b := decide (r3.1.Turned > (IntKind.i64.wrap (e5.At + e10)))) (c := true) (by kernel_rfl) (decide_eq_true hc29) ?_
            refine ge_batch [17, 18, 19, 20] (ans := [.val (.int .i64 e5.Task)]) (vs := [(192, .int .i64 e5.Task), (191, .pointer (some ⟨b6, 0, none⟩)), (190, (.slice Z1 r2.1.length cz1)), (189, .func (.func 12) #[] #[.pointer (some ⟨b4, 0, none⟩), .pointer (some ⟨b5, 0, none⟩), .pointer (some ⟨b6, 0, none⟩)])]) (l := [.loaded ⟨b6, 0, none⟩ (.int .i64 e5.Task)]) (by kernel_rfl) ⟨hS111.cell 0 rfl rfl, trivial⟩ ?_
            refine ge_index (d := 193) (ty := 0) (t := 24) (el := 3) (sz := 1) (m := r2.1.length) (c := cz1) (x := (.tmp 190)) (y := (.tmp 192)) (A := Z1) (k' := .i64) (j := e5.Task) (jn := ((e5.Task).toNat)) (b0 := blkOf Z1) (o0 := offOf Z1) (by kernel_rfl) (by kernel_rfl) (by kernel_rfl) (by kernel_rfl) (by kernel_rfl) ((hS111.rdAt 3 rfl).eqSome (pos_of_get hx16)) (Int.toNat_of_nonneg hc20).symm (lt_of_get hx16) ?_
            rcases hq13 : ModesKeep_1.f e10 r3.1.Played.Runs r3.1.Played.Ends r3.1.Turned (i3 : Int) e5 with _ | r8
            · rw [hq13] at h; cases h
            rw [hq13] at h
            simp only [] at h
            refine ge_batch [22] (ans := [.val (.int .i64 e10)]) (vs := [(194, .int .i64 e10)]) (l := [.loaded ⟨blkOf Z1, offOf Z1 + ((e5.Task).toNat) * 1, none⟩ (.int .i64 e10)]) (by kernel_rfl) ⟨RdL.cell (j := 0) (hS111.rdAt 3 rfl) hx16 rfl, trivial⟩ ?_
            refine ge_call (d := some 195) (f := 12) (args := #[.int .i64 e10, .pointer (some ⟨b4, 0, none⟩), .pointer (some ⟨b5, 0, none⟩), .pointer (some ⟨b6, 0, none⟩)]) (by kernel_rfl) (ModesKeep_1_ok e10 b4 r3.1.Played.Runs Z3 cz3 r3.1.Played.Ends Z4 cz4 r3.1.Turned b5 (i3 : Int) b6 e5 _ (hS111.rdAt 5 rfl) (hS111.capAt 5 rfl) (hS111.rdAt 6 rfl) (hS111.capAt 6 rfl) (hS111.globOf 2 rfl) (hS111.globOf 1 rfl) (hS111.globOf 0 rfl) _ hq13) ?_
            rintro _ w26 ⟨rfl, hS121⟩
            refine ⟨_, rfl, hS121.below, ?_⟩
            have hS122 := hS111.call hS121
            refine ge_batch [24, 25] (ans := []) (vs := [(197, .bool (!r8)), (196, .bool (!r8))]) (l := []) (by kernel_rfl) trivial ?_
            refine ge_nil fun a hF => hK53 _ _ ?_ a hF
            by_cases hc30 : r8 = true
            · rw [if_pos hc30] at h
              refine we_known (t := 197) (b := !r8) (v := false) (by kernel_rfl) (congrArg (fun z => !z) hc30) ?_
              refine we_false (by kernel_rfl) ?_
              refine we_skip fun a hF => hK44 _ _ ?_ a hF
              refine we_region [(0, 0), (1, 0)] rfl ?_
              refine ge_addn (d := 198) (ty := 3) (x := (.tmp 144)) (y := (.const (.int .i64 1))) (t := 3) (t2 := 3) (k := .i64) (m := i3) (by kernel_rfl) (by kernel_rfl) (by kernel_rfl) (by have h0 := hR1.small; omega) ?_
              refine ge_batch [1] (ans := []) (vs := [(144, .int .i64 ((i3 + 1 : Nat) : Int))]) (l := []) (by kernel_rfl) trivial ?_
              have hS123 := hS122.bring 6 rfl
              have hS124 := hS123.bring 6 rfl
              have hS125 := hS124.bring 6 rfl
              have hS126 := hS125.bring 6 rfl
              have hS127 := hS126.bring 6 rfl
              have hS128 := hS127.takeN 5
              obtain rfl := Option.some.inj h
              exact ge_nil fun a hF => hQ _ _ _ (Outs.again ⟨hS128, hF.weaken ⟨by kernel_rfl, by kernel_rfl, by kernel_rfl, by kernel_rfl, by kernel_rfl, by kernel_rfl, by kernel_rfl, trivial⟩⟩)
            · rw [if_neg hc30] at h
              refine we_known (t := 197) (b := !r8) (v := true) (by kernel_rfl) (congrArg (fun z => !z) (Bool.eq_false_iff.2 hc30)) ?_
              refine we_true (by kernel_rfl) ?_
              refine we_seq fun K55 hK55 => ?_
              refine we_region [(0, 0)] rfl ?_
              refine ge_batch [0] (ans := []) (vs := [(6, .bool false)]) (l := []) (by kernel_rfl) trivial ?_
              refine ge_nil fun a hF => hK55 _ _ ?_ a hF
              have hS129 := hS122.takeN 0
              obtain rfl := Option.some.inj h
              exact we_ret fun a hF => hQ _ _ _ (Outs.out nofun (Exits.on ⟨rfl, (post_ret (rs := [.tmp 6]) (ans := []) (vs := [.bool false]) (l := []) rfl (by kernel_rfl) trivial ⟨rfl, hS129⟩) a hF⟩))
          · rw [if_neg hc29] at h
            refine ge_known (t := 188) (b := decide (r3.1.Turned > (IntKind.i64.wrap (e5.At + e10)))) (c := false) (by kernel_rfl) (decide_eq_false hc29) ?_
            refine ge_batch [17, 18, 19, 20, 21, 22] (ans := []) (vs := [(194, undef), (193, undef), (192, undef), (191, undef), (190, undef), (189, undef)]) (l := []) (by kernel_rfl) trivial ?_
            refine ge_off rfl rfl rfl (by kernel_rfl) ?_
            refine ge_batch [24, 25] (ans := []) (vs := [(197, .bool false), (196, undef)]) (l := []) (by kernel_rfl) trivial ?_
            refine ge_nil fun a hF => hK53 _ _ ?_ a hF
            refine we_false (by kernel_rfl) ?_
            refine we_skip fun a hF => hK44 _ _ ?_ a hF
            refine we_region [(0, 0), (1, 0)] rfl ?_
            refine ge_addn (d := 198) (ty := 3) (x := (.tmp 144)) (y := (.const (.int .i64 1))) (t := 3) (t2 := 3) (k := .i64) (m := i3) (by kernel_rfl) (by kernel_rfl) (by kernel_rfl) (by have h0 := hR1.small; omega) ?_
            refine ge_batch [1] (ans := []) (vs := [(144, .int .i64 ((i3 + 1 : Nat) : Int))]) (l := []) (by kernel_rfl) trivial ?_
            have hS130 := hS111.bring 6 rfl
            have hS131 := hS130.bring 6 rfl
            have hS132 := hS131.bring 6 rfl
            have hS133 := hS132.bring 6 rfl
            have hS134 := hS133.bring 6 rfl
            have hS135 := hS134.takeN 5
            obtain rfl := Option.some.inj h
            exact ge_nil fun a hF => hQ _ _ _ (Outs.again ⟨hS135, hF.weaken ⟨by kernel_rfl, by kernel_rfl, by kernel_rfl, by kernel_rfl, by kernel_rfl, by kernel_rfl, by kernel_rfl, trivial⟩⟩)
    · rw [if_neg hc20] at h
      cases h
  · rw [if_neg hc19] at h
    refine we_known (t := 145) (b := decide ((i3 : Int) < (l1.length : Int))) (v := false) (by kernel_rfl) (decide_eq_false hc19) ?_
    refine we_false (by kernel_rfl) ?_
    have hS136 := hS.takeN 0
    obtain rfl := Option.some.inj h
    exact we_exit fun a hF => hQ _ _ _ (Outs.out nofun (Exits.here ⟨hS136, hF.weaken trivial⟩))
abbrev ModesKeep.A5 (K : Nat) (w0 : World) (l0 : List SCrit) (A0 : Option Addr) (c0 : Nat) (l1 : List SCome) (A1 : Option Addr) (c1 : Nat) (l2 : List Int) (A2 : Option Addr) (c2 : Nat) (hR0 : RdL w0 A0 l0) (hL0 : l0.length ≤ c0) (hR1 : RdL w0 A1 l1) (hL1 : l1.length ≤ c1) (hR2 : RdL w0 A2 l2) (hL2 : l2.length ≤ c2) (r1 : Bool) (hc1 : r1 = true) (r2 : (List Int) × (List Int) × SFault) (b1 : Nat) (hc4 : r2.2.2.Code = 0) (Z1 : Option Addr) (cz1 : Nat) (Z2 : Option Addr) (cz2 : Nat) (z3 : Int) (hc16 : ¬ (z3 > 3000)) (r3 : SModal × SFault) (b4 : Nat) (Z3 : Option Addr) (cz3 : Nat) (Z4 : Option Addr) (cz4 : Nat) (hc17 : ¬ (r3.2.Code = 0)) : Bool → Act → World → Prop := fun (s : Bool) a w => St w0 w [] ∧ Frm 199 a [(6, .bool s)]
abbrev ModesKeep.B5 (K : Nat) (w0 : World) (l0 : List SCrit) (A0 : Option Addr) (c0 : Nat) (l1 : List SCome) (A1 : Option Addr) (c1 : Nat) (l2 : List Int) (A2 : Option Addr) (c2 : Nat) (hR0 : RdL w0 A0 l0) (hL0 : l0.length ≤ c0) (hR1 : RdL w0 A1 l1) (hL1 : l1.length ≤ c1) (hR2 : RdL w0 A2 l2) (hL2 : l2.length ≤ c2) (r1 : Bool) (hc1 : r1 = true) (r2 : (List Int) × (List Int) × SFault) (b1 : Nat) (hc4 : r2.2.2.Code = 0) (Z1 : Option Addr) (cz1 : Nat) (Z2 : Option Addr) (cz2 : Nat) (z3 : Int) (hc16 : ¬ (z3 > 3000)) (r3 : SModal × SFault) (b4 : Nat) (Z3 : Option Addr) (cz3 : Nat) (Z4 : Option Addr) (cz4 : Nat) (hc17 : ¬ (r3.2.Code = 0)) : Bool → Exit → Act → World → Prop := Rets Try.prog Try.f3 (ModesKeep.Post w0)
theorem ModesKeep_p5 (K : Nat) (w0 : World) (l0 : List SCrit) (A0 : Option Addr) (c0 : Nat) (l1 : List SCome) (A1 : Option Addr) (c1 : Nat) (l2 : List Int) (A2 : Option Addr) (c2 : Nat) (hR0 : RdL w0 A0 l0) (hL0 : l0.length ≤ c0) (hR1 : RdL w0 A1 l1) (hL1 : l1.length ≤ c1) (hR2 : RdL w0 A2 l2) (hL2 : l2.length ≤ c2) (r1 : Bool) (hc1 : r1 = true) (r2 : (List Int) × (List Int) × SFault) (b1 : Nat) (hc4 : r2.2.2.Code = 0) (Z1 : Option Addr) (cz1 : Nat) (Z2 : Option Addr) (cz2 : Nat) (z3 : Int) (hc16 : ¬ (z3 > 3000)) (r3 : SModal × SFault) (b4 : Nat) (Z3 : Option Addr) (cz3 : Nat) (Z4 : Option Addr) (cz4 : Nat) (hc17 : ¬ (r3.2.Code = 0)) (o : Bool ⊕ Bool) (h : ModesKeep.p5 r3 = some o) (w : World) (hS : St w0 w [Own.blk b1 (.cells #[.int .i64 r3.2.Code, .int .i64 r3.2.At] 29 (0, 0)), Own.blk b4 (.cells #[(.slice Z3 r3.1.Played.Runs.length cz3), (.slice Z4 r3.1.Played.Ends.length cz4), .int .i64 r3.1.Turned] 39 (0, 0)), Own.of (.slice Z3 r3.1.Played.Runs.length cz3) 3 r3.1.Played.Runs, Own.of (.slice Z4 r3.1.Played.Ends.length cz4) 3 r3.1.Played.Ends, Own.of (.slice Z1 r2.1.length cz1) 3 r2.1, Own.of (.slice Z2 r2.2.1.length cz2) 3 r2.2.1]) (Q : Exit → Act → World → Prop) (hQ : ∀ x a w, Outs (ModesKeep.A5 K w0 l0 A0 c0 l1 A1 c1 l2 A2 c2 hR0 hL0 hR1 hL1 hR2 hL2 r1 hc1 r2 b1 hc4 Z1 cz1 Z2 cz2 z3 hc16 r3 b4 Z3 cz3 Z4 cz4 hc17) (ModesKeep.B5 K w0 l0 A0 c0 l1 A1 c1 l2 A2 c2 hR0 hL0 hR1 hL1 hR2 hL2 r1 hc1 r2 b1 hc4 Z1 cz1 Z2 cz2 z3 hc16 r3 b4 Z3 cz3 Z4 cz4 hc17) o x a w → Q x a w) : WE Try.prog 199 (subF Try.f3 [1, 1, 1, 1, 1, 1, 1, 1, 1, 0, 1, 0, 0]) Q [(0, .slice A0 l0.length c0), (1, .slice A1 l1.length c1), (2, .slice A2 l2.length c2), (7, (.slice Z1 r2.1.length cz1)), (8, (.slice Z2 r2.2.1.length cz2)), (9, .pointer (some ⟨b1, 0, none⟩)), (10, .int .i64 z3), (15, .pointer (some ⟨b4, 0, none⟩)), (114, .int .i64 z3), (115, .bool false), (116, .tuple #[.agg #[(.slice Z3 r3.1.Played.Runs.length cz3), (.slice Z4 r3.1.Played.Ends.length cz4), .int .i64 r3.1.Turned], .agg #[.int .i64 r3.2.Code, .int .i64 r3.2.At]]), (117, .slice A0 l0.length c0), (118, .slice A1 l1.length c1), (119, .slice A2 l2.length c2), (120, .int .i64 z3), (121, .tuple #[.agg #[(.slice Z3 r3.1.Played.Runs.length cz3), (.slice Z4 r3.1.Played.Ends.length cz4), .int .i64 r3.1.Turned], .agg #[.int .i64 r3.2.Code, .int .i64 r3.2.At]]), (122, .agg #[(.slice Z3 r3.1.Played.Runs.length cz3), (.slice Z4 r3.1.Played.Ends.length cz4), .int .i64 r3.1.Turned]), (123, .agg #[.int .i64 r3.2.Code, .int .i64 r3.2.At]), (124, .pointer (some ⟨b1, 0, none⟩)), (125, .int .i64 r3.2.Code), (126, .bool true)] w := by
  simp only [ModesKeep.p5] at h
  refine we_region [(0, 0), (1, 0), (2, 0), (3, 0), (4, 0), (5, 0), (6, 0), (7, 0), (8, 0)] rfl ?_
  refine ge_batch [0, 1, 2, 3] (ans := [.val (.int .i64 r3.2.Code)]) (vs := [(130, .bool (r3.2.Code == 2)), (129, .bool (r3.2.Code == 2)), (128, .int .i64 r3.2.Code), (127, .pointer (some ⟨b1, 0, none⟩))]) (l := [.loaded ⟨b1, 0, none⟩ (.int .i64 r3.2.Code)]) (by kernel_rfl) ⟨hS.cell 0 rfl rfl, trivial⟩ ?_
  by_cases hc31 : r3.2.Code = 2
  · rw [if_pos hc31] at h
    refine ge_known (t := 130) (b := (r3.2.Code == 2)) (c := true) (by kernel_rfl) (beq_iff_eq.2 hc31) ?_
    refine ge_batch [4, 5, 6, 7, 8] (ans := []) (vs := [(6, .bool true), (134, .bool true), (133, undef), (132, undef), (131, undef)]) (l := []) (by kernel_rfl) trivial ?_
    have hS139 := hS.takeN 0
    obtain rfl := Option.some.inj h
    exact ge_nil fun a hF => hQ _ _ _ (Outs.again ⟨hS139, hF.weaken ⟨by kernel_rfl, trivial⟩⟩)
  · rw [if_neg hc31] at h
    refine ge_known (t := 130) (b := (r3.2.Code == 2)) (c := false) (by kernel_rfl) (beq_eq_false_iff_ne.2 hc31) ?_
    refine ge_batch [4, 5, 6, 7, 8] (ans := [.val (.int .i64 r3.2.Code)]) (vs := [(6, .bool (r3.2.Code == 3)), (134, .bool (r3.2.Code == 3)), (133, .bool (r3.2.Code == 3)), (132, .int .i64 r3.2.Code), (131, .pointer (some ⟨b1, 0, none⟩))]) (l := [.loaded ⟨b1, 0, none⟩ (.int .i64 r3.2.Code)]) (by kernel_rfl) ⟨hS.cell 0 rfl rfl, trivial⟩ ?_
    have hS140 := hS.takeN 0
    obtain rfl := Option.some.inj h
    exact ge_nil fun a hF => hQ _ _ _ (Outs.again ⟨hS140, hF.weaken ⟨by kernel_rfl, trivial⟩⟩)
abbrev ModesKeep.A6 (K : Nat) (w0 : World) (l0 : List SCrit) (A0 : Option Addr) (c0 : Nat) (l1 : List SCome) (A1 : Option Addr) (c1 : Nat) (l2 : List Int) (A2 : Option Addr) (c2 : Nat) (hR0 : RdL w0 A0 l0) (hL0 : l0.length ≤ c0) (hR1 : RdL w0 A1 l1) (hL1 : l1.length ≤ c1) (hR2 : RdL w0 A2 l2) (hL2 : l2.length ≤ c2) (r1 : Bool) (hc1 : r1 = true) (r2 : (List Int) × (List Int) × SFault) (b1 : Nat) (hc4 : ¬ (r2.2.2.Code = 0)) (Z5 : Option Addr) (cz5 : Nat) (Z6 : Option Addr) (cz6 : Nat) : Bool → Act → World → Prop := fun (s : Bool) a w => St w0 w [] ∧ Frm 199 a [(6, .bool s)]
abbrev ModesKeep.B6 (K : Nat) (w0 : World) (l0 : List SCrit) (A0 : Option Addr) (c0 : Nat) (l1 : List SCome) (A1 : Option Addr) (c1 : Nat) (l2 : List Int) (A2 : Option Addr) (c2 : Nat) (hR0 : RdL w0 A0 l0) (hL0 : l0.length ≤ c0) (hR1 : RdL w0 A1 l1) (hL1 : l1.length ≤ c1) (hR2 : RdL w0 A2 l2) (hL2 : l2.length ≤ c2) (r1 : Bool) (hc1 : r1 = true) (r2 : (List Int) × (List Int) × SFault) (b1 : Nat) (hc4 : ¬ (r2.2.2.Code = 0)) (Z5 : Option Addr) (cz5 : Nat) (Z6 : Option Addr) (cz6 : Nat) : Bool → Exit → Act → World → Prop := Rets Try.prog Try.f3 (ModesKeep.Post w0)
theorem ModesKeep_p6 (K : Nat) (w0 : World) (l0 : List SCrit) (A0 : Option Addr) (c0 : Nat) (l1 : List SCome) (A1 : Option Addr) (c1 : Nat) (l2 : List Int) (A2 : Option Addr) (c2 : Nat) (hR0 : RdL w0 A0 l0) (hL0 : l0.length ≤ c0) (hR1 : RdL w0 A1 l1) (hL1 : l1.length ≤ c1) (hR2 : RdL w0 A2 l2) (hL2 : l2.length ≤ c2) (r1 : Bool) (hc1 : r1 = true) (r2 : (List Int) × (List Int) × SFault) (b1 : Nat) (hc4 : ¬ (r2.2.2.Code = 0)) (Z5 : Option Addr) (cz5 : Nat) (Z6 : Option Addr) (cz6 : Nat) (o : Bool ⊕ Bool) (h : ModesKeep.p6 r2 = some o) (w : World) (hS : St w0 w [Own.blk b1 (.cells #[.int .i64 r2.2.2.Code, .int .i64 r2.2.2.At] 29 (0, 0)), Own.of (.slice Z5 r2.1.length cz5) 3 r2.1, Own.of (.slice Z6 r2.2.1.length cz6) 3 r2.2.1]) (Q : Exit → Act → World → Prop) (hQ : ∀ x a w, Outs (ModesKeep.A6 K w0 l0 A0 c0 l1 A1 c1 l2 A2 c2 hR0 hL0 hR1 hL1 hR2 hL2 r1 hc1 r2 b1 hc4 Z5 cz5 Z6 cz6) (ModesKeep.B6 K w0 l0 A0 c0 l1 A1 c1 l2 A2 c2 hR0 hL0 hR1 hL1 hR2 hL2 r1 hc1 r2 b1 hc4 Z5 cz5 Z6 cz6) o x a w → Q x a w) : WE Try.prog 199 (subF Try.f3 [1, 1, 1, 1, 0, 1, 0, 0]) Q [(0, .slice A0 l0.length c0), (1, .slice A1 l1.length c1), (2, .slice A2 l2.length c2), (7, (.slice Z5 r2.1.length cz5)), (8, (.slice Z6 r2.2.1.length cz6)), (9, .pointer (some ⟨b1, 0, none⟩)), (30, .tuple #[(.slice Z5 r2.1.length cz5), (.slice Z6 r2.2.1.length cz6), .agg #[.int .i64 r2.2.2.Code, .int .i64 r2.2.2.At]]), (31, .slice A0 l0.length c0), (32, .tuple #[(.slice Z5 r2.1.length cz5), (.slice Z6 r2.2.1.length cz6), .agg #[.int .i64 r2.2.2.Code, .int .i64 r2.2.2.At]]), (33, (.slice Z5 r2.1.length cz5)), (34, (.slice Z6 r2.2.1.length cz6)), (35, .agg #[.int .i64 r2.2.2.Code, .int .i64 r2.2.2.At]), (36, .pointer (some ⟨b1, 0, none⟩)), (37, .int .i64 r2.2.2.Code), (38, .bool true)] w := by
  simp only [ModesKeep.p6] at h
  refine we_region [(0, 0), (1, 0), (2, 0), (3, 0), (4, 0), (5, 0), (6, 0), (7, 0), (8, 0)] rfl ?_
  refine ge_batch [0, 1, 2, 3] (ans := []) (vs := [(42, .bool ((r2.1.length : Int) == 0)), (41, .bool ((r2.1.length : Int) == 0)), (40, .int .i64 (r2.1.length : Int)), (39, (.slice Z5 r2.1.length cz5))]) (l := []) (by kernel_rfl) trivial ?_
  by_cases hc32 : (r2.1.length : Int) = 0
  · rw [if_pos hc32] at h
    refine ge_known (t := 42) (b := ((r2.1.length : Int) == 0)) (c := true) (by kernel_rfl) (beq_iff_eq.2 hc32) ?_
    refine ge_batch [4, 5, 6, 7, 8] (ans := []) (vs := [(6, .bool ((r2.2.1.length : Int) == 0)), (46, .bool ((r2.2.1.length : Int) == 0)), (45, .bool ((r2.2.1.length : Int) == 0)), (44, .int .i64 (r2.2.1.length : Int)), (43, (.slice Z6 r2.2.1.length cz6))]) (l := []) (by kernel_rfl) trivial ?_
    have hS142 := hS.takeN 0
    obtain rfl := Option.some.inj h
    exact ge_nil fun a hF => hQ _ _ _ (Outs.again ⟨hS142, hF.weaken ⟨by kernel_rfl, trivial⟩⟩)
  · rw [if_neg hc32] at h
    refine ge_known (t := 42) (b := ((r2.1.length : Int) == 0)) (c := false) (by kernel_rfl) (beq_eq_false_iff_ne.2 hc32) ?_
    refine ge_batch [4, 5, 6, 7, 8] (ans := []) (vs := [(6, .bool false), (46, .bool false), (45, undef), (44, undef), (43, undef)]) (l := []) (by kernel_rfl) trivial ?_
    have hS143 := hS.takeN 0
    obtain rfl := Option.some.inj h
    exact ge_nil fun a hF => hQ _ _ _ (Outs.again ⟨hS143, hF.weaken ⟨by kernel_rfl, trivial⟩⟩)
theorem ModesKeep_ok (K : Nat) (l0 : List SCrit) (A0 : Option Addr) (c0 : Nat) (l1 : List SCome) (A1 : Option Addr) (c1 : Nat) (l2 : List Int) (A2 : Option Addr) (c2 : Nat) (w0 : World) (hR0 : RdL w0 A0 l0) (hL0 : l0.length ≤ c0) (hR1 : RdL w0 A1 l1) (hL1 : l1.length ≤ c1) (hR2 : RdL w0 A2 l2) (hL2 : l2.length ≤ c2) (r : Bool) (h : ModesKeep.f K l0 l1 l2 = some r) :
    Calls Try.prog 3 #[.slice A0 l0.length c0, .slice A1 l1.length c1, .slice A2 l2.length c2] w0 (ModesKeep.Post w0 r) := by
  have hS := St.start w0
  unfold ModesKeep.f at h
  refine calls_enter (n := 199) (args := [.slice A0 l0.length c0, .slice A1 l1.length c1, .slice A2 l2.length c2]) (fn := Try.f3) rfl rfl rfl rfl ?_
  show WE _ _ _ _ [(0, .slice A0 l0.length c0), (1, .slice A1 l1.length c1), (2, .slice A2 l2.length c2)] _
  refine we_seq fun K1 hK1 => ?_
  refine we_region [(0, 0)] rfl ?_
  refine ge_batch [0] (ans := []) (vs := [(6, .bool false)]) (l := []) (by kernel_rfl) trivial ?_
  refine ge_nil fun a hF => hK1 _ _ ?_ a hF
  refine we_seq fun K2 hK2 => ?_
  refine we_seq fun K3 hK3 => ?_
  refine we_region [(0, 1), (1, 0)] rfl ?_
  rcases hq1 : turns.f K with _ | r1
  · rw [hq1] at h; cases h
  rw [hq1] at h
  simp only [] at h
  refine ge_call (d := some 19) (f := 8) (args := #[]) (by kernel_rfl) (turns_ok K _ _ hq1) ?_
  rintro _ w1 ⟨rfl, hS1⟩
  refine ⟨_, rfl, hS1.below, ?_⟩
  have hS2 := hS.call hS1
  refine ge_batch [1] (ans := []) (vs := [(20, .bool (!r1))]) (l := []) (by kernel_rfl) trivial ?_
  refine ge_nil fun a hF => hK3 _ _ ?_ a hF
  by_cases hc1 : r1 = true
  · rw [if_pos hc1] at h
    refine we_known (t := 20) (b := !r1) (v := false) (by kernel_rfl) (congrArg (fun z => !z) hc1) ?_
    refine we_false (by kernel_rfl) ?_
    refine we_skip fun a hF => hK2 _ _ ?_ a hF
    refine we_seq fun K4 hK4 => ?_
    rcases hq3 : ModesKeep.p0 l0 l1 with _ | (_ | rr7)
    · rw [hq3] at h; cases h
    · rw [hq3] at h
      simp only [] at h
      refine we_keep (e' := [(0, .slice A0 l0.length c0), (1, .slice A1 l1.length c1), (2, .slice A2 l2.length c2), (6, .bool false), (19, .bool r1), (20, .bool false)]) ⟨by kernel_rfl, by kernel_rfl, by kernel_rfl, by kernel_rfl, by kernel_rfl, by kernel_rfl, trivial⟩ (ModesKeep_p0 K w0 l0 A0 c0 l1 A1 c1 l2 A2 c2 hR0 hL0 hR1 hL1 hR2 hL2 r1 hc1 _ hq3 _ hS2 _ ?_)
      rintro _ a w3 ⟨rfl, hS5, hF⟩
      replace hS5 : St w0 w3 [] := hS5
      refine hK4 [(0, .slice A0 l0.length c0), (1, .slice A1 l1.length c1), (2, .slice A2 l2.length c2)] w3 ?_ a hF
      refine we_seq fun K8 hK8 => ?_
      refine we_region [(0, 0), (1, 1), (2, 0), (3, 0), (4, 0), (5, 0), (6, 1), (7, 0), (8, 0), (9, 2)] rfl ?_
      rcases hq4 : modes_Responses.f K l0 with _ | r2
      · rw [hq4] at h; cases h
      rw [hq4] at h
      simp only [] at h
      refine ge_batch [0] (ans := []) (vs := [(31, .slice A0 l0.length c0)]) (l := []) (by kernel_rfl) trivial ?_
      refine ge_call (d := some 32) (f := 10) (args := #[.slice A0 l0.length c0]) (by kernel_rfl) (modes_Responses_ok K l0 A0 c0 _ (hS5.rd hR0) hL0 _ hq4) ?_
      rintro _ w4 ⟨v1, v2, rfl, hS6⟩
      refine ⟨_, rfl, hS6.below, ?_⟩
      have hS7 := hS5.call hS6
      refine ge_batch [2, 3, 4, 5] (ans := []) (vs := [(35, .agg #[.int .i64 r2.2.2.Code, .int .i64 r2.2.2.At]), (34, v2), (33, v1), (30, .tuple #[v1, v2, .agg #[.int .i64 r2.2.2.Code, .int .i64 r2.2.2.At]])]) (l := []) (by kernel_rfl) trivial ?_
      refine ge_new (d := some 9) (o := .cells #[.int .i64 0, .int .i64 0] 29) (v := fun b => .pointer (some ⟨b, 0, none⟩)) hS7 (fun b => by kernel_rfl) fun b1 w5 hx1 hS8 => ?_
      refine ge_batch [7, 8] (ans := []) (vs := [(8, v2), (7, v1)]) (l := []) (by kernel_rfl) trivial ?_
      refine ge_set (b := b1) (j := 0) (cs := #[.int .i64 0, .int .i64 0]) (t := 29) (vs := [.int .i64 r2.2.2.Code, .int .i64 r2.2.2.At]) hS8 (by kernel_rfl) rfl rfl fun w6 hS9 => ?_
      have hS10 : St w0 w6 [Own.blk b1 (.cells #[.int .i64 r2.2.2.Code, .int .i64 r2.2.2.At] 29 (0, 0)), Own.of v1 3 r2.1, Own.of v2 3 r2.2.1] := hS9
      refine ge_nil fun a hF => hK8 _ _ ?_ a hF
      refine we_seq fun K9 hK9 => ?_
      refine we_seq fun K10 hK10 => ?_
      refine we_region [(0, 0), (1, 0), (2, 0)] rfl ?_
      refine ge_batch [0, 1, 2] (ans := [.val (.int .i64 r2.2.2.Code)]) (vs := [(38, .bool (r2.2.2.Code != 0)), (37, .int .i64 r2.2.2.Code), (36, .pointer (some ⟨b1, 0, none⟩))]) (l := [.loaded ⟨b1, 0, none⟩ (.int .i64 r2.2.2.Code)]) (by kernel_rfl) ⟨hS10.cell 0 rfl rfl, trivial⟩ ?_
      refine ge_nil fun a hF => hK10 _ _ ?_ a hF
      by_cases hc4 : r2.2.2.Code = 0
      · rw [if_pos hc4] at h
        refine we_known (t := 38) (b := (r2.2.2.Code != 0)) (v := false) (by kernel_rfl) (bne_eq_false_iff_eq.2 hc4) ?_
        refine we_false (by kernel_rfl) ?_
        refine we_skip fun a hF => hK9 _ _ ?_ a hF
        refine we_seq fun K11 hK11 => ?_
        refine we_region [(0, 0)] rfl ?_
        refine ge_batch [0] (ans := []) (vs := [(10, .int .i64 0)]) (l := []) (by kernel_rfl) trivial ?_
        refine ge_nil fun a hF => hK11 _ _ ?_ a hF
        refine we_seq fun K12 hK12 => ?_
        refine we_seq fun K13 hK13 => ?_
        refine we_region [(0, 0), (1, 0), (2, 0)] rfl ?_
        refine ge_batch [0, 1, 2] (ans := []) (vs := [(49, .int .i64 0), (48, .int .i64 (l1.length : Int)), (47, .slice A1 l1.length c1)]) (l := []) (by kernel_rfl) trivial ?_
        refine ge_nil fun a hF => hK13 _ _ ?_ a hF
        refine we_block ?_
        obtain ⟨Z1, cz1, rfl⟩ := hS10.open 1 rfl
        obtain ⟨Z2, cz2, rfl⟩ := hS10.open 2 rfl
        have hS11 := hS10.bring 2 rfl
        have hS12 := hS11.bring 2 rfl
        have hS13 := hS12.bring 2 rfl
        rcases hq7 : iter (ModesKeep.r1 K l0 l1) K (0, 0) with _ | (z3 | rr5)
        · rw [hq7] at h; cases h
        · rw [hq7] at h
          simp only [] at h
          refine we_iter (A := ModesKeep.A1 K w0 l0 A0 c0 l1 A1 c1 l2 A2 c2 hR0 hL0 hR1 hL1 hR2 hL2 r1 hc1 r2 b1 hc4 Z1 cz1 Z2 cz2) (B := ModesKeep.B1 K w0 l0 A0 c0 l1 A1 c1 l2 A2 c2 hR0 hL0 hR1 hL1 hR2 hL2 r1 hc1 r2 b1 hc4 Z1 cz1 Z2 cz2) hq7 (fun a hF => ⟨hS13, hF.weaken ⟨by kernel_rfl, by kernel_rfl, by kernel_rfl, by kernel_rfl, by kernel_rfl, by kernel_rfl, by kernel_rfl, by kernel_rfl, by kernel_rfl, by kernel_rfl, trivial⟩⟩) (fun s o hf a w hA Q hQ => ModesKeep_r1 K w0 l0 A0 c0 l1 A1 c1 l2 A2 c2 hR0 hL0 hR1 hL1 hR2 hL2 r1 hc1 r2 b1 hc4 Z1 cz1 Z2 cz2 s o hf a w hA Q hQ) ?_
          rintro _ a w13 _ ⟨rfl, hS58, hF⟩
          replace hS58 : St w0 w13 [Own.blk b1 (.cells #[.int .i64 r2.2.2.Code, .int .i64 r2.2.2.At] 29 (0, 0)), Own.of (.slice Z1 r2.1.length cz1) 3 r2.1, Own.of (.slice Z2 r2.2.1.length cz2) 3 r2.2.1] := hS58
          refine hK12 [(0, .slice A0 l0.length c0), (1, .slice A1 l1.length c1), (2, .slice A2 l2.length c2), (7, (.slice Z1 r2.1.length cz1)), (8, (.slice Z2 r2.2.1.length cz2)), (9, .pointer (some ⟨b1, 0, none⟩)), (10, .int .i64 z3)] w13 ?_ a hF
          refine we_seq fun K32 hK32 => ?_
          refine we_seq fun K33 hK33 => ?_
          refine we_region [(0, 0), (1, 0)] rfl ?_
          refine ge_batch [0, 1] (ans := []) (vs := [(115, .bool (decide (z3 > 3000))), (114, .int .i64 z3)]) (l := []) (by kernel_rfl) trivial ?_
          refine ge_nil fun a hF => hK33 _ _ ?_ a hF
          by_cases hc16 : z3 > 3000
          · rw [if_pos hc16] at h
            refine we_known (t := 115) (b := decide (z3 > 3000)) (v := true) (by kernel_rfl) (decide_eq_true hc16) ?_
            refine we_true (by kernel_rfl) ?_
            refine we_seq fun K34 hK34 => ?_
            refine we_region [(0, 0)] rfl ?_
            refine ge_batch [0] (ans := []) (vs := [(6, .bool true)]) (l := []) (by kernel_rfl) trivial ?_
            refine ge_nil fun a hF => hK34 _ _ ?_ a hF
            have hS59 := hS58.takeN 0
            obtain rfl := Option.some.inj h
            exact we_ret (post_ret (rs := [.tmp 6]) (ans := []) (vs := [.bool true]) (l := []) rfl (by kernel_rfl) trivial ⟨rfl, hS59⟩)
          · rw [if_neg hc16] at h
            refine we_known (t := 115) (b := decide (z3 > 3000)) (v := false) (by kernel_rfl) (decide_eq_false hc16) ?_
            refine we_false (by kernel_rfl) ?_
            refine we_skip fun a hF => hK32 _ _ ?_ a hF
            refine we_seq fun K35 hK35 => ?_
            refine we_region [(0, 0), (1, 0), (2, 0), (3, 0), (4, 1), (5, 0), (6, 0), (7, 0), (8, 1), (9, 2), (10, 2)] rfl ?_
            rcases hq8 : modes_Play.f K l0 l1 l2 z3 with _ | r3
            · rw [hq8] at h; cases h
            rw [hq8] at h
            simp only [] at h
            refine ge_batch [0, 1, 2, 3] (ans := []) (vs := [(120, .int .i64 z3), (119, .slice A2 l2.length c2), (118, .slice A1 l1.length c1), (117, .slice A0 l0.length c0)]) (l := []) (by kernel_rfl) trivial ?_
            refine ge_call (d := some 121) (f := 11) (args := #[.slice A0 l0.length c0, .slice A1 l1.length c1, .slice A2 l2.length c2, .int .i64 z3]) (by kernel_rfl) (modes_Play_ok K l0 A0 c0 l1 A1 c1 l2 A2 c2 z3 _ (hS58.rd hR0) hL0 (hS58.rd hR1) hL1 (hS58.rd hR2) hL2 _ hq8) ?_
            rintro _ w14 ⟨v3, v4, rfl, hS60⟩
            refine ⟨_, rfl, hS60.below, ?_⟩
            have hS61 := hS58.call hS60
            refine ge_batch [5, 6, 7] (ans := []) (vs := [(123, .agg #[.int .i64 r3.2.Code, .int .i64 r3.2.At]), (122, .agg #[v3, v4, .int .i64 r3.1.Turned]), (116, .tuple #[.agg #[v3, v4, .int .i64 r3.1.Turned], .agg #[.int .i64 r3.2.Code, .int .i64 r3.2.At]])]) (l := []) (by kernel_rfl) trivial ?_
            refine ge_new (d := some 15) (o := .cells #[.slice none 0 0, .slice none 0 0, .int .i64 0] 39) (v := fun b => .pointer (some ⟨b, 0, none⟩)) hS61 (fun b => by kernel_rfl) fun b4 w15 hx8 hS62 => ?_
            obtain ⟨Z3, cz3, rfl⟩ := hS62.open 1 rfl
            obtain ⟨Z4, cz4, rfl⟩ := hS62.open 2 rfl
            refine ge_set (b := b4) (j := 0) (cs := #[.slice none 0 0, .slice none 0 0, .int .i64 0]) (t := 39) (vs := [(.slice Z3 r3.1.Played.Runs.length cz3), (.slice Z4 r3.1.Played.Ends.length cz4), .int .i64 r3.1.Turned]) hS62 (by kernel_rfl) rfl rfl fun w16 hS63 => ?_
            have hS64 : St w0 w16 [Own.blk b4 (.cells #[(.slice Z3 r3.1.Played.Runs.length cz3), (.slice Z4 r3.1.Played.Ends.length cz4), .int .i64 r3.1.Turned] 39 (0, 0)), Own.of (.slice Z3 r3.1.Played.Runs.length cz3) 3 r3.1.Played.Runs, Own.of (.slice Z4 r3.1.Played.Ends.length cz4) 3 r3.1.Played.Ends, Own.blk b1 (.cells #[.int .i64 r2.2.2.Code, .int .i64 r2.2.2.At] 29 (0, 0)), Own.of (.slice Z1 r2.1.length cz1) 3 r2.1, Own.of (.slice Z2 r2.2.1.length cz2) 3 r2.2.1] := hS63
            have hS65 := hS64.bring 3 rfl
            refine ge_set (b := b1) (j := 0) (cs := #[.int .i64 r2.2.2.Code, .int .i64 r2.2.2.At]) (t := 29) (vs := [.int .i64 r3.2.Code, .int .i64 r3.2.At]) hS65 (by kernel_rfl) rfl rfl fun w17 hS66 => ?_
            have hS67 : St w0 w17 [Own.blk b1 (.cells #[.int .i64 r3.2.Code, .int .i64 r3.2.At] 29 (0, 0)), Own.blk b4 (.cells #[(.slice Z3 r3.1.Played.Runs.length cz3), (.slice Z4 r3.1.Played.Ends.length cz4), .int .i64 r3.1.Turned] 39 (0, 0)), Own.of (.slice Z3 r3.1.Played.Runs.length cz3) 3 r3.1.Played.Runs, Own.of (.slice Z4 r3.1.Played.Ends.length cz4) 3 r3.1.Played.Ends, Own.of (.slice Z1 r2.1.length cz1) 3 r2.1, Own.of (.slice Z2 r2.2.1.length cz2) 3 r2.2.1] := hS66
            refine ge_nil fun a hF => hK35 _ _ ?_ a hF
            refine we_seq fun K36 hK36 => ?_
            refine we_seq fun K37 hK37 => ?_
            refine we_region [(0, 0), (1, 0), (2, 0)] rfl ?_
            refine ge_batch [0, 1, 2] (ans := [.val (.int .i64 r3.2.Code)]) (vs := [(126, .bool (r3.2.Code != 0)), (125, .int .i64 r3.2.Code), (124, .pointer (some ⟨b1, 0, none⟩))]) (l := [.loaded ⟨b1, 0, none⟩ (.int .i64 r3.2.Code)]) (by kernel_rfl) ⟨hS67.cell 0 rfl rfl, trivial⟩ ?_
            refine ge_nil fun a hF => hK37 _ _ ?_ a hF
            by_cases hc17 : r3.2.Code = 0
            · rw [if_pos hc17] at h
              refine we_known (t := 126) (b := (r3.2.Code != 0)) (v := false) (by kernel_rfl) (bne_eq_false_iff_eq.2 hc17) ?_
              refine we_false (by kernel_rfl) ?_
              refine we_skip fun a hF => hK36 _ _ ?_ a hF
              refine we_seq fun K38 hK38 => ?_
              refine we_seq fun K39 hK39 => ?_
              refine we_region [(0, 0), (1, 0), (2, 0), (3, 0), (4, 0), (5, 0), (6, 0)] rfl ?_
              refine ge_batch [0, 1, 2, 3, 4, 5, 6] (ans := [.val ((.slice Z4 r3.1.Played.Ends.length cz4))]) (vs := [(141, .bool ((r3.1.Played.Ends.length : Int) != (l1.length : Int))), (140, .int .i64 (l1.length : Int)), (139, .slice A1 l1.length c1), (138, .int .i64 (r3.1.Played.Ends.length : Int)), (137, (.slice Z4 r3.1.Played.Ends.length cz4)), (136, .pointer (some ⟨b4, 1, none⟩)), (135, .pointer (some ⟨b4, 0, none⟩))]) (l := [.loaded ⟨b4, 1, none⟩ ((.slice Z4 r3.1.Played.Ends.length cz4))]) (by kernel_rfl) ⟨hS67.cell 1 rfl rfl, trivial⟩ ?_
              refine ge_nil fun a hF => hK39 _ _ ?_ a hF
              by_cases hc18 : (r3.1.Played.Ends.length : Int) = (l1.length : Int)
              · rw [if_pos hc18] at h
                refine we_known (t := 141) (b := ((r3.1.Played.Ends.length : Int) != (l1.length : Int))) (v := false) (by kernel_rfl) (bne_eq_false_iff_eq.2 hc18) ?_
                refine we_false (by kernel_rfl) ?_
                refine we_skip fun a hF => hK38 _ _ ?_ a hF
                refine we_seq fun K40 hK40 => ?_
                refine we_seq fun K41 hK41 => ?_
                refine we_region [(0, 0), (1, 0), (2, 0)] rfl ?_
                refine ge_batch [0, 1, 2] (ans := []) (vs := [(144, .int .i64 0), (143, .int .i64 (l1.length : Int)), (142, .slice A1 l1.length c1)]) (l := []) (by kernel_rfl) trivial ?_
                refine ge_nil fun a hF => hK41 _ _ ?_ a hF
                refine we_block ?_
                have hS68 := hS67.bring 3 rfl
                have hS69 := hS68.bring 3 rfl
                have hS70 := hS69.bring 5 rfl
                have hS71 := hS70.bring 5 rfl
                have hS72 := hS71.bring 5 rfl
                have hS73 := hS72.takeN 5
                rcases hq14 : iter (ModesKeep.r4 l0 l1 r2 r3) K 0 with _ | (_ | rr3)
                · rw [hq14] at h; cases h
                · rw [hq14] at h
                  simp only [] at h
                  refine we_iter (A := ModesKeep.A4 K w0 l0 A0 c0 l1 A1 c1 l2 A2 c2 hR0 hL0 hR1 hL1 hR2 hL2 r1 hc1 r2 b1 hc4 Z1 cz1 Z2 cz2 z3 hc16 r3 b4 Z3 cz3 Z4 cz4 hc17 hc18) (B := ModesKeep.B4 K w0 l0 A0 c0 l1 A1 c1 l2 A2 c2 hR0 hL0 hR1 hL1 hR2 hL2 r1 hc1 r2 b1 hc4 Z1 cz1 Z2 cz2 z3 hc16 r3 b4 Z3 cz3 Z4 cz4 hc17 hc18) hq14 (fun a hF => ⟨hS73, hF.weaken ⟨by kernel_rfl, by kernel_rfl, by kernel_rfl, by kernel_rfl, by kernel_rfl, by kernel_rfl, by kernel_rfl, trivial⟩⟩) (fun s o hf a w hA Q hQ => ModesKeep_r4 K w0 l0 A0 c0 l1 A1 c1 l2 A2 c2 hR0 hL0 hR1 hL1 hR2 hL2 r1 hc1 r2 b1 hc4 Z1 cz1 Z2 cz2 z3 hc16 r3 b4 Z3 cz3 Z4 cz4 hc17 hc18 s o hf a w hA Q hQ) ?_
                  rintro _ a w27 _ ⟨rfl, hS137, hF⟩
                  replace hS137 : St w0 w27 [] := hS137
                  refine hK40 [] w27 ?_ a hF
                  refine we_seq fun K56 hK56 => ?_
                  refine we_region [(0, 0)] rfl ?_
                  refine ge_batch [0] (ans := []) (vs := [(6, .bool true)]) (l := []) (by kernel_rfl) trivial ?_
                  refine ge_nil fun a hF => hK56 _ _ ?_ a hF
                  obtain rfl := Option.some.inj h
                  exact we_ret (post_ret (rs := [.tmp 6]) (ans := []) (vs := [.bool true]) (l := []) rfl (by kernel_rfl) trivial ⟨rfl, hS137⟩)
                · rw [hq14] at h
                  simp only [] at h
                  refine we_iter (A := ModesKeep.A4 K w0 l0 A0 c0 l1 A1 c1 l2 A2 c2 hR0 hL0 hR1 hL1 hR2 hL2 r1 hc1 r2 b1 hc4 Z1 cz1 Z2 cz2 z3 hc16 r3 b4 Z3 cz3 Z4 cz4 hc17 hc18) (B := ModesKeep.B4 K w0 l0 A0 c0 l1 A1 c1 l2 A2 c2 hR0 hL0 hR1 hL1 hR2 hL2 r1 hc1 r2 b1 hc4 Z1 cz1 Z2 cz2 z3 hc16 r3 b4 Z3 cz3 Z4 cz4 hc17 hc18) hq14 (fun a hF => ⟨hS73, hF.weaken ⟨by kernel_rfl, by kernel_rfl, by kernel_rfl, by kernel_rfl, by kernel_rfl, by kernel_rfl, by kernel_rfl, trivial⟩⟩) (fun s o hf a w hA Q hQ => ModesKeep_r4 K w0 l0 A0 c0 l1 A1 c1 l2 A2 c2 hR0 hL0 hR1 hL1 hR2 hL2 r1 hc1 r2 b1 hc4 Z1 cz1 Z2 cz2 z3 hc16 r3 b4 Z3 cz3 Z4 cz4 hc17 hc18 s o hf a w hA Q hQ) ?_
                  rintro _ a w1 _ ⟨rfl, hb⟩
                  obtain rfl := Option.some.inj h
                  exact hb
              · rw [if_neg hc18] at h
                refine we_known (t := 141) (b := ((r3.1.Played.Ends.length : Int) != (l1.length : Int))) (v := true) (by kernel_rfl) (bne_iff_ne.2 hc18) ?_
                refine we_true (by kernel_rfl) ?_
                refine we_seq fun K57 hK57 => ?_
                refine we_region [(0, 0)] rfl ?_
                refine ge_batch [0] (ans := []) (vs := [(6, .bool false)]) (l := []) (by kernel_rfl) trivial ?_
                refine ge_nil fun a hF => hK57 _ _ ?_ a hF
                have hS138 := hS67.takeN 0
                obtain rfl := Option.some.inj h
                exact we_ret (post_ret (rs := [.tmp 6]) (ans := []) (vs := [.bool false]) (l := []) rfl (by kernel_rfl) trivial ⟨rfl, hS138⟩)
            · rw [if_neg hc17] at h
              refine we_known (t := 126) (b := (r3.2.Code != 0)) (v := true) (by kernel_rfl) (bne_iff_ne.2 hc17) ?_
              refine we_true (by kernel_rfl) ?_
              refine we_seq fun K58 hK58 => ?_
              rcases hq15 : ModesKeep.p5 r3 with _ | (q2 | rr4)
              · rw [hq15] at h; cases h
              · rw [hq15] at h
                simp only [] at h
                refine we_keep (e' := [(0, .slice A0 l0.length c0), (1, .slice A1 l1.length c1), (2, .slice A2 l2.length c2), (7, (.slice Z1 r2.1.length cz1)), (8, (.slice Z2 r2.2.1.length cz2)), (9, .pointer (some ⟨b1, 0, none⟩)), (10, .int .i64 z3), (15, .pointer (some ⟨b4, 0, none⟩)), (114, .int .i64 z3), (115, .bool false), (116, .tuple #[.agg #[(.slice Z3 r3.1.Played.Runs.length cz3), (.slice Z4 r3.1.Played.Ends.length cz4), .int .i64 r3.1.Turned], .agg #[.int .i64 r3.2.Code, .int .i64 r3.2.At]]), (117, .slice A0 l0.length c0), (118, .slice A1 l1.length c1), (119, .slice A2 l2.length c2), (120, .int .i64 z3), (121, .tuple #[.agg #[(.slice Z3 r3.1.Played.Runs.length cz3), (.slice Z4 r3.1.Played.Ends.length cz4), .int .i64 r3.1.Turned], .agg #[.int .i64 r3.2.Code, .int .i64 r3.2.At]]), (122, .agg #[(.slice Z3 r3.1.Played.Runs.length cz3), (.slice Z4 r3.1.Played.Ends.length cz4), .int .i64 r3.1.Turned]), (123, .agg #[.int .i64 r3.2.Code, .int .i64 r3.2.At]), (124, .pointer (some ⟨b1, 0, none⟩)), (125, .int .i64 r3.2.Code), (126, .bool true)]) ⟨by kernel_rfl, by kernel_rfl, by kernel_rfl, by kernel_rfl, by kernel_rfl, by kernel_rfl, by kernel_rfl, by kernel_rfl, by kernel_rfl, by kernel_rfl, by kernel_rfl, by kernel_rfl, by kernel_rfl, by kernel_rfl, by kernel_rfl, by kernel_rfl, by kernel_rfl, by kernel_rfl, by kernel_rfl, by kernel_rfl, by kernel_rfl, trivial⟩ (ModesKeep_p5 K w0 l0 A0 c0 l1 A1 c1 l2 A2 c2 hR0 hL0 hR1 hL1 hR2 hL2 r1 hc1 r2 b1 hc4 Z1 cz1 Z2 cz2 z3 hc16 r3 b4 Z3 cz3 Z4 cz4 hc17 _ hq15 _ hS67 _ ?_)
                rintro _ a w28 ⟨rfl, hS141, hF⟩
                replace hS141 : St w0 w28 [] := hS141
                refine hK58 [(6, .bool q2)] w28 ?_ a hF
                obtain rfl := Option.some.inj h
                exact we_ret (post_ret (rs := [.tmp 6]) (ans := []) (vs := [.bool q2]) (l := []) rfl (by kernel_rfl) trivial ⟨rfl, hS141⟩)
              · rw [hq15] at h
                simp only [] at h
                refine we_keep (e' := [(0, .slice A0 l0.length c0), (1, .slice A1 l1.length c1), (2, .slice A2 l2.length c2), (7, (.slice Z1 r2.1.length cz1)), (8, (.slice Z2 r2.2.1.length cz2)), (9, .pointer (some ⟨b1, 0, none⟩)), (10, .int .i64 z3), (15, .pointer (some ⟨b4, 0, none⟩)), (114, .int .i64 z3), (115, .bool false), (116, .tuple #[.agg #[(.slice Z3 r3.1.Played.Runs.length cz3), (.slice Z4 r3.1.Played.Ends.length cz4), .int .i64 r3.1.Turned], .agg #[.int .i64 r3.2.Code, .int .i64 r3.2.At]]), (117, .slice A0 l0.length c0), (118, .slice A1 l1.length c1), (119, .slice A2 l2.length c2), (120, .int .i64 z3), (121, .tuple #[.agg #[(.slice Z3 r3.1.Played.Runs.length cz3), (.slice Z4 r3.1.Played.Ends.length cz4), .int .i64 r3.1.Turned], .agg #[.int .i64 r3.2.Code, .int .i64 r3.2.At]]), (122, .agg #[(.slice Z3 r3.1.Played.Runs.length cz3), (.slice Z4 r3.1.Played.Ends.length cz4), .int .i64 r3.1.Turned]), (123, .agg #[.int .i64 r3.2.Code, .int .i64 r3.2.At]), (124, .pointer (some ⟨b1, 0, none⟩)), (125, .int .i64 r3.2.Code), (126, .bool true)]) ⟨by kernel_rfl, by kernel_rfl, by kernel_rfl, by kernel_rfl, by kernel_rfl, by kernel_rfl, by kernel_rfl, by kernel_rfl, by kernel_rfl, by kernel_rfl, by kernel_rfl, by kernel_rfl, by kernel_rfl, by kernel_rfl, by kernel_rfl, by kernel_rfl, by kernel_rfl, by kernel_rfl, by kernel_rfl, by kernel_rfl, by kernel_rfl, trivial⟩ (ModesKeep_p5 K w0 l0 A0 c0 l1 A1 c1 l2 A2 c2 hR0 hL0 hR1 hL1 hR2 hL2 r1 hc1 r2 b1 hc4 Z1 cz1 Z2 cz2 z3 hc16 r3 b4 Z3 cz3 Z4 cz4 hc17 _ hq15 _ hS67 _ ?_)
                rintro _ a w1 ⟨_, rfl, hb⟩
                obtain rfl := Option.some.inj h
                exact hb
        · rw [hq7] at h
          simp only [] at h
          refine we_iter (A := ModesKeep.A1 K w0 l0 A0 c0 l1 A1 c1 l2 A2 c2 hR0 hL0 hR1 hL1 hR2 hL2 r1 hc1 r2 b1 hc4 Z1 cz1 Z2 cz2) (B := ModesKeep.B1 K w0 l0 A0 c0 l1 A1 c1 l2 A2 c2 hR0 hL0 hR1 hL1 hR2 hL2 r1 hc1 r2 b1 hc4 Z1 cz1 Z2 cz2) hq7 (fun a hF => ⟨hS13, hF.weaken ⟨by kernel_rfl, by kernel_rfl, by kernel_rfl, by kernel_rfl, by kernel_rfl, by kernel_rfl, by kernel_rfl, by kernel_rfl, by kernel_rfl, by kernel_rfl, trivial⟩⟩) (fun s o hf a w hA Q hQ => ModesKeep_r1 K w0 l0 A0 c0 l1 A1 c1 l2 A2 c2 hR0 hL0 hR1 hL1 hR2 hL2 r1 hc1 r2 b1 hc4 Z1 cz1 Z2 cz2 s o hf a w hA Q hQ) ?_
          rintro _ a w1 _ ⟨rfl, hb⟩
          obtain rfl := Option.some.inj h
          exact hb
      · rw [if_neg hc4] at h
        refine we_known (t := 38) (b := (r2.2.2.Code != 0)) (v := true) (by kernel_rfl) (bne_iff_ne.2 hc4) ?_
        refine we_true (by kernel_rfl) ?_
        refine we_seq fun K59 hK59 => ?_
        obtain ⟨Z5, cz5, rfl⟩ := hS10.open 1 rfl
        obtain ⟨Z6, cz6, rfl⟩ := hS10.open 2 rfl
        rcases hq16 : ModesKeep.p6 r2 with _ | (q4 | rr6)
        · rw [hq16] at h; cases h
        · rw [hq16] at h
          simp only [] at h
          refine we_keep (e' := [(0, .slice A0 l0.length c0), (1, .slice A1 l1.length c1), (2, .slice A2 l2.length c2), (7, (.slice Z5 r2.1.length cz5)), (8, (.slice Z6 r2.2.1.length cz6)), (9, .pointer (some ⟨b1, 0, none⟩)), (30, .tuple #[(.slice Z5 r2.1.length cz5), (.slice Z6 r2.2.1.length cz6), .agg #[.int .i64 r2.2.2.Code, .int .i64 r2.2.2.At]]), (31, .slice A0 l0.length c0), (32, .tuple #[(.slice Z5 r2.1.length cz5), (.slice Z6 r2.2.1.length cz6), .agg #[.int .i64 r2.2.2.Code, .int .i64 r2.2.2.At]]), (33, (.slice Z5 r2.1.length cz5)), (34, (.slice Z6 r2.2.1.length cz6)), (35, .agg #[.int .i64 r2.2.2.Code, .int .i64 r2.2.2.At]), (36, .pointer (some ⟨b1, 0, none⟩)), (37, .int .i64 r2.2.2.Code), (38, .bool true)]) ⟨by kernel_rfl, by kernel_rfl, by kernel_rfl, by kernel_rfl, by kernel_rfl, by kernel_rfl, by kernel_rfl, by kernel_rfl, by kernel_rfl, by kernel_rfl, by kernel_rfl, by kernel_rfl, by kernel_rfl, by kernel_rfl, by kernel_rfl, trivial⟩ (ModesKeep_p6 K w0 l0 A0 c0 l1 A1 c1 l2 A2 c2 hR0 hL0 hR1 hL1 hR2 hL2 r1 hc1 r2 b1 hc4 Z5 cz5 Z6 cz6 _ hq16 _ hS10 _ ?_)
          rintro _ a w29 ⟨rfl, hS144, hF⟩
          replace hS144 : St w0 w29 [] := hS144
          refine hK59 [(6, .bool q4)] w29 ?_ a hF
          obtain rfl := Option.some.inj h
          exact we_ret (post_ret (rs := [.tmp 6]) (ans := []) (vs := [.bool q4]) (l := []) rfl (by kernel_rfl) trivial ⟨rfl, hS144⟩)
        · rw [hq16] at h
          simp only [] at h
          refine we_keep (e' := [(0, .slice A0 l0.length c0), (1, .slice A1 l1.length c1), (2, .slice A2 l2.length c2), (7, (.slice Z5 r2.1.length cz5)), (8, (.slice Z6 r2.2.1.length cz6)), (9, .pointer (some ⟨b1, 0, none⟩)), (30, .tuple #[(.slice Z5 r2.1.length cz5), (.slice Z6 r2.2.1.length cz6), .agg #[.int .i64 r2.2.2.Code, .int .i64 r2.2.2.At]]), (31, .slice A0 l0.length c0), (32, .tuple #[(.slice Z5 r2.1.length cz5), (.slice Z6 r2.2.1.length cz6), .agg #[.int .i64 r2.2.2.Code, .int .i64 r2.2.2.At]]), (33, (.slice Z5 r2.1.length cz5)), (34, (.slice Z6 r2.2.1.length cz6)), (35, .agg #[.int .i64 r2.2.2.Code, .int .i64 r2.2.2.At]), (36, .pointer (some ⟨b1, 0, none⟩)), (37, .int .i64 r2.2.2.Code), (38, .bool true)]) ⟨by kernel_rfl, by kernel_rfl, by kernel_rfl, by kernel_rfl, by kernel_rfl, by kernel_rfl, by kernel_rfl, by kernel_rfl, by kernel_rfl, by kernel_rfl, by kernel_rfl, by kernel_rfl, by kernel_rfl, by kernel_rfl, by kernel_rfl, trivial⟩ (ModesKeep_p6 K w0 l0 A0 c0 l1 A1 c1 l2 A2 c2 hR0 hL0 hR1 hL1 hR2 hL2 r1 hc1 r2 b1 hc4 Z5 cz5 Z6 cz6 _ hq16 _ hS10 _ ?_)
          rintro _ a w1 ⟨_, rfl, hb⟩
          obtain rfl := Option.some.inj h
          exact hb
    · rw [hq3] at h
      simp only [] at h
      refine we_keep (e' := [(0, .slice A0 l0.length c0), (1, .slice A1 l1.length c1), (2, .slice A2 l2.length c2), (6, .bool false), (19, .bool r1), (20, .bool false)]) ⟨by kernel_rfl, by kernel_rfl, by kernel_rfl, by kernel_rfl, by kernel_rfl, by kernel_rfl, trivial⟩ (ModesKeep_p0 K w0 l0 A0 c0 l1 A1 c1 l2 A2 c2 hR0 hL0 hR1 hL1 hR2 hL2 r1 hc1 _ hq3 _ hS2 _ ?_)
      rintro _ a w1 ⟨_, rfl, hb⟩
      obtain rfl := Option.some.inj h
      exact hb
  · rw [if_neg hc1] at h
    refine we_known (t := 20) (b := !r1) (v := true) (by kernel_rfl) (congrArg (fun z => !z) (Bool.eq_false_iff.2 hc1)) ?_
    refine we_true (by kernel_rfl) ?_
    refine we_seq fun K60 hK60 => ?_
    refine we_region [(0, 0)] rfl ?_
    refine ge_batch [0] (ans := []) (vs := [(6, .bool false)]) (l := []) (by kernel_rfl) trivial ?_
    refine ge_nil fun a hF => hK60 _ _ ?_ a hF
    obtain rfl := Option.some.inj h
    exact we_ret (post_ret (rs := [.tmp 6]) (ans := []) (vs := [.bool false]) (l := []) rfl (by kernel_rfl) trivial ⟨rfl, hS2⟩)
end Go.Proofs.Ytccfilmiboepjaa.GV
