/- Walks of single functions, written by a program of this work. -/
import Derived.Test.YtchcdadpahakfaaDoorGWModesResponds2
namespace Go.Proofs.YtchcdadpahakfaaDoor.GV
open Go Go.RowKit
set_option linter.unusedVariables false
set_option linter.unusedSimpArgs false
set_option maxRecDepth 100000

/-! punctual/punctuallaw.turns -/
abbrev turns.Post (w0 : World) (r : Bool) (e : Ending) (w : World) : Prop := e = .returned (.bool r) ∧ St w0 w []
def turns.f (K : Nat) : Option Bool :=
  match modes_Responses.f K two.f with
  | none => none
  | some r1 =>
    match modes_Play.f K two.f ([(⟨0, 0⟩ : SCome), (⟨1, 0⟩ : SCome), (⟨1, 6⟩ : SCome)] : List SCome) ([2, 2, 2] : List Int) 8 with
    | none => none
    | some r2 =>
      if r1.2.2.Code = 0 then
        if r2.2.Code = 0 then
          match ps_Same_int.f K r1.1 ([3, 2] : List Int) with
          | none => none
          | some r3 =>
            if r3 = true then
              match ps_Same_int.f K r1.2.1 ([4, 0] : List Int) with
              | none => none
              | some r4 =>
                if r4 = true then
                  match ps_Same_int.f K r2.1.Played.Runs ([1, 1, 0, 0, (-1), (-1), (-1), (-1)] : List Int) with
                  | none => none
                  | some r5 =>
                    if r5 = true then
                      match ps_Same_int.f K r2.1.Played.Ends ([4, 2, (-1)] : List Int) with
                      | none => none
                      | some r6 =>
                        if r6 = true then
                          some (r2.1.Turned == 3)
                        else
                          some false
                    else
                      some false
                else
                  some false
            else
              some false
        else
          some false
      else
        some false
theorem turns_ok (K : Nat)  (w0 : World) (r : Bool) (h : turns.f K = some r) :
    Calls Tryd.prog 7 #[] w0 (turns.Post w0 r) := by
  have hS := St.start w0
  unfold turns.f at h
  refine calls_enter (n := 59) (args := []) (fn := Tryd.f7) rfl rfl rfl rfl ?_
  show WE _ _ _ _ [] _
  refine we_seq fun K1 hK1 => ?_
  refine we_region [(0, 0)] rfl ?_
  refine ge_batch [0] (ans := []) (vs := [(0, .bool false)]) (l := []) (by kernel_rfl) trivial ?_
  refine ge_nil fun a hF => hK1 _ _ ?_ a hF
  refine we_seq fun K2 hK2 => ?_
  refine we_region [(0, 1), (1, 1), (2, 0), (3, 0), (4, 0), (5, 0), (6, 1), (7, 0), (8, 0), (9, 2)] rfl ?_
  refine ge_call (d := some 7) (f := 37) (args := #[]) (by kernel_rfl) (two_ok _ _ rfl) ?_
  rintro _ w1 ⟨v1, rfl, hS1⟩
  refine ⟨_, rfl, hS1.below, ?_⟩
  have hS2 := hS.call hS1
  obtain ⟨Z1, cz1, rfl⟩ := hS2.open 0 rfl
  rcases hq2 : modes_Responses.f K two.f with _ | r1
  · rw [hq2] at h; cases h
  rw [hq2] at h
  simp only [] at h
  refine ge_call (d := some 8) (f := 10) (args := #[(.slice Z1 two.f.length cz1)]) (by kernel_rfl) (modes_Responses_ok K two.f Z1 cz1 _ (hS2.rdAt 0 rfl) (hS2.capAt 0 rfl) _ hq2) ?_
  rintro _ w2 ⟨v2, v3, rfl, hS3⟩
  refine ⟨_, rfl, hS3.below, ?_⟩
  have hS4 := hS2.call hS3
  refine ge_batch [2, 3, 4, 5] (ans := []) (vs := [(11, .agg #[.int .i64 r1.2.2.Code, .int .i64 r1.2.2.At]), (10, v3), (9, v2), (6, .tuple #[v2, v3, .agg #[.int .i64 r1.2.2.Code, .int .i64 r1.2.2.At]])]) (l := []) (by kernel_rfl) trivial ?_
  refine ge_new (d := some 3) (o := .cells #[.int .i64 0, .int .i64 0] 31) (v := fun b => .pointer (some ⟨b, 0, none⟩)) hS4 (fun b => by kernel_rfl) fun b1 w3 hx1 hS5 => ?_
  refine ge_batch [7, 8] (ans := []) (vs := [(2, v3), (1, v2)]) (l := []) (by kernel_rfl) trivial ?_
  refine ge_set (b := b1) (j := 0) (cs := #[.int .i64 0, .int .i64 0]) (t := 31) (vs := [.int .i64 r1.2.2.Code, .int .i64 r1.2.2.At]) hS5 (by kernel_rfl) rfl rfl fun w4 hS6 => ?_
  have hS7 := hS6.nc #[.int .i64 r1.2.2.Code, .int .i64 r1.2.2.At] (by kernel_rfl)
  refine ge_nil fun a hF => hK2 _ _ ?_ a hF
  refine we_seq fun K3 hK3 => ?_
  refine we_region [(0, 1), (1, 0), (2, 0), (3, 0), (4, 1), (5, 1), (6, 1), (7, 0), (8, 0), (9, 0), (10, 1), (11, 1), (12, 2), (13, 2)] rfl ?_
  refine ge_call (d := some 13) (f := 37) (args := #[]) (by kernel_rfl) (two_ok _ _ rfl) ?_
  rintro _ w5 ⟨v4, rfl, hS8⟩
  refine ⟨_, rfl, hS8.below, ?_⟩
  have hS9 := hS7.call hS8
  refine ge_batch [1, 2, 3] (ans := []) (vs := [(16, .agg #[.int .i64 1, .int .i64 6]), (15, .agg #[.int .i64 1, .int .i64 0]), (14, .agg #[.int .i64 0, .int .i64 0])]) (l := []) (by kernel_rfl) trivial ?_
  refine ge_new (d := some 17) (o := .cells #[.int .i64 0, .int .i64 0, .int .i64 1, .int .i64 0, .int .i64 1, .int .i64 6] 46) (v := fun b => .slice (some ⟨b, 0, none⟩) 3 3) hS9 (fun b => by kernel_rfl) fun b2 w6 hx2 hS10 => ?_
  refine ge_new (d := some 18) (o := .cells #[.int .i64 2, .int .i64 2, .int .i64 2] 3) (v := fun b => .slice (some ⟨b, 0, none⟩) 3 3) hS10 (fun b => by kernel_rfl) fun b3 w7 hx3 hS11 => ?_
  obtain ⟨Z2, cz2, rfl⟩ := hS11.open 2 rfl
  rcases hq4 : modes_Play.f K two.f ([(⟨0, 0⟩ : SCome), (⟨1, 0⟩ : SCome), (⟨1, 6⟩ : SCome)] : List SCome) ([2, 2, 2] : List Int) 8 with _ | r2
  · rw [hq4] at h; cases h
  rw [hq4] at h
  simp only [] at h
  refine ge_call (d := some 19) (f := 21) (args := #[(.slice Z2 two.f.length cz2), .slice (some ⟨b2, 0, none⟩) 3 3, .slice (some ⟨b3, 0, none⟩) 3 3, .int .i64 8]) (by kernel_rfl) (modes_Play_ok K two.f Z2 cz2 ([(⟨0, 0⟩ : SCome), (⟨1, 0⟩ : SCome), (⟨1, 6⟩ : SCome)] : List SCome) (some ⟨b2, 0, none⟩) 3 ([2, 2, 2] : List Int) (some ⟨b3, 0, none⟩) 3 8 _ (hS11.rdAt 2 rfl) (hS11.capAt 2 rfl) (hS11.rdBlk 1 ([(⟨0, 0⟩ : SCome), (⟨1, 0⟩ : SCome), (⟨1, 6⟩ : SCome)] : List SCome) rfl rfl rfl) (Nat.le_refl _) (hS11.rdBlk 0 ([2, 2, 2] : List Int) rfl rfl rfl) (Nat.le_refl _) _ hq4) ?_
  rintro _ w8 ⟨v5, v6, rfl, hS12⟩
  refine ⟨_, rfl, hS12.below, ?_⟩
  have hS13 := hS11.call hS12
  refine ge_batch [7, 8, 9] (ans := []) (vs := [(21, .agg #[.int .i64 r2.2.Code, .int .i64 r2.2.At]), (20, .agg #[v5, v6, .int .i64 r2.1.Turned]), (12, .tuple #[.agg #[v5, v6, .int .i64 r2.1.Turned], .agg #[.int .i64 r2.2.Code, .int .i64 r2.2.At]])]) (l := []) (by kernel_rfl) trivial ?_
  refine ge_new (d := some 4) (o := .cells #[.slice none 0 0, .slice none 0 0, .int .i64 0] 51) (v := fun b => .pointer (some ⟨b, 0, none⟩)) hS13 (fun b => by kernel_rfl) fun b4 w9 hx4 hS14 => ?_
  refine ge_new (d := some 5) (o := .cells #[.int .i64 0, .int .i64 0] 31) (v := fun b => .pointer (some ⟨b, 0, none⟩)) hS14 (fun b => by kernel_rfl) fun b5 w10 hx5 hS15 => ?_
  obtain ⟨Z3, cz3, rfl⟩ := hS15.open 2 rfl
  obtain ⟨Z4, cz4, rfl⟩ := hS15.open 3 rfl
  have hS16 := hS15.bring 1 rfl
  refine ge_set (b := b4) (j := 0) (cs := #[.slice none 0 0, .slice none 0 0, .int .i64 0]) (t := 51) (vs := [(.slice Z3 r2.1.Played.Runs.length cz3), (.slice Z4 r2.1.Played.Ends.length cz4), .int .i64 r2.1.Turned]) hS16 (by kernel_rfl) rfl rfl fun w11 hS17 => ?_
  have hS18 := hS17.nc #[(.slice Z3 r2.1.Played.Runs.length cz3), (.slice Z4 r2.1.Played.Ends.length cz4), .int .i64 r2.1.Turned] (by kernel_rfl)
  have hS19 := hS18.bring 1 rfl
  refine ge_set (b := b5) (j := 0) (cs := #[.int .i64 0, .int .i64 0]) (t := 31) (vs := [.int .i64 r2.2.Code, .int .i64 r2.2.At]) hS19 (by kernel_rfl) rfl rfl fun w12 hS20 => ?_
  have hS21 := hS20.nc #[.int .i64 r2.2.Code, .int .i64 r2.2.At] (by kernel_rfl)
  refine ge_nil fun a hF => hK3 _ _ ?_ a hF
  refine we_seq fun K4 hK4 => ?_
  refine we_region [(0, 0), (1, 0), (2, 0), (3, 0), (4, 0), (5, 0), (6, 0), (7, 0), (8, 0), (9, 0), (10, 1), (11, 1), (12, 0), (13, 0), (14, 0), (15, 1), (16, 1), (17, 0), (18, 0), (19, 0), (20, 0), (21, 0), (22, 1), (23, 1), (24, 0), (25, 0), (26, 0), (27, 0), (28, 0), (29, 1), (30, 1), (31, 0), (32, 0), (33, 0), (34, 0), (35, 0), (36, 0), (37, 0)] rfl ?_
  refine ge_batch [0, 1, 2, 3] (ans := [.val (.int .i64 r1.2.2.Code)]) (vs := [(25, .bool (r1.2.2.Code == 0)), (24, .bool (r1.2.2.Code == 0)), (23, .int .i64 r1.2.2.Code), (22, .pointer (some ⟨b1, 0, none⟩))]) (l := [.loaded ⟨b1, 0, none⟩ (.int .i64 r1.2.2.Code)]) (by kernel_rfl) ⟨hS21.cell 7 rfl rfl, trivial⟩ ?_
  by_cases hc1 : r1.2.2.Code = 0
  · rw [if_pos hc1] at h
    refine ge_known (t := 25) (b := (r1.2.2.Code == 0)) (c := true) (by kernel_rfl) (beq_iff_eq.2 hc1) ?_
    refine ge_batch [4, 5, 6, 7, 8] (ans := [.val (.int .i64 r2.2.Code)]) (vs := [(30, .bool (r2.2.Code == 0)), (29, .bool (r2.2.Code == 0)), (28, .bool (r2.2.Code == 0)), (27, .int .i64 r2.2.Code), (26, .pointer (some ⟨b5, 0, none⟩))]) (l := [.loaded ⟨b5, 0, none⟩ (.int .i64 r2.2.Code)]) (by kernel_rfl) ⟨hS21.cell 0 rfl rfl, trivial⟩ ?_
    by_cases hc2 : r2.2.Code = 0
    · rw [if_pos hc2] at h
      refine ge_known (t := 30) (b := (r2.2.Code == 0)) (c := true) (by kernel_rfl) (beq_iff_eq.2 hc2) ?_
      refine ge_batch [9] (ans := []) (vs := [(31, v2)]) (l := []) (by kernel_rfl) trivial ?_
      refine ge_new (d := some 32) (o := .cells #[.int .i64 3, .int .i64 2] 3) (v := fun b => .slice (some ⟨b, 0, none⟩) 2 2) hS21 (fun b => by kernel_rfl) fun b6 w13 hx6 hS22 => ?_
      obtain ⟨Z5, cz5, rfl⟩ := hS22.open 9 rfl
      rcases hq5 : ps_Same_int.f K r1.1 ([3, 2] : List Int) with _ | r3
      · rw [hq5] at h; cases h
      rw [hq5] at h
      simp only [] at h
      refine ge_call (d := some 33) (f := 14) (args := #[(.slice Z5 r1.1.length cz5), .slice (some ⟨b6, 0, none⟩) 2 2]) (by kernel_rfl) (ps_Same_int_ok K r1.1 Z5 cz5 ([3, 2] : List Int) (some ⟨b6, 0, none⟩) 2 _ (hS22.rdAt 9 rfl) (hS22.capAt 9 rfl) (hS22.rdBlk 0 ([3, 2] : List Int) rfl rfl rfl) (Nat.le_refl _) _ hq5) ?_
      rintro _ w14 ⟨rfl, hS23⟩
      refine ⟨_, rfl, hS23.below, ?_⟩
      have hS24 := hS22.call hS23
      refine ge_batch [12, 13] (ans := []) (vs := [(35, .bool r3), (34, .bool r3)]) (l := []) (by kernel_rfl) trivial ?_
      by_cases hc3 : r3 = true
      · rw [if_pos hc3] at h
        refine ge_known (t := 35) (b := r3) (c := true) (by kernel_rfl) hc3 ?_
        refine ge_batch [14] (ans := []) (vs := [(36, v3)]) (l := []) (by kernel_rfl) trivial ?_
        refine ge_new (d := some 37) (o := .cells #[.int .i64 4, .int .i64 0] 3) (v := fun b => .slice (some ⟨b, 0, none⟩) 2 2) hS24 (fun b => by kernel_rfl) fun b7 w15 hx7 hS25 => ?_
        obtain ⟨Z6, cz6, rfl⟩ := hS25.open 11 rfl
        rcases hq6 : ps_Same_int.f K r1.2.1 ([4, 0] : List Int) with _ | r4
        · rw [hq6] at h; cases h
        rw [hq6] at h
        simp only [] at h
        refine ge_call (d := some 38) (f := 14) (args := #[(.slice Z6 r1.2.1.length cz6), .slice (some ⟨b7, 0, none⟩) 2 2]) (by kernel_rfl) (ps_Same_int_ok K r1.2.1 Z6 cz6 ([4, 0] : List Int) (some ⟨b7, 0, none⟩) 2 _ (hS25.rdAt 11 rfl) (hS25.capAt 11 rfl) (hS25.rdBlk 0 ([4, 0] : List Int) rfl rfl rfl) (Nat.le_refl _) _ hq6) ?_
        rintro _ w16 ⟨rfl, hS26⟩
        refine ⟨_, rfl, hS26.below, ?_⟩
        have hS27 := hS25.call hS26
        refine ge_batch [17, 18] (ans := []) (vs := [(40, .bool r4), (39, .bool r4)]) (l := []) (by kernel_rfl) trivial ?_
        by_cases hc4 : r4 = true
        · rw [if_pos hc4] at h
          refine ge_known (t := 40) (b := r4) (c := true) (by kernel_rfl) hc4 ?_
          refine ge_batch [19, 20, 21] (ans := [.val ((.slice Z3 r2.1.Played.Runs.length cz3))]) (vs := [(43, (.slice Z3 r2.1.Played.Runs.length cz3)), (42, .pointer (some ⟨b4, 0, none⟩)), (41, .pointer (some ⟨b4, 0, none⟩))]) (l := [.loaded ⟨b4, 0, none⟩ ((.slice Z3 r2.1.Played.Runs.length cz3))]) (by kernel_rfl) ⟨hS27.cell 3 rfl rfl, trivial⟩ ?_
          refine ge_new (d := some 44) (o := .cells #[.int .i64 1, .int .i64 1, .int .i64 0, .int .i64 0, .int .i64 (-1), .int .i64 (-1), .int .i64 (-1), .int .i64 (-1)] 3) (v := fun b => .slice (some ⟨b, 0, none⟩) 8 8) hS27 (fun b => by kernel_rfl) fun b8 w17 hx8 hS28 => ?_
          rcases hq7 : ps_Same_int.f K r2.1.Played.Runs ([1, 1, 0, 0, (-1), (-1), (-1), (-1)] : List Int) with _ | r5
          · rw [hq7] at h; cases h
          rw [hq7] at h
          simp only [] at h
          refine ge_call (d := some 45) (f := 14) (args := #[(.slice Z3 r2.1.Played.Runs.length cz3), .slice (some ⟨b8, 0, none⟩) 8 8]) (by kernel_rfl) (ps_Same_int_ok K r2.1.Played.Runs Z3 cz3 ([1, 1, 0, 0, (-1), (-1), (-1), (-1)] : List Int) (some ⟨b8, 0, none⟩) 8 _ (hS28.rdAt 5 rfl) (hS28.capAt 5 rfl) (hS28.rdBlk 0 ([1, 1, 0, 0, (-1), (-1), (-1), (-1)] : List Int) rfl rfl rfl) (Nat.le_refl _) _ hq7) ?_
          rintro _ w18 ⟨rfl, hS29⟩
          refine ⟨_, rfl, hS29.below, ?_⟩
          have hS30 := hS28.call hS29
          refine ge_batch [24, 25] (ans := []) (vs := [(47, .bool r5), (46, .bool r5)]) (l := []) (by kernel_rfl) trivial ?_
          by_cases hc5 : r5 = true
          · rw [if_pos hc5] at h
            refine ge_known (t := 47) (b := r5) (c := true) (by kernel_rfl) hc5 ?_
            refine ge_batch [26, 27, 28] (ans := [.val ((.slice Z4 r2.1.Played.Ends.length cz4))]) (vs := [(50, (.slice Z4 r2.1.Played.Ends.length cz4)), (49, .pointer (some ⟨b4, 1, none⟩)), (48, .pointer (some ⟨b4, 0, none⟩))]) (l := [.loaded ⟨b4, 1, none⟩ ((.slice Z4 r2.1.Played.Ends.length cz4))]) (by kernel_rfl) ⟨hS30.cell 4 rfl rfl, trivial⟩ ?_
            refine ge_new (d := some 51) (o := .cells #[.int .i64 4, .int .i64 2, .int .i64 (-1)] 3) (v := fun b => .slice (some ⟨b, 0, none⟩) 3 3) hS30 (fun b => by kernel_rfl) fun b9 w19 hx9 hS31 => ?_
            rcases hq8 : ps_Same_int.f K r2.1.Played.Ends ([4, 2, (-1)] : List Int) with _ | r6
            · rw [hq8] at h; cases h
            rw [hq8] at h
            simp only [] at h
            refine ge_call (d := some 52) (f := 14) (args := #[(.slice Z4 r2.1.Played.Ends.length cz4), .slice (some ⟨b9, 0, none⟩) 3 3]) (by kernel_rfl) (ps_Same_int_ok K r2.1.Played.Ends Z4 cz4 ([4, 2, (-1)] : List Int) (some ⟨b9, 0, none⟩) 3 _ (hS31.rdAt 7 rfl) (hS31.capAt 7 rfl) (hS31.rdBlk 0 ([4, 2, (-1)] : List Int) rfl rfl rfl) (Nat.le_refl _) _ hq8) ?_
            rintro _ w20 ⟨rfl, hS32⟩
            refine ⟨_, rfl, hS32.below, ?_⟩
            have hS33 := hS31.call hS32
            refine ge_batch [31, 32] (ans := []) (vs := [(54, .bool r6), (53, .bool r6)]) (l := []) (by kernel_rfl) trivial ?_
            by_cases hc6 : r6 = true
            · rw [if_pos hc6] at h
              refine ge_known (t := 54) (b := r6) (c := true) (by kernel_rfl) hc6 ?_
              refine ge_batch [33, 34, 35, 36, 37] (ans := [.val (.int .i64 r2.1.Turned)]) (vs := [(0, .bool (r2.1.Turned == 3)), (58, .bool (r2.1.Turned == 3)), (57, .bool (r2.1.Turned == 3)), (56, .int .i64 r2.1.Turned), (55, .pointer (some ⟨b4, 2, none⟩))]) (l := [.loaded ⟨b4, 2, none⟩ (.int .i64 r2.1.Turned)]) (by kernel_rfl) ⟨hS33.cell 5 rfl rfl, trivial⟩ ?_
              refine ge_nil fun a hF => hK4 _ _ ?_ a hF
              have hS34 := hS33.takeN 0
              obtain rfl := Option.some.inj h
              exact we_ret (post_ret (rs := [.tmp 0]) (ans := []) (vs := [.bool (r2.1.Turned == 3)]) (l := []) rfl (by kernel_rfl) trivial ⟨rfl, hS34⟩)
            · rw [if_neg hc6] at h
              refine ge_known (t := 54) (b := r6) (c := false) (by kernel_rfl) (Bool.eq_false_iff.2 hc6) ?_
              refine ge_batch [33, 34, 35, 36, 37] (ans := []) (vs := [(0, .bool false), (58, .bool false), (57, undef), (56, undef), (55, undef)]) (l := []) (by kernel_rfl) trivial ?_
              refine ge_nil fun a hF => hK4 _ _ ?_ a hF
              have hS35 := hS33.takeN 0
              obtain rfl := Option.some.inj h
              exact we_ret (post_ret (rs := [.tmp 0]) (ans := []) (vs := [.bool false]) (l := []) rfl (by kernel_rfl) trivial ⟨rfl, hS35⟩)
          · rw [if_neg hc5] at h
            refine ge_known (t := 47) (b := r5) (c := false) (by kernel_rfl) (Bool.eq_false_iff.2 hc5) ?_
            refine ge_batch [26, 27, 28] (ans := []) (vs := [(50, undef), (49, undef), (48, undef)]) (l := []) (by kernel_rfl) trivial ?_
            refine ge_off rfl rfl rfl (by kernel_rfl) ?_
            refine ge_off rfl rfl rfl (by kernel_rfl) ?_
            refine ge_batch [31, 32, 33, 34, 35, 36, 37] (ans := []) (vs := [(0, .bool false), (58, .bool false), (57, undef), (56, undef), (55, undef), (54, .bool false), (53, .bool false)]) (l := []) (by kernel_rfl) trivial ?_
            refine ge_nil fun a hF => hK4 _ _ ?_ a hF
            have hS36 := hS30.takeN 0
            obtain rfl := Option.some.inj h
            exact we_ret (post_ret (rs := [.tmp 0]) (ans := []) (vs := [.bool false]) (l := []) rfl (by kernel_rfl) trivial ⟨rfl, hS36⟩)
        · rw [if_neg hc4] at h
          refine ge_known (t := 40) (b := r4) (c := false) (by kernel_rfl) (Bool.eq_false_iff.2 hc4) ?_
          refine ge_batch [19, 20, 21] (ans := []) (vs := [(43, undef), (42, undef), (41, undef)]) (l := []) (by kernel_rfl) trivial ?_
          refine ge_off rfl rfl rfl (by kernel_rfl) ?_
          refine ge_off rfl rfl rfl (by kernel_rfl) ?_
          refine ge_batch [24, 25, 26, 27, 28] (ans := []) (vs := [(50, undef), (49, undef), (48, undef), (47, .bool false), (46, .bool false)]) (l := []) (by kernel_rfl) trivial ?_
          refine ge_off rfl rfl rfl (by kernel_rfl) ?_
          refine ge_off rfl rfl rfl (by kernel_rfl) ?_
          refine ge_batch [31, 32, 33, 34, 35, 36, 37] (ans := []) (vs := [(0, .bool false), (58, .bool false), (57, undef), (56, undef), (55, undef), (54, .bool false), (53, .bool false)]) (l := []) (by kernel_rfl) trivial ?_
          refine ge_nil fun a hF => hK4 _ _ ?_ a hF
          have hS37 := hS27.takeN 0
          obtain rfl := Option.some.inj h
          exact we_ret (post_ret (rs := [.tmp 0]) (ans := []) (vs := [.bool false]) (l := []) rfl (by kernel_rfl) trivial ⟨rfl, hS37⟩)
      · rw [if_neg hc3] at h
        refine ge_known (t := 35) (b := r3) (c := false) (by kernel_rfl) (Bool.eq_false_iff.2 hc3) ?_
        refine ge_batch [14] (ans := []) (vs := [(36, undef)]) (l := []) (by kernel_rfl) trivial ?_
        refine ge_off rfl rfl rfl (by kernel_rfl) ?_
        refine ge_off rfl rfl rfl (by kernel_rfl) ?_
        refine ge_batch [17, 18, 19, 20, 21] (ans := []) (vs := [(43, undef), (42, undef), (41, undef), (40, .bool false), (39, .bool false)]) (l := []) (by kernel_rfl) trivial ?_
        refine ge_off rfl rfl rfl (by kernel_rfl) ?_
        refine ge_off rfl rfl rfl (by kernel_rfl) ?_
        refine ge_batch [24, 25, 26, 27, 28] (ans := []) (vs := [(50, undef), (49, undef), (48, undef), (47, .bool false), (46, .bool false)]) (l := []) (by kernel_rfl) trivial ?_
        refine ge_off rfl rfl rfl (by kernel_rfl) ?_
        refine ge_off rfl rfl rfl (by kernel_rfl) ?_
        refine ge_batch [31, 32, 33, 34, 35, 36, 37] (ans := []) (vs := [(0, .bool false), (58, .bool false), (57, undef), (56, undef), (55, undef), (54, .bool false), (53, .bool false)]) (l := []) (by kernel_rfl) trivial ?_
        refine ge_nil fun a hF => hK4 _ _ ?_ a hF
        have hS38 := hS24.takeN 0
        obtain rfl := Option.some.inj h
        exact we_ret (post_ret (rs := [.tmp 0]) (ans := []) (vs := [.bool false]) (l := []) rfl (by kernel_rfl) trivial ⟨rfl, hS38⟩)
    · rw [if_neg hc2] at h
      refine ge_known (t := 30) (b := (r2.2.Code == 0)) (c := false) (by kernel_rfl) (beq_eq_false_iff_ne.2 hc2) ?_
      refine ge_batch [9] (ans := []) (vs := [(31, undef)]) (l := []) (by kernel_rfl) trivial ?_
      refine ge_off rfl rfl rfl (by kernel_rfl) ?_
      refine ge_off rfl rfl rfl (by kernel_rfl) ?_
      refine ge_batch [12, 13, 14] (ans := []) (vs := [(36, undef), (35, .bool false), (34, .bool false)]) (l := []) (by kernel_rfl) trivial ?_
      refine ge_off rfl rfl rfl (by kernel_rfl) ?_
      refine ge_off rfl rfl rfl (by kernel_rfl) ?_
      refine ge_batch [17, 18, 19, 20, 21] (ans := []) (vs := [(43, undef), (42, undef), (41, undef), (40, .bool false), (39, .bool false)]) (l := []) (by kernel_rfl) trivial ?_
      refine ge_off rfl rfl rfl (by kernel_rfl) ?_
      refine ge_off rfl rfl rfl (by kernel_rfl) ?_
      refine ge_batch [24, 25, 26, 27, 28] (ans := []) (vs := [(50, undef), (49, undef), (48, undef), (47, .bool false), (46, .bool false)]) (l := []) (by kernel_rfl) trivial ?_
      refine ge_off rfl rfl rfl (by kernel_rfl) ?_
      refine ge_off rfl rfl rfl (by kernel_rfl) ?_
      refine ge_batch [31, 32, 33, 34, 35, 36, 37] (ans := []) (vs := [(0, .bool false), (58, .bool false), (57, undef), (56, undef), (55, undef), (54, .bool false), (53, .bool false)]) (l := []) (by kernel_rfl) trivial ?_
      refine ge_nil fun a hF => hK4 _ _ ?_ a hF
      have hS39 := hS21.takeN 0
      obtain rfl := Option.some.inj h
      exact we_ret (post_ret (rs := [.tmp 0]) (ans := []) (vs := [.bool false]) (l := []) rfl (by kernel_rfl) trivial ⟨rfl, hS39⟩)
  · rw [if_neg hc1] at h
    refine ge_known (t := 25) (b := (r1.2.2.Code == 0)) (c := false) (by kernel_rfl) (beq_eq_false_iff_ne.2 hc1) ?_
    refine ge_batch [4, 5, 6, 7, 8, 9] (ans := []) (vs := [(31, undef), (30, .bool false), (29, .bool false), (28, undef), (27, undef), (26, undef)]) (l := []) (by kernel_rfl) trivial ?_
    refine ge_off rfl rfl rfl (by kernel_rfl) ?_
    refine ge_off rfl rfl rfl (by kernel_rfl) ?_
    refine ge_batch [12, 13, 14] (ans := []) (vs := [(36, undef), (35, .bool false), (34, .bool false)]) (l := []) (by kernel_rfl) trivial ?_
    refine ge_off rfl rfl rfl (by kernel_rfl) ?_
    refine ge_off rfl rfl rfl (by kernel_rfl) ?_
    refine ge_batch [17, 18, 19, 20, 21] (ans := []) (vs := [(43, undef), (42, undef), (41, undef), (40, .bool false), (39, .bool false)]) (l := []) (by kernel_rfl) trivial ?_
    refine ge_off rfl rfl rfl (by kernel_rfl) ?_
    refine ge_off rfl rfl rfl (by kernel_rfl) ?_
    refine ge_batch [24, 25, 26, 27, 28] (ans := []) (vs := [(50, undef), (49, undef), (48, undef), (47, .bool false), (46, .bool false)]) (l := []) (by kernel_rfl) trivial ?_
    refine ge_off rfl rfl rfl (by kernel_rfl) ?_
    refine ge_off rfl rfl rfl (by kernel_rfl) ?_
    refine ge_batch [31, 32, 33, 34, 35, 36, 37] (ans := []) (vs := [(0, .bool false), (58, .bool false), (57, undef), (56, undef), (55, undef), (54, .bool false), (53, .bool false)]) (l := []) (by kernel_rfl) trivial ?_
    refine ge_nil fun a hF => hK4 _ _ ?_ a hF
    have hS40 := hS21.takeN 0
    obtain rfl := Option.some.inj h
    exact we_ret (post_ret (rs := [.tmp 0]) (ans := []) (vs := [.bool false]) (l := []) rfl (by kernel_rfl) trivial ⟨rfl, hS40⟩)

/-! punctual/punctuallaw.few -/
abbrev few.Post (w0 : World) (r : Bool) (e : Ending) (w : World) : Prop := e = .returned (.bool r) ∧ St w0 w []
def few.f (x0 : Int) : Bool :=
  decide (x0 ≤ 5000)
theorem few_ok (x0 : Int) (w0 : World) (r : Bool) (h : few.f x0 = r) :
    Calls Tryd.prog 8 #[.int .i64 x0] w0 (few.Post w0 r) := by
  have hS := St.start w0
  unfold few.f at h
  refine calls_enter (n := 5) (args := [.int .i64 x0]) (fn := Tryd.f8) rfl rfl rfl rfl ?_
  show WE _ _ _ _ [(0, .int .i64 x0)] _
  refine we_seq fun K1 hK1 => ?_
  refine we_region [(0, 0)] rfl ?_
  refine ge_batch [0] (ans := []) (vs := [(2, .bool false)]) (l := []) (by kernel_rfl) trivial ?_
  refine ge_nil fun a hF => hK1 _ _ ?_ a hF
  refine we_seq fun K2 hK2 => ?_
  refine we_region [(0, 0), (1, 0), (2, 0)] rfl ?_
  refine ge_batch [0, 1, 2] (ans := []) (vs := [(2, .bool (decide (x0 ≤ 5000))), (4, .bool (decide (x0 ≤ 5000))), (3, .int .i64 x0)]) (l := []) (by kernel_rfl) trivial ?_
  refine ge_nil fun a hF => hK2 _ _ ?_ a hF
  subst h
  exact we_ret (post_ret (rs := [.tmp 2]) (ans := []) (vs := [.bool (decide (x0 ≤ 5000))]) (l := []) rfl (by kernel_rfl) trivial ⟨rfl, hS⟩)

/-! punctual/punctualsame.Lend[punctual/api.Crit] -/
abbrev ps_Lend_api_Crit.Post (w0 : World) (n : Nat) (r : List SCrit) (e : Ending) (w : World) : Prop := ∃ (A : Option Addr) (c : Nat), e = .returned (.slice A n c) ∧ r.length ≤ c ∧ St w0 w [Own.of (.slice A r.length c) 27 r]
def ps_Lend_api_Crit.f (l0 : List SCrit) (x1 : SCrit) : Option (List SCrit) :=
  if 0 ≤ (IntKind.i64.wrap ((l0.length : Int) + 3)) then
    if ((IntKind.i64.wrap ((l0.length : Int) + 3)).toNat) ≤ 2932031007402 then
      if (List.replicate 0 (⟨0, 0, 0, 0, false, 0⟩ : SCrit)).length + l0.length ≤ 2932031007402 then
        if ((List.replicate 0 (⟨0, 0, 0, 0, false, 0⟩ : SCrit)) ++ l0).length + 3 ≤ 2932031007402 then
          some (((List.replicate 0 (⟨0, 0, 0, 0, false, 0⟩ : SCrit)) ++ l0) ++ ([x1, x1, x1] : List SCrit))
        else
          none
      else
        none
    else
      none
  else
    none
theorem ps_Lend_api_Crit_ok (l0 : List SCrit) (A0 : Option Addr) (c0 : Nat) (x1 : SCrit) (w0 : World) (hR0 : RdL w0 A0 l0) (hL0 : l0.length ≤ c0) (r : List SCrit) (h : ps_Lend_api_Crit.f l0 x1 = some r) :
    Calls Tryd.prog 9 #[.slice A0 l0.length c0, .agg #[.int .i64 x1.C, .int .i64 x1.H, .int .i64 x1.T, .int .i64 x1.D, .bool x1.High, .int .i64 x1.P]] w0 (ps_Lend_api_Crit.Post w0 l0.length r) := by
  have hS := St.start w0
  unfold ps_Lend_api_Crit.f at h
  refine calls_enter (n := 21) (args := [.slice A0 l0.length c0, .agg #[.int .i64 x1.C, .int .i64 x1.H, .int .i64 x1.T, .int .i64 x1.D, .bool x1.High, .int .i64 x1.P]]) (fn := Tryd.f9) rfl rfl rfl rfl ?_
  show WE _ _ _ _ [(0, .slice A0 l0.length c0), (1, .agg #[.int .i64 x1.C, .int .i64 x1.H, .int .i64 x1.T, .int .i64 x1.D, .bool x1.High, .int .i64 x1.P])] _
  refine we_seq fun K1 hK1 => ?_
  refine we_region [(0, 1), (1, 0)] rfl ?_
  refine ge_new (d := some 3) (o := .cells #[.int .i64 x1.C, .int .i64 x1.H, .int .i64 x1.T, .int .i64 x1.D, .bool x1.High, .int .i64 x1.P] 27) (v := fun b => .pointer (some ⟨b, 0, none⟩)) hS (fun b => by kernel_rfl) fun b1 w1 hx1 hS1 => ?_
  refine ge_batch [1] (ans := []) (vs := [(4, .slice none 0 0)]) (l := []) (by kernel_rfl) trivial ?_
  refine ge_nil fun a hF => hK1 _ _ ?_ a hF
  refine we_seq fun K2 hK2 => ?_
  refine we_orders3 (by kernel_rfl) [(6, [⟨b1, 0, none⟩, ⟨b1, 1, none⟩, ⟨b1, 2, none⟩, ⟨b1, 3, none⟩, ⟨b1, 4, none⟩, ⟨b1, 5, none⟩], [9, 10], []), (7, [⟨b1, 0, none⟩, ⟨b1, 1, none⟩, ⟨b1, 2, none⟩, ⟨b1, 3, none⟩, ⟨b1, 4, none⟩, ⟨b1, 5, none⟩], [9, 10], []), (8, [⟨b1, 0, none⟩, ⟨b1, 1, none⟩, ⟨b1, 2, none⟩, ⟨b1, 3, none⟩, ⟨b1, 4, none⟩, ⟨b1, 5, none⟩], [9, 10], [])] (.vals [0] (.vals [1] (.vals [2] (.vals [4] (.vals [6] (.vals [7] (.vals [8] (.alt 3 1 (.alt 5 2 (.alt 9 1 (.alt 10 2 (.vals [11] .fin) .nomore) .nomore) (.alt 9 1 (.alt 5 2 (.alt 10 2 (.vals [11] .fin) .nomore) .nomore) .nomore)) (.alt 9 1 (.alt 3 1 (.alt 5 2 (.alt 10 2 (.vals [11] .fin) .nomore) .nomore) .nomore) .nomore))))))))) (by kernel_rfl) (by kernel_rfl) ?_
  have hS2 := hS1.drew
  refine go3_batch [0, 1, 2, 4] (ans := []) (vs := [(10, .slice A0 l0.length c0), (8, .int .i64 (IntKind.i64.wrap ((l0.length : Int) + 3))), (7, .int .i64 (l0.length : Int)), (6, .slice A0 l0.length c0)]) (l := []) (by kernel_rfl) trivial mem_nil3 ?_
  refine go3_batch [6] (ans := [.val (.int .i64 x1.C), .val (.int .i64 x1.H), .val (.int .i64 x1.T), .val (.int .i64 x1.D), .val (.bool x1.High), .val (.int .i64 x1.P)]) (vs := [(12, .agg #[.int .i64 x1.C, .int .i64 x1.H, .int .i64 x1.T, .int .i64 x1.D, .bool x1.High, .int .i64 x1.P])]) (l := [.loaded ⟨b1, 0, none⟩ (.int .i64 x1.C), .loaded ⟨b1, 1, none⟩ (.int .i64 x1.H), .loaded ⟨b1, 2, none⟩ (.int .i64 x1.T), .loaded ⟨b1, 3, none⟩ (.int .i64 x1.D), .loaded ⟨b1, 4, none⟩ (.bool x1.High), .loaded ⟨b1, 5, none⟩ (.int .i64 x1.P)]) (by kernel_rfl) ⟨hS2.cell 0 rfl rfl, hS2.cell 0 rfl rfl, hS2.cell 0 rfl rfl, hS2.cell 0 rfl rfl, hS2.cell 0 rfl rfl, hS2.cell 0 rfl rfl, trivial⟩ (mem_one3 (by kernel_rfl)) ?_
  refine go3_batch [7] (ans := [.val (.int .i64 x1.C), .val (.int .i64 x1.H), .val (.int .i64 x1.T), .val (.int .i64 x1.D), .val (.bool x1.High), .val (.int .i64 x1.P)]) (vs := [(13, .agg #[.int .i64 x1.C, .int .i64 x1.H, .int .i64 x1.T, .int .i64 x1.D, .bool x1.High, .int .i64 x1.P])]) (l := [.loaded ⟨b1, 0, none⟩ (.int .i64 x1.C), .loaded ⟨b1, 1, none⟩ (.int .i64 x1.H), .loaded ⟨b1, 2, none⟩ (.int .i64 x1.T), .loaded ⟨b1, 3, none⟩ (.int .i64 x1.D), .loaded ⟨b1, 4, none⟩ (.bool x1.High), .loaded ⟨b1, 5, none⟩ (.int .i64 x1.P)]) (by kernel_rfl) ⟨hS2.cell 0 rfl rfl, hS2.cell 0 rfl rfl, hS2.cell 0 rfl rfl, hS2.cell 0 rfl rfl, hS2.cell 0 rfl rfl, hS2.cell 0 rfl rfl, trivial⟩ (mem_one3 (by kernel_rfl)) ?_
  refine go3_batch [8] (ans := [.val (.int .i64 x1.C), .val (.int .i64 x1.H), .val (.int .i64 x1.T), .val (.int .i64 x1.D), .val (.bool x1.High), .val (.int .i64 x1.P)]) (vs := [(14, .agg #[.int .i64 x1.C, .int .i64 x1.H, .int .i64 x1.T, .int .i64 x1.D, .bool x1.High, .int .i64 x1.P])]) (l := [.loaded ⟨b1, 0, none⟩ (.int .i64 x1.C), .loaded ⟨b1, 1, none⟩ (.int .i64 x1.H), .loaded ⟨b1, 2, none⟩ (.int .i64 x1.T), .loaded ⟨b1, 3, none⟩ (.int .i64 x1.D), .loaded ⟨b1, 4, none⟩ (.bool x1.High), .loaded ⟨b1, 5, none⟩ (.int .i64 x1.P)]) (by kernel_rfl) ⟨hS2.cell 0 rfl rfl, hS2.cell 0 rfl rfl, hS2.cell 0 rfl rfl, hS2.cell 0 rfl rfl, hS2.cell 0 rfl rfl, hS2.cell 0 rfl rfl, trivial⟩ (mem_one3 (by kernel_rfl)) ?_
  by_cases hc1 : 0 ≤ (IntKind.i64.wrap ((l0.length : Int) + 3))
  · rw [if_pos hc1] at h
    by_cases hc2 : ((IntKind.i64.wrap ((l0.length : Int) + 3)).toNat) ≤ 2932031007402
    · rw [if_pos hc2] at h
      refine go_alt3 (fun KK hKK => ?_) ?_
      · refine ge_one2 ?_
        refine ge_make (α := SCrit) (d := 9) (t := 22) (el := 27) (bytes := 48) (l := 0) (c := ((IntKind.i64.wrap ((l0.length : Int) + 3)).toNat)) (x := (.const (.int .i64 0))) (y := (.tmp 8)) (ty := 22) (k1 := .i64) (k2 := .i64) (li := 0) (ci := (IntKind.i64.wrap ((l0.length : Int) + 3))) (z := .agg #[.int .i64 0, .int .i64 0, .int .i64 0, .int .i64 0, .bool false, .int .i64 0]) (z' := (⟨0, 0, 0, 0, false, 0⟩ : SCrit)) (by kernel_rfl) (by kernel_rfl) (by kernel_rfl) rfl (Int.toNat_of_nonneg hc1).symm (by kernel_rfl) (by kernel_rfl) rfl hS2 (Nat.zero_le _) rfl (by omega) fun v1 w2 _ hS3 => ?_
        refine ge_nil fun a hF => hKK _ _ (RS.of2 (l := [.loaded ⟨b1, 0, none⟩ (.int .i64 x1.C), .loaded ⟨b1, 1, none⟩ (.int .i64 x1.H), .loaded ⟨b1, 2, none⟩ (.int .i64 x1.T), .loaded ⟨b1, 3, none⟩ (.int .i64 x1.D), .loaded ⟨b1, 4, none⟩ (.bool x1.High), .loaded ⟨b1, 5, none⟩ (.int .i64 x1.P), .loaded ⟨b1, 0, none⟩ (.int .i64 x1.C), .loaded ⟨b1, 1, none⟩ (.int .i64 x1.H), .loaded ⟨b1, 2, none⟩ (.int .i64 x1.T), .loaded ⟨b1, 3, none⟩ (.int .i64 x1.D), .loaded ⟨b1, 4, none⟩ (.bool x1.High), .loaded ⟨b1, 5, none⟩ (.int .i64 x1.P), .loaded ⟨b1, 0, none⟩ (.int .i64 x1.C), .loaded ⟨b1, 1, none⟩ (.int .i64 x1.H), .loaded ⟨b1, 2, none⟩ (.int .i64 x1.T), .loaded ⟨b1, 3, none⟩ (.int .i64 x1.D), .loaded ⟨b1, 4, none⟩ (.bool x1.High), .loaded ⟨b1, 5, none⟩ (.int .i64 x1.P)]) (by kernel_rfl) ⟨hS2.cell 0 rfl rfl, hS2.cell 0 rfl rfl, hS2.cell 0 rfl rfl, hS2.cell 0 rfl rfl, hS2.cell 0 rfl rfl, hS2.cell 0 rfl rfl, hS2.cell 0 rfl rfl, hS2.cell 0 rfl rfl, hS2.cell 0 rfl rfl, hS2.cell 0 rfl rfl, hS2.cell 0 rfl rfl, hS2.cell 0 rfl rfl, hS2.cell 0 rfl rfl, hS2.cell 0 rfl rfl, hS2.cell 0 rfl rfl, hS2.cell 0 rfl rfl, hS2.cell 0 rfl rfl, hS2.cell 0 rfl rfl, trivial⟩ ⟨hS3.cell 1 rfl rfl, hS3.cell 1 rfl rfl, hS3.cell 1 rfl rfl, hS3.cell 1 rfl rfl, hS3.cell 1 rfl rfl, hS3.cell 1 rfl rfl, hS3.cell 1 rfl rfl, hS3.cell 1 rfl rfl, hS3.cell 1 rfl rfl, hS3.cell 1 rfl rfl, hS3.cell 1 rfl rfl, hS3.cell 1 rfl rfl, hS3.cell 1 rfl rfl, hS3.cell 1 rfl rfl, hS3.cell 1 rfl rfl, hS3.cell 1 rfl rfl, hS3.cell 1 rfl rfl, hS3.cell 1 rfl rfl, trivial⟩) ?_ a hF
        refine go_alt3 (fun KK hKK => ?_) ?_
        · by_cases hc3 : (List.replicate 0 (⟨0, 0, 0, 0, false, 0⟩ : SCrit)).length + l0.length ≤ 2932031007402
          · rw [if_pos hc3] at h
            refine ge_appendL (α := SCrit) (m := 0) (d := 11) (t := 22) (el := 27) (bytes := 48) (c1 := c0) (A1 := A0) (x := (.tmp 9)) (y := (.tmp 10)) (ty := 22) (v := v1) (z := .agg #[.int .i64 0, .int .i64 0, .int .i64 0, .int .i64 0, .bool false, .int .i64 0]) (l := (List.replicate 0 (⟨0, 0, 0, 0, false, 0⟩ : SCrit))) (us := l0) (by kernel_rfl) (by kernel_rfl) (by kernel_rfl) (by kernel_rfl) (by kernel_rfl) rfl hS3 (hS3.rd hR0) rfl (Nat.mul_le_of_le_div _ _ _ hc3) fun v2 w3 hS4 => ?_
            have hS5 : St w0 w3 [Own.of v2 27 ((List.replicate 0 (⟨0, 0, 0, 0, false, 0⟩ : SCrit)) ++ l0), Own.blk b1 (.cells #[.int .i64 x1.C, .int .i64 x1.H, .int .i64 x1.T, .int .i64 x1.D, .bool x1.High, .int .i64 x1.P] 27 (0, 0))] := hS4
            refine ge_nil fun a hF => hKK _ _ (RS.of2 (l := [.loaded ⟨b1, 0, none⟩ (.int .i64 x1.C), .loaded ⟨b1, 1, none⟩ (.int .i64 x1.H), .loaded ⟨b1, 2, none⟩ (.int .i64 x1.T), .loaded ⟨b1, 3, none⟩ (.int .i64 x1.D), .loaded ⟨b1, 4, none⟩ (.bool x1.High), .loaded ⟨b1, 5, none⟩ (.int .i64 x1.P), .loaded ⟨b1, 0, none⟩ (.int .i64 x1.C), .loaded ⟨b1, 1, none⟩ (.int .i64 x1.H), .loaded ⟨b1, 2, none⟩ (.int .i64 x1.T), .loaded ⟨b1, 3, none⟩ (.int .i64 x1.D), .loaded ⟨b1, 4, none⟩ (.bool x1.High), .loaded ⟨b1, 5, none⟩ (.int .i64 x1.P), .loaded ⟨b1, 0, none⟩ (.int .i64 x1.C), .loaded ⟨b1, 1, none⟩ (.int .i64 x1.H), .loaded ⟨b1, 2, none⟩ (.int .i64 x1.T), .loaded ⟨b1, 3, none⟩ (.int .i64 x1.D), .loaded ⟨b1, 4, none⟩ (.bool x1.High), .loaded ⟨b1, 5, none⟩ (.int .i64 x1.P)]) (by kernel_rfl) ⟨hS3.cell 1 rfl rfl, hS3.cell 1 rfl rfl, hS3.cell 1 rfl rfl, hS3.cell 1 rfl rfl, hS3.cell 1 rfl rfl, hS3.cell 1 rfl rfl, hS3.cell 1 rfl rfl, hS3.cell 1 rfl rfl, hS3.cell 1 rfl rfl, hS3.cell 1 rfl rfl, hS3.cell 1 rfl rfl, hS3.cell 1 rfl rfl, hS3.cell 1 rfl rfl, hS3.cell 1 rfl rfl, hS3.cell 1 rfl rfl, hS3.cell 1 rfl rfl, hS3.cell 1 rfl rfl, hS3.cell 1 rfl rfl, trivial⟩ ⟨hS5.cell 1 rfl rfl, hS5.cell 1 rfl rfl, hS5.cell 1 rfl rfl, hS5.cell 1 rfl rfl, hS5.cell 1 rfl rfl, hS5.cell 1 rfl rfl, hS5.cell 1 rfl rfl, hS5.cell 1 rfl rfl, hS5.cell 1 rfl rfl, hS5.cell 1 rfl rfl, hS5.cell 1 rfl rfl, hS5.cell 1 rfl rfl, hS5.cell 1 rfl rfl, hS5.cell 1 rfl rfl, hS5.cell 1 rfl rfl, hS5.cell 1 rfl rfl, hS5.cell 1 rfl rfl, hS5.cell 1 rfl rfl, trivial⟩) ?_ a hF
            refine go_alt3 (fun KK hKK => ?_) ?_
            · refine ge_one2 ?_
              refine ge_new (d := some 15) (o := .cells #[.int .i64 x1.C, .int .i64 x1.H, .int .i64 x1.T, .int .i64 x1.D, .bool x1.High, .int .i64 x1.P, .int .i64 x1.C, .int .i64 x1.H, .int .i64 x1.T, .int .i64 x1.D, .bool x1.High, .int .i64 x1.P, .int .i64 x1.C, .int .i64 x1.H, .int .i64 x1.T, .int .i64 x1.D, .bool x1.High, .int .i64 x1.P] 27) (v := fun b => .slice (some ⟨b, 0, none⟩) 3 3) hS5 (fun b => by kernel_rfl) fun b2 w4 hx2 hS6 => ?_
              refine ge_nil fun a hF => hKK _ _ (RS.of2 (l := []) (by kernel_rfl) trivial trivial) ?_ a hF
              refine go_alt3 (fun KK hKK => ?_) ?_
              · have hS7 := hS6.bring 1 rfl
                by_cases hc4 : ((List.replicate 0 (⟨0, 0, 0, 0, false, 0⟩ : SCrit)) ++ l0).length + 3 ≤ 2932031007402
                · rw [if_pos hc4] at h
                  refine ge_appendL (α := SCrit) (m := 0) (d := 16) (t := 22) (el := 27) (bytes := 48) (c1 := 3) (A1 := (some ⟨b2, 0, none⟩)) (x := (.tmp 11)) (y := (.tmp 15)) (ty := 22) (v := v2) (z := .agg #[.int .i64 0, .int .i64 0, .int .i64 0, .int .i64 0, .bool false, .int .i64 0]) (l := ((List.replicate 0 (⟨0, 0, 0, 0, false, 0⟩ : SCrit)) ++ l0)) (us := ([x1, x1, x1] : List SCrit)) (by kernel_rfl) (by kernel_rfl) (by kernel_rfl) (by kernel_rfl) (by kernel_rfl) rfl hS7 (hS7.rdBlk 1 ([x1, x1, x1] : List SCrit) rfl rfl rfl) rfl (Nat.mul_le_of_le_div _ _ _ hc4) fun v3 w5 hS8 => ?_
                  have hS9 : St w0 w5 [Own.of v3 27 (((List.replicate 0 (⟨0, 0, 0, 0, false, 0⟩ : SCrit)) ++ l0) ++ ([x1, x1, x1] : List SCrit)), Own.blk b2 (.cells #[.int .i64 x1.C, .int .i64 x1.H, .int .i64 x1.T, .int .i64 x1.D, .bool x1.High, .int .i64 x1.P, .int .i64 x1.C, .int .i64 x1.H, .int .i64 x1.T, .int .i64 x1.D, .bool x1.High, .int .i64 x1.P, .int .i64 x1.C, .int .i64 x1.H, .int .i64 x1.T, .int .i64 x1.D, .bool x1.High, .int .i64 x1.P] 27 (0, 0)), Own.blk b1 (.cells #[.int .i64 x1.C, .int .i64 x1.H, .int .i64 x1.T, .int .i64 x1.D, .bool x1.High, .int .i64 x1.P] 27 (0, 0))] := hS8
                  refine ge_nil fun a hF => hKK _ _ (RS.of2 (l := []) (by kernel_rfl) trivial trivial) ?_ a hF
                  refine go3_batch [11] (ans := []) (vs := [(5, v3)]) (l := []) (by kernel_rfl) trivial mem_nil3 ?_
                  refine go_fin3 fun a hF => hK2 _ _ ?_ a hF
                  refine we_seq fun K3 hK3 => ?_
                  refine we_region [(0, 0), (1, 0), (2, 0), (3, 0), (4, 0)] rfl ?_
                  refine ge_batch [0, 1, 2] (ans := []) (vs := [(19, .int .i64 (l0.length : Int)), (18, .slice A0 l0.length c0), (17, v3)]) (l := []) (by kernel_rfl) trivial ?_
                  obtain ⟨Z1, cz1, rfl, hcp1⟩ := hS9.open2 0 rfl
                  refine ge_sliceHi (d := 20) (ty := 22) (t := 22) (el := 27) (sz := 6) (m := ((((List.replicate 0 (⟨0, 0, 0, 0, false, 0⟩ : SCrit)) ++ l0) ++ ([x1, x1, x1] : List SCrit)).length)) (c := cz1) (hn := l0.length) (x := (.tmp 17)) (y := (.tmp 19)) (A := Z1) (k' := .i64) (hi := (l0.length : Int)) (by kernel_rfl) (by kernel_rfl) (by kernel_rfl) rfl (by kernel_rfl) (by kernel_rfl) (by have h0 := hcp1; simp only [List.length_append, List.length_cons, List.length_nil] at h0; omega) ?_
                  refine ge_batch [4] (ans := []) (vs := [(4, .slice Z1 l0.length cz1)]) (l := []) (by kernel_rfl) trivial ?_
                  refine ge_nil fun a hF => hK3 _ _ ?_ a hF
                  have hS10 := hS9.takeN 1
                  obtain rfl := Option.some.inj h
                  exact we_ret (post_ret (rs := [.tmp 4]) (ans := []) (vs := [.slice Z1 l0.length cz1]) (l := []) rfl (by kernel_rfl) trivial ⟨Z1, cz1, rfl, hcp1, hS10⟩)
                · rw [if_neg hc4] at h
                  cases h
              exact go_nomore3
            exact go_nomore3
          · rw [if_neg hc3] at h
            cases h
        refine go_alt3 (fun KK hKK => ?_) ?_
        · refine ge_one2 ?_
          refine ge_new (d := some 15) (o := .cells #[.int .i64 x1.C, .int .i64 x1.H, .int .i64 x1.T, .int .i64 x1.D, .bool x1.High, .int .i64 x1.P, .int .i64 x1.C, .int .i64 x1.H, .int .i64 x1.T, .int .i64 x1.D, .bool x1.High, .int .i64 x1.P, .int .i64 x1.C, .int .i64 x1.H, .int .i64 x1.T, .int .i64 x1.D, .bool x1.High, .int .i64 x1.P] 27) (v := fun b => .slice (some ⟨b, 0, none⟩) 3 3) hS3 (fun b => by kernel_rfl) fun b2 w3 hx2 hS4 => ?_
          refine ge_nil fun a hF => hKK _ _ (RS.of2 (l := []) (by kernel_rfl) trivial trivial) ?_ a hF
          refine go_alt3 (fun KK hKK => ?_) ?_
          · have hS5 := hS4.bring 1 rfl
            by_cases hc3 : (List.replicate 0 (⟨0, 0, 0, 0, false, 0⟩ : SCrit)).length + l0.length ≤ 2932031007402
            · rw [if_pos hc3] at h
              refine ge_appendL (α := SCrit) (m := 0) (d := 11) (t := 22) (el := 27) (bytes := 48) (c1 := c0) (A1 := A0) (x := (.tmp 9)) (y := (.tmp 10)) (ty := 22) (v := v1) (z := .agg #[.int .i64 0, .int .i64 0, .int .i64 0, .int .i64 0, .bool false, .int .i64 0]) (l := (List.replicate 0 (⟨0, 0, 0, 0, false, 0⟩ : SCrit))) (us := l0) (by kernel_rfl) (by kernel_rfl) (by kernel_rfl) (by kernel_rfl) (by kernel_rfl) rfl hS5 (hS5.rd hR0) rfl (Nat.mul_le_of_le_div _ _ _ hc3) fun v2 w4 hS6 => ?_
              have hS7 : St w0 w4 [Own.of v2 27 ((List.replicate 0 (⟨0, 0, 0, 0, false, 0⟩ : SCrit)) ++ l0), Own.blk b2 (.cells #[.int .i64 x1.C, .int .i64 x1.H, .int .i64 x1.T, .int .i64 x1.D, .bool x1.High, .int .i64 x1.P, .int .i64 x1.C, .int .i64 x1.H, .int .i64 x1.T, .int .i64 x1.D, .bool x1.High, .int .i64 x1.P, .int .i64 x1.C, .int .i64 x1.H, .int .i64 x1.T, .int .i64 x1.D, .bool x1.High, .int .i64 x1.P] 27 (0, 0)), Own.blk b1 (.cells #[.int .i64 x1.C, .int .i64 x1.H, .int .i64 x1.T, .int .i64 x1.D, .bool x1.High, .int .i64 x1.P] 27 (0, 0))] := hS6
              refine ge_nil fun a hF => hKK _ _ (RS.of2 (l := [.loaded ⟨b1, 0, none⟩ (.int .i64 x1.C), .loaded ⟨b1, 1, none⟩ (.int .i64 x1.H), .loaded ⟨b1, 2, none⟩ (.int .i64 x1.T), .loaded ⟨b1, 3, none⟩ (.int .i64 x1.D), .loaded ⟨b1, 4, none⟩ (.bool x1.High), .loaded ⟨b1, 5, none⟩ (.int .i64 x1.P), .loaded ⟨b1, 0, none⟩ (.int .i64 x1.C), .loaded ⟨b1, 1, none⟩ (.int .i64 x1.H), .loaded ⟨b1, 2, none⟩ (.int .i64 x1.T), .loaded ⟨b1, 3, none⟩ (.int .i64 x1.D), .loaded ⟨b1, 4, none⟩ (.bool x1.High), .loaded ⟨b1, 5, none⟩ (.int .i64 x1.P), .loaded ⟨b1, 0, none⟩ (.int .i64 x1.C), .loaded ⟨b1, 1, none⟩ (.int .i64 x1.H), .loaded ⟨b1, 2, none⟩ (.int .i64 x1.T), .loaded ⟨b1, 3, none⟩ (.int .i64 x1.D), .loaded ⟨b1, 4, none⟩ (.bool x1.High), .loaded ⟨b1, 5, none⟩ (.int .i64 x1.P)]) (by kernel_rfl) ⟨hS4.cell 2 rfl rfl, hS4.cell 2 rfl rfl, hS4.cell 2 rfl rfl, hS4.cell 2 rfl rfl, hS4.cell 2 rfl rfl, hS4.cell 2 rfl rfl, hS4.cell 2 rfl rfl, hS4.cell 2 rfl rfl, hS4.cell 2 rfl rfl, hS4.cell 2 rfl rfl, hS4.cell 2 rfl rfl, hS4.cell 2 rfl rfl, hS4.cell 2 rfl rfl, hS4.cell 2 rfl rfl, hS4.cell 2 rfl rfl, hS4.cell 2 rfl rfl, hS4.cell 2 rfl rfl, hS4.cell 2 rfl rfl, trivial⟩ ⟨hS7.cell 2 rfl rfl, hS7.cell 2 rfl rfl, hS7.cell 2 rfl rfl, hS7.cell 2 rfl rfl, hS7.cell 2 rfl rfl, hS7.cell 2 rfl rfl, hS7.cell 2 rfl rfl, hS7.cell 2 rfl rfl, hS7.cell 2 rfl rfl, hS7.cell 2 rfl rfl, hS7.cell 2 rfl rfl, hS7.cell 2 rfl rfl, hS7.cell 2 rfl rfl, hS7.cell 2 rfl rfl, hS7.cell 2 rfl rfl, hS7.cell 2 rfl rfl, hS7.cell 2 rfl rfl, hS7.cell 2 rfl rfl, trivial⟩) ?_ a hF
              refine go_alt3 (fun KK hKK => ?_) ?_
              · by_cases hc4 : ((List.replicate 0 (⟨0, 0, 0, 0, false, 0⟩ : SCrit)) ++ l0).length + 3 ≤ 2932031007402
                · rw [if_pos hc4] at h
                  refine ge_appendL (α := SCrit) (m := 0) (d := 16) (t := 22) (el := 27) (bytes := 48) (c1 := 3) (A1 := (some ⟨b2, 0, none⟩)) (x := (.tmp 11)) (y := (.tmp 15)) (ty := 22) (v := v2) (z := .agg #[.int .i64 0, .int .i64 0, .int .i64 0, .int .i64 0, .bool false, .int .i64 0]) (l := ((List.replicate 0 (⟨0, 0, 0, 0, false, 0⟩ : SCrit)) ++ l0)) (us := ([x1, x1, x1] : List SCrit)) (by kernel_rfl) (by kernel_rfl) (by kernel_rfl) (by kernel_rfl) (by kernel_rfl) rfl hS7 (hS7.rdBlk 1 ([x1, x1, x1] : List SCrit) rfl rfl rfl) rfl (Nat.mul_le_of_le_div _ _ _ hc4) fun v3 w5 hS8 => ?_
                  have hS9 : St w0 w5 [Own.of v3 27 (((List.replicate 0 (⟨0, 0, 0, 0, false, 0⟩ : SCrit)) ++ l0) ++ ([x1, x1, x1] : List SCrit)), Own.blk b2 (.cells #[.int .i64 x1.C, .int .i64 x1.H, .int .i64 x1.T, .int .i64 x1.D, .bool x1.High, .int .i64 x1.P, .int .i64 x1.C, .int .i64 x1.H, .int .i64 x1.T, .int .i64 x1.D, .bool x1.High, .int .i64 x1.P, .int .i64 x1.C, .int .i64 x1.H, .int .i64 x1.T, .int .i64 x1.D, .bool x1.High, .int .i64 x1.P] 27 (0, 0)), Own.blk b1 (.cells #[.int .i64 x1.C, .int .i64 x1.H, .int .i64 x1.T, .int .i64 x1.D, .bool x1.High, .int .i64 x1.P] 27 (0, 0))] := hS8
                  refine ge_nil fun a hF => hKK _ _ (RS.of2 (l := []) (by kernel_rfl) trivial trivial) ?_ a hF
                  refine go3_batch [11] (ans := []) (vs := [(5, v3)]) (l := []) (by kernel_rfl) trivial mem_nil3 ?_
                  refine go_fin3 fun a hF => hK2 _ _ ?_ a hF
                  refine we_seq fun K3 hK3 => ?_
                  refine we_region [(0, 0), (1, 0), (2, 0), (3, 0), (4, 0)] rfl ?_
                  refine ge_batch [0, 1, 2] (ans := []) (vs := [(19, .int .i64 (l0.length : Int)), (18, .slice A0 l0.length c0), (17, v3)]) (l := []) (by kernel_rfl) trivial ?_
                  obtain ⟨Z1, cz1, rfl, hcp1⟩ := hS9.open2 0 rfl
                  refine ge_sliceHi (d := 20) (ty := 22) (t := 22) (el := 27) (sz := 6) (m := ((((List.replicate 0 (⟨0, 0, 0, 0, false, 0⟩ : SCrit)) ++ l0) ++ ([x1, x1, x1] : List SCrit)).length)) (c := cz1) (hn := l0.length) (x := (.tmp 17)) (y := (.tmp 19)) (A := Z1) (k' := .i64) (hi := (l0.length : Int)) (by kernel_rfl) (by kernel_rfl) (by kernel_rfl) rfl (by kernel_rfl) (by kernel_rfl) (by have h0 := hcp1; simp only [List.length_append, List.length_cons, List.length_nil] at h0; omega) ?_
                  refine ge_batch [4] (ans := []) (vs := [(4, .slice Z1 l0.length cz1)]) (l := []) (by kernel_rfl) trivial ?_
                  refine ge_nil fun a hF => hK3 _ _ ?_ a hF
                  have hS10 := hS9.takeN 1
                  obtain rfl := Option.some.inj h
                  exact we_ret (post_ret (rs := [.tmp 4]) (ans := []) (vs := [.slice Z1 l0.length cz1]) (l := []) rfl (by kernel_rfl) trivial ⟨Z1, cz1, rfl, hcp1, hS10⟩)
                · rw [if_neg hc4] at h
                  cases h
              exact go_nomore3
            · rw [if_neg hc3] at h
              cases h
          exact go_nomore3
        exact go_nomore3
      refine go_alt3 (fun KK hKK => ?_) ?_
      · refine ge_one2 ?_
        refine ge_new (d := some 15) (o := .cells #[.int .i64 x1.C, .int .i64 x1.H, .int .i64 x1.T, .int .i64 x1.D, .bool x1.High, .int .i64 x1.P, .int .i64 x1.C, .int .i64 x1.H, .int .i64 x1.T, .int .i64 x1.D, .bool x1.High, .int .i64 x1.P, .int .i64 x1.C, .int .i64 x1.H, .int .i64 x1.T, .int .i64 x1.D, .bool x1.High, .int .i64 x1.P] 27) (v := fun b => .slice (some ⟨b, 0, none⟩) 3 3) hS2 (fun b => by kernel_rfl) fun b2 w2 hx2 hS3 => ?_
        refine ge_nil fun a hF => hKK _ _ (RS.of2 (l := []) (by kernel_rfl) trivial trivial) ?_ a hF
        refine go_alt3 (fun KK hKK => ?_) ?_
        · refine ge_one2 ?_
          refine ge_make (α := SCrit) (d := 9) (t := 22) (el := 27) (bytes := 48) (l := 0) (c := ((IntKind.i64.wrap ((l0.length : Int) + 3)).toNat)) (x := (.const (.int .i64 0))) (y := (.tmp 8)) (ty := 22) (k1 := .i64) (k2 := .i64) (li := 0) (ci := (IntKind.i64.wrap ((l0.length : Int) + 3))) (z := .agg #[.int .i64 0, .int .i64 0, .int .i64 0, .int .i64 0, .bool false, .int .i64 0]) (z' := (⟨0, 0, 0, 0, false, 0⟩ : SCrit)) (by kernel_rfl) (by kernel_rfl) (by kernel_rfl) rfl (Int.toNat_of_nonneg hc1).symm (by kernel_rfl) (by kernel_rfl) rfl hS3 (Nat.zero_le _) rfl (by omega) fun v1 w3 _ hS4 => ?_
          refine ge_nil fun a hF => hKK _ _ (RS.of2 (l := [.loaded ⟨b1, 0, none⟩ (.int .i64 x1.C), .loaded ⟨b1, 1, none⟩ (.int .i64 x1.H), .loaded ⟨b1, 2, none⟩ (.int .i64 x1.T), .loaded ⟨b1, 3, none⟩ (.int .i64 x1.D), .loaded ⟨b1, 4, none⟩ (.bool x1.High), .loaded ⟨b1, 5, none⟩ (.int .i64 x1.P), .loaded ⟨b1, 0, none⟩ (.int .i64 x1.C), .loaded ⟨b1, 1, none⟩ (.int .i64 x1.H), .loaded ⟨b1, 2, none⟩ (.int .i64 x1.T), .loaded ⟨b1, 3, none⟩ (.int .i64 x1.D), .loaded ⟨b1, 4, none⟩ (.bool x1.High), .loaded ⟨b1, 5, none⟩ (.int .i64 x1.P), .loaded ⟨b1, 0, none⟩ (.int .i64 x1.C), .loaded ⟨b1, 1, none⟩ (.int .i64 x1.H), .loaded ⟨b1, 2, none⟩ (.int .i64 x1.T), .loaded ⟨b1, 3, none⟩ (.int .i64 x1.D), .loaded ⟨b1, 4, none⟩ (.bool x1.High), .loaded ⟨b1, 5, none⟩ (.int .i64 x1.P)]) (by kernel_rfl) ⟨hS3.cell 1 rfl rfl, hS3.cell 1 rfl rfl, hS3.cell 1 rfl rfl, hS3.cell 1 rfl rfl, hS3.cell 1 rfl rfl, hS3.cell 1 rfl rfl, hS3.cell 1 rfl rfl, hS3.cell 1 rfl rfl, hS3.cell 1 rfl rfl, hS3.cell 1 rfl rfl, hS3.cell 1 rfl rfl, hS3.cell 1 rfl rfl, hS3.cell 1 rfl rfl, hS3.cell 1 rfl rfl, hS3.cell 1 rfl rfl, hS3.cell 1 rfl rfl, hS3.cell 1 rfl rfl, hS3.cell 1 rfl rfl, trivial⟩ ⟨hS4.cell 2 rfl rfl, hS4.cell 2 rfl rfl, hS4.cell 2 rfl rfl, hS4.cell 2 rfl rfl, hS4.cell 2 rfl rfl, hS4.cell 2 rfl rfl, hS4.cell 2 rfl rfl, hS4.cell 2 rfl rfl, hS4.cell 2 rfl rfl, hS4.cell 2 rfl rfl, hS4.cell 2 rfl rfl, hS4.cell 2 rfl rfl, hS4.cell 2 rfl rfl, hS4.cell 2 rfl rfl, hS4.cell 2 rfl rfl, hS4.cell 2 rfl rfl, hS4.cell 2 rfl rfl, hS4.cell 2 rfl rfl, trivial⟩) ?_ a hF
          refine go_alt3 (fun KK hKK => ?_) ?_
          · by_cases hc3 : (List.replicate 0 (⟨0, 0, 0, 0, false, 0⟩ : SCrit)).length + l0.length ≤ 2932031007402
            · rw [if_pos hc3] at h
              refine ge_appendL (α := SCrit) (m := 0) (d := 11) (t := 22) (el := 27) (bytes := 48) (c1 := c0) (A1 := A0) (x := (.tmp 9)) (y := (.tmp 10)) (ty := 22) (v := v1) (z := .agg #[.int .i64 0, .int .i64 0, .int .i64 0, .int .i64 0, .bool false, .int .i64 0]) (l := (List.replicate 0 (⟨0, 0, 0, 0, false, 0⟩ : SCrit))) (us := l0) (by kernel_rfl) (by kernel_rfl) (by kernel_rfl) (by kernel_rfl) (by kernel_rfl) rfl hS4 (hS4.rd hR0) rfl (Nat.mul_le_of_le_div _ _ _ hc3) fun v2 w4 hS5 => ?_
              have hS6 : St w0 w4 [Own.of v2 27 ((List.replicate 0 (⟨0, 0, 0, 0, false, 0⟩ : SCrit)) ++ l0), Own.blk b2 (.cells #[.int .i64 x1.C, .int .i64 x1.H, .int .i64 x1.T, .int .i64 x1.D, .bool x1.High, .int .i64 x1.P, .int .i64 x1.C, .int .i64 x1.H, .int .i64 x1.T, .int .i64 x1.D, .bool x1.High, .int .i64 x1.P, .int .i64 x1.C, .int .i64 x1.H, .int .i64 x1.T, .int .i64 x1.D, .bool x1.High, .int .i64 x1.P] 27 (0, 0)), Own.blk b1 (.cells #[.int .i64 x1.C, .int .i64 x1.H, .int .i64 x1.T, .int .i64 x1.D, .bool x1.High, .int .i64 x1.P] 27 (0, 0))] := hS5
              refine ge_nil fun a hF => hKK _ _ (RS.of2 (l := [.loaded ⟨b1, 0, none⟩ (.int .i64 x1.C), .loaded ⟨b1, 1, none⟩ (.int .i64 x1.H), .loaded ⟨b1, 2, none⟩ (.int .i64 x1.T), .loaded ⟨b1, 3, none⟩ (.int .i64 x1.D), .loaded ⟨b1, 4, none⟩ (.bool x1.High), .loaded ⟨b1, 5, none⟩ (.int .i64 x1.P), .loaded ⟨b1, 0, none⟩ (.int .i64 x1.C), .loaded ⟨b1, 1, none⟩ (.int .i64 x1.H), .loaded ⟨b1, 2, none⟩ (.int .i64 x1.T), .loaded ⟨b1, 3, none⟩ (.int .i64 x1.D), .loaded ⟨b1, 4, none⟩ (.bool x1.High), .loaded ⟨b1, 5, none⟩ (.int .i64 x1.P), .loaded ⟨b1, 0, none⟩ (.int .i64 x1.C), .loaded ⟨b1, 1, none⟩ (.int .i64 x1.H), .loaded ⟨b1, 2, none⟩ (.int .i64 x1.T), .loaded ⟨b1, 3, none⟩ (.int .i64 x1.D), .loaded ⟨b1, 4, none⟩ (.bool x1.High), .loaded ⟨b1, 5, none⟩ (.int .i64 x1.P)]) (by kernel_rfl) ⟨hS4.cell 2 rfl rfl, hS4.cell 2 rfl rfl, hS4.cell 2 rfl rfl, hS4.cell 2 rfl rfl, hS4.cell 2 rfl rfl, hS4.cell 2 rfl rfl, hS4.cell 2 rfl rfl, hS4.cell 2 rfl rfl, hS4.cell 2 rfl rfl, hS4.cell 2 rfl rfl, hS4.cell 2 rfl rfl, hS4.cell 2 rfl rfl, hS4.cell 2 rfl rfl, hS4.cell 2 rfl rfl, hS4.cell 2 rfl rfl, hS4.cell 2 rfl rfl, hS4.cell 2 rfl rfl, hS4.cell 2 rfl rfl, trivial⟩ ⟨hS6.cell 2 rfl rfl, hS6.cell 2 rfl rfl, hS6.cell 2 rfl rfl, hS6.cell 2 rfl rfl, hS6.cell 2 rfl rfl, hS6.cell 2 rfl rfl, hS6.cell 2 rfl rfl, hS6.cell 2 rfl rfl, hS6.cell 2 rfl rfl, hS6.cell 2 rfl rfl, hS6.cell 2 rfl rfl, hS6.cell 2 rfl rfl, hS6.cell 2 rfl rfl, hS6.cell 2 rfl rfl, hS6.cell 2 rfl rfl, hS6.cell 2 rfl rfl, hS6.cell 2 rfl rfl, hS6.cell 2 rfl rfl, trivial⟩) ?_ a hF
              refine go_alt3 (fun KK hKK => ?_) ?_
              · by_cases hc4 : ((List.replicate 0 (⟨0, 0, 0, 0, false, 0⟩ : SCrit)) ++ l0).length + 3 ≤ 2932031007402
                · rw [if_pos hc4] at h
                  refine ge_appendL (α := SCrit) (m := 0) (d := 16) (t := 22) (el := 27) (bytes := 48) (c1 := 3) (A1 := (some ⟨b2, 0, none⟩)) (x := (.tmp 11)) (y := (.tmp 15)) (ty := 22) (v := v2) (z := .agg #[.int .i64 0, .int .i64 0, .int .i64 0, .int .i64 0, .bool false, .int .i64 0]) (l := ((List.replicate 0 (⟨0, 0, 0, 0, false, 0⟩ : SCrit)) ++ l0)) (us := ([x1, x1, x1] : List SCrit)) (by kernel_rfl) (by kernel_rfl) (by kernel_rfl) (by kernel_rfl) (by kernel_rfl) rfl hS6 (hS6.rdBlk 1 ([x1, x1, x1] : List SCrit) rfl rfl rfl) rfl (Nat.mul_le_of_le_div _ _ _ hc4) fun v3 w5 hS7 => ?_
                  have hS8 : St w0 w5 [Own.of v3 27 (((List.replicate 0 (⟨0, 0, 0, 0, false, 0⟩ : SCrit)) ++ l0) ++ ([x1, x1, x1] : List SCrit)), Own.blk b2 (.cells #[.int .i64 x1.C, .int .i64 x1.H, .int .i64 x1.T, .int .i64 x1.D, .bool x1.High, .int .i64 x1.P, .int .i64 x1.C, .int .i64 x1.H, .int .i64 x1.T, .int .i64 x1.D, .bool x1.High, .int .i64 x1.P, .int .i64 x1.C, .int .i64 x1.H, .int .i64 x1.T, .int .i64 x1.D, .bool x1.High, .int .i64 x1.P] 27 (0, 0)), Own.blk b1 (.cells #[.int .i64 x1.C, .int .i64 x1.H, .int .i64 x1.T, .int .i64 x1.D, .bool x1.High, .int .i64 x1.P] 27 (0, 0))] := hS7
                  refine ge_nil fun a hF => hKK _ _ (RS.of2 (l := []) (by kernel_rfl) trivial trivial) ?_ a hF
                  refine go3_batch [11] (ans := []) (vs := [(5, v3)]) (l := []) (by kernel_rfl) trivial mem_nil3 ?_
                  refine go_fin3 fun a hF => hK2 _ _ ?_ a hF
                  refine we_seq fun K3 hK3 => ?_
                  refine we_region [(0, 0), (1, 0), (2, 0), (3, 0), (4, 0)] rfl ?_
                  refine ge_batch [0, 1, 2] (ans := []) (vs := [(19, .int .i64 (l0.length : Int)), (18, .slice A0 l0.length c0), (17, v3)]) (l := []) (by kernel_rfl) trivial ?_
                  obtain ⟨Z1, cz1, rfl, hcp1⟩ := hS8.open2 0 rfl
                  refine ge_sliceHi (d := 20) (ty := 22) (t := 22) (el := 27) (sz := 6) (m := ((((List.replicate 0 (⟨0, 0, 0, 0, false, 0⟩ : SCrit)) ++ l0) ++ ([x1, x1, x1] : List SCrit)).length)) (c := cz1) (hn := l0.length) (x := (.tmp 17)) (y := (.tmp 19)) (A := Z1) (k' := .i64) (hi := (l0.length : Int)) (by kernel_rfl) (by kernel_rfl) (by kernel_rfl) rfl (by kernel_rfl) (by kernel_rfl) (by have h0 := hcp1; simp only [List.length_append, List.length_cons, List.length_nil] at h0; omega) ?_
                  refine ge_batch [4] (ans := []) (vs := [(4, .slice Z1 l0.length cz1)]) (l := []) (by kernel_rfl) trivial ?_
                  refine ge_nil fun a hF => hK3 _ _ ?_ a hF
                  have hS9 := hS8.takeN 1
                  obtain rfl := Option.some.inj h
                  exact we_ret (post_ret (rs := [.tmp 4]) (ans := []) (vs := [.slice Z1 l0.length cz1]) (l := []) rfl (by kernel_rfl) trivial ⟨Z1, cz1, rfl, hcp1, hS9⟩)
                · rw [if_neg hc4] at h
                  cases h
              exact go_nomore3
            · rw [if_neg hc3] at h
              cases h
          exact go_nomore3
        exact go_nomore3
      exact go_nomore3
    · rw [if_neg hc2] at h
      cases h
  · rw [if_neg hc1] at h
    cases h
theorem ps_Lend_api_Crit_full (l0 : List SCrit) (x1 : SCrit) {r : List SCrit} (h : ps_Lend_api_Crit.f l0 x1 = some r) : r = l0 ++ [x1, x1, x1] := by
  unfold ps_Lend_api_Crit.f at h
  repeat' split at h
  all_goals first | (exact (Option.some.inj h).symm) | cases h

/-! punctual/punctualref.F -/
abbrev pr_F.Post (w0 : World) (r : SFault) (e : Ending) (w : World) : Prop := e = .returned (.agg #[.int .i64 r.Code, .int .i64 r.At]) ∧ St w0 w []
def pr_F.f (x0 : Int) (x1 : Int) : SFault :=
  (⟨x0, x1⟩ : SFault)
theorem pr_F_ok (x0 : Int) (x1 : Int) (w0 : World) (r : SFault) (h : pr_F.f x0 x1 = r) :
    Calls Tryd.prog 44 #[.int .i64 x0, .int .i64 x1] w0 (pr_F.Post w0 r) := by
  have hS := St.start w0
  unfold pr_F.f at h
  refine calls_enter (n := 8) (args := [.int .i64 x0, .int .i64 x1]) (fn := Tryd.f44) rfl rfl rfl rfl ?_
  show WE _ _ _ _ [(0, .int .i64 x0), (1, .int .i64 x1)] _
  refine we_seq fun K1 hK1 => ?_
  refine we_region [(0, 1)] rfl ?_
  refine ge_new (d := some 4) (o := .cells #[.int .i64 0, .int .i64 0] 31) (v := fun b => .pointer (some ⟨b, 0, none⟩)) hS (fun b => by kernel_rfl) fun b1 w1 hx1 hS1 => ?_
  refine ge_nil fun a hF => hK1 _ _ ?_ a hF
  refine we_seq fun K2 hK2 => ?_
  refine we_region [(0, 0), (1, 0), (2, 0), (3, 2)] rfl ?_
  refine ge_batch [0, 1, 2] (ans := []) (vs := [(7, .agg #[.int .i64 x0, .int .i64 x1]), (6, .int .i64 x1), (5, .int .i64 x0)]) (l := []) (by kernel_rfl) trivial ?_
  refine ge_set (b := b1) (j := 0) (cs := #[.int .i64 0, .int .i64 0]) (t := 31) (vs := [.int .i64 x0, .int .i64 x1]) hS1 (by kernel_rfl) rfl rfl fun w2 hS2 => ?_
  have hS3 := hS2.nc #[.int .i64 x0, .int .i64 x1] (by kernel_rfl)
  refine ge_nil fun a hF => hK2 _ _ ?_ a hF
  have hS4 := hS3.takeN 0
  subst h
  exact we_ret (post_ret (rs := [.cell 4 31]) (ans := [.val (.int .i64 x0), .val (.int .i64 x1)]) (vs := [.agg #[.int .i64 x0, .int .i64 x1]]) (l := [.loaded ⟨b1, 0, none⟩ (.int .i64 x0), .loaded ⟨b1, 1, none⟩ (.int .i64 x1)]) rfl (by kernel_rfl) ⟨hS3.cell 0 rfl rfl, hS3.cell 0 rfl rfl, trivial⟩ ⟨rfl, hS4⟩)

/-! punctual/punctualref.CheckCrit -/
abbrev pr_CheckCrit.Post (w0 : World) (r : SFault) (e : Ending) (w : World) : Prop := e = .returned (.agg #[.int .i64 r.Code, .int .i64 r.At]) ∧ St w0 w []
def pr_CheckCrit.p0 (l0 : List SCrit) : Option (Unit ⊕ SFault) :=
    if (l0.length : Int) = 0 then
      some (.inr (pr_F.f 2 0))
    else
      if (l0.length : Int) > 8 then
        some (.inr (pr_F.f 2 0))
      else
        some (.inl ())
def pr_CheckCrit.p2 (i1 : Nat) (e1 : SCrit) : Option (Unit ⊕ SFault) :=
    if e1.C < 1 then
      some (.inr (pr_F.f 3 (i1 : Int)))
    else
      if e1.H < e1.C then
        some (.inr (pr_F.f 3 (i1 : Int)))
      else
        if e1.T < 1 then
          some (.inr (pr_F.f 3 (i1 : Int)))
        else
          if e1.T > 10000 then
            some (.inr (pr_F.f 3 (i1 : Int)))
          else
            if e1.D < e1.C then
              some (.inr (pr_F.f 3 (i1 : Int)))
            else
              if e1.P < 0 then
                some (.inr (pr_F.f 3 (i1 : Int)))
              else
                if e1.P > 1000 then
                  some (.inr (pr_F.f 3 (i1 : Int)))
                else
                  some (.inl ())
def pr_CheckCrit.p3 (i1 : Nat) (e1 : SCrit) : Option (Unit ⊕ SFault) :=
    if e1.D > e1.T then
      some (.inr (pr_F.f 12 (i1 : Int)))
    else
      if e1.H > e1.D then
        some (.inr (pr_F.f 12 (i1 : Int)))
      else
        if e1.High = true then
          some (.inl ())
        else
          if e1.H > e1.C then
            some (.inr (pr_F.f 12 (i1 : Int)))
          else
            some (.inl ())
def pr_CheckCrit.r4 (l0 : List SCrit) (i1 : Nat) (e1 : SCrit) : Nat → Option (Nat ⊕ (Unit ⊕ SFault))
  | i2 =>
    if (i2 : Int) < (((l0.take i1).drop 0).length : Int) then
      match ((l0.take i1).drop 0)[i2]? with
      | none => none
      | some e2 =>
        if e2.P = e1.P then
          some (.inr (.inr (pr_F.f 5 (i1 : Int))))
        else
          some (.inl (i2 + 1))
    else
      some (.inr (.inl ()))
def pr_CheckCrit.r1 (K : Nat) (l0 : List SCrit) : Nat → Option (Nat ⊕ (Unit ⊕ SFault))
  | i1 =>
    if (i1 : Int) < (l0.length : Int) then
      match l0[i1]? with
      | none => none
      | some e1 =>
        match pr_CheckCrit.p2 i1 e1 with
        | none => none
        | some (.inl _) =>
          match pr_CheckCrit.p3 i1 e1 with
          | none => none
          | some (.inl _) =>
            if i1 ≤ l0.length then
              match iter (pr_CheckCrit.r4 l0 i1 e1) K 0 with
              | none => none
              | some (.inl _) =>
                some (.inl (i1 + 1))
              | some (.inr rr1) =>
                some (.inr (.inr rr1))
            else
              none
          | some (.inr rr2) =>
            some (.inr (.inr rr2))
        | some (.inr rr3) =>
          some (.inr (.inr rr3))
    else
      some (.inr (.inl ()))
def pr_CheckCrit.f (K : Nat) (l0 : List SCrit) : Option SFault :=
  match pr_CheckCrit.p0 l0 with
  | none => none
  | some (.inl _) =>
    match iter (pr_CheckCrit.r1 K l0) K 0 with
    | none => none
    | some (.inl _) =>
      some (⟨0, 0⟩ : SFault)
    | some (.inr rr4) =>
      some rr4
  | some (.inr rr5) =>
    some rr5
abbrev pr_CheckCrit.A0 (K : Nat) (w0 : World) (l0 : List SCrit) (A0 : Option Addr) (c0 : Nat) (hR0 : RdL w0 A0 l0) (hL0 : l0.length ≤ c0) (b1 : Nat) : Unit → Act → World → Prop := fun (s : Unit) a w => St w0 w [Own.blk b1 (.cells #[.int .i64 0, .int .i64 0] 31 (0, 0))] ∧ Frm 106 a [(0, .slice A0 l0.length c0), (2, .pointer (some ⟨b1, 0, none⟩))]
abbrev pr_CheckCrit.B0 (K : Nat) (w0 : World) (l0 : List SCrit) (A0 : Option Addr) (c0 : Nat) (hR0 : RdL w0 A0 l0) (hL0 : l0.length ≤ c0) (b1 : Nat) : SFault → Exit → Act → World → Prop := Rets Tryd.prog Tryd.f13 (pr_CheckCrit.Post w0)
theorem pr_CheckCrit_p0 (K : Nat) (w0 : World) (l0 : List SCrit) (A0 : Option Addr) (c0 : Nat) (hR0 : RdL w0 A0 l0) (hL0 : l0.length ≤ c0) (b1 : Nat) (o : Unit ⊕ SFault) (h : pr_CheckCrit.p0 l0 = some o) (w : World) (hS : St w0 w [Own.blk b1 (.cells #[.int .i64 0, .int .i64 0] 31 (0, 0))]) (Q : Exit → Act → World → Prop) (hQ : ∀ x a w, Outs (pr_CheckCrit.A0 K w0 l0 A0 c0 hR0 hL0 b1) (pr_CheckCrit.B0 K w0 l0 A0 c0 hR0 hL0 b1) o x a w → Q x a w) : WE Tryd.prog 106 (subF Tryd.f13 [1, 0]) Q [(0, .slice A0 l0.length c0), (2, .pointer (some ⟨b1, 0, none⟩))] w := by
  simp only [pr_CheckCrit.p0] at h
  refine we_seq fun K3 hK3 => ?_
  refine we_region [(0, 0), (1, 0), (2, 0), (3, 0), (4, 0), (5, 0), (6, 0), (7, 0)] rfl ?_
  refine ge_batch [0, 1, 2, 3] (ans := []) (vs := [(10, .bool ((l0.length : Int) == 0)), (9, .bool ((l0.length : Int) == 0)), (8, .int .i64 (l0.length : Int)), (7, .slice A0 l0.length c0)]) (l := []) (by kernel_rfl) trivial ?_
  by_cases hc1 : (l0.length : Int) = 0
  · rw [if_pos hc1] at h
    refine ge_known (t := 10) (b := ((l0.length : Int) == 0)) (c := true) (by kernel_rfl) (beq_iff_eq.2 hc1) ?_
    refine ge_batch [4, 5, 6, 7] (ans := []) (vs := [(14, .bool true), (13, undef), (12, undef), (11, undef)]) (l := []) (by kernel_rfl) trivial ?_
    refine ge_nil fun a hF => hK3 _ _ ?_ a hF
    refine we_true (by kernel_rfl) ?_
    refine we_seq fun K4 hK4 => ?_
    refine we_region [(0, 1), (1, 2)] rfl ?_
    refine ge_call (d := some 15) (f := 44) (args := #[.int .i64 2, .int .i64 0]) (by kernel_rfl) (pr_F_ok 2 0 _ _ rfl) ?_
    rintro _ w2 ⟨rfl, hS2⟩
    refine ⟨_, rfl, hS2.below, ?_⟩
    have hS3 := hS.call hS2
    refine ge_set (b := b1) (j := 0) (cs := #[.int .i64 0, .int .i64 0]) (t := 31) (vs := [.int .i64 ((pr_F.f 2 0).Code), .int .i64 ((pr_F.f 2 0).At)]) hS3 (by kernel_rfl) rfl rfl fun w3 hS4 => ?_
    have hS5 := hS4.nc #[.int .i64 ((pr_F.f 2 0).Code), .int .i64 ((pr_F.f 2 0).At)] (by kernel_rfl)
    refine ge_nil fun a hF => hK4 _ _ ?_ a hF
    have hS6 := hS5.takeN 0
    obtain rfl := Option.some.inj h
    exact we_ret fun a hF => hQ _ _ _ (Outs.out nofun ⟨rfl, (post_ret (rs := [.cell 2 31]) (ans := [.val (.int .i64 ((pr_F.f 2 0).Code)), .val (.int .i64 ((pr_F.f 2 0).At))]) (vs := [.agg #[.int .i64 ((pr_F.f 2 0).Code), .int .i64 ((pr_F.f 2 0).At)]]) (l := [.loaded ⟨b1, 0, none⟩ (.int .i64 ((pr_F.f 2 0).Code)), .loaded ⟨b1, 1, none⟩ (.int .i64 ((pr_F.f 2 0).At))]) rfl (by kernel_rfl) ⟨hS5.cell 0 rfl rfl, hS5.cell 0 rfl rfl, trivial⟩ ⟨rfl, hS6⟩) a hF⟩)
  · rw [if_neg hc1] at h
    refine ge_known (t := 10) (b := ((l0.length : Int) == 0)) (c := false) (by kernel_rfl) (beq_eq_false_iff_ne.2 hc1) ?_
    refine ge_batch [4, 5, 6, 7] (ans := []) (vs := [(14, .bool (decide ((l0.length : Int) > 8))), (13, .bool (decide ((l0.length : Int) > 8))), (12, .int .i64 (l0.length : Int)), (11, .slice A0 l0.length c0)]) (l := []) (by kernel_rfl) trivial ?_
    refine ge_nil fun a hF => hK3 _ _ ?_ a hF
    by_cases hc2 : (l0.length : Int) > 8
    · rw [if_pos hc2] at h
      refine we_known (t := 14) (b := decide ((l0.length : Int) > 8)) (v := true) (by kernel_rfl) (decide_eq_true hc2) ?_
      refine we_true (by kernel_rfl) ?_
      refine we_seq fun K5 hK5 => ?_
      refine we_region [(0, 1), (1, 2)] rfl ?_
      refine ge_call (d := some 15) (f := 44) (args := #[.int .i64 2, .int .i64 0]) (by kernel_rfl) (pr_F_ok 2 0 _ _ rfl) ?_
      rintro _ w4 ⟨rfl, hS7⟩
      refine ⟨_, rfl, hS7.below, ?_⟩
      have hS8 := hS.call hS7
      refine ge_set (b := b1) (j := 0) (cs := #[.int .i64 0, .int .i64 0]) (t := 31) (vs := [.int .i64 ((pr_F.f 2 0).Code), .int .i64 ((pr_F.f 2 0).At)]) hS8 (by kernel_rfl) rfl rfl fun w5 hS9 => ?_
      have hS10 := hS9.nc #[.int .i64 ((pr_F.f 2 0).Code), .int .i64 ((pr_F.f 2 0).At)] (by kernel_rfl)
      refine ge_nil fun a hF => hK5 _ _ ?_ a hF
      have hS11 := hS10.takeN 0
      obtain rfl := Option.some.inj h
      exact we_ret fun a hF => hQ _ _ _ (Outs.out nofun ⟨rfl, (post_ret (rs := [.cell 2 31]) (ans := [.val (.int .i64 ((pr_F.f 2 0).Code)), .val (.int .i64 ((pr_F.f 2 0).At))]) (vs := [.agg #[.int .i64 ((pr_F.f 2 0).Code), .int .i64 ((pr_F.f 2 0).At)]]) (l := [.loaded ⟨b1, 0, none⟩ (.int .i64 ((pr_F.f 2 0).Code)), .loaded ⟨b1, 1, none⟩ (.int .i64 ((pr_F.f 2 0).At))]) rfl (by kernel_rfl) ⟨hS10.cell 0 rfl rfl, hS10.cell 0 rfl rfl, trivial⟩ ⟨rfl, hS11⟩) a hF⟩)
    · rw [if_neg hc2] at h
      refine we_known (t := 14) (b := decide ((l0.length : Int) > 8)) (v := false) (by kernel_rfl) (decide_eq_false hc2) ?_
      refine we_false (by kernel_rfl) ?_
      obtain rfl := Option.some.inj h
      exact we_skip fun a hF => hQ _ _ _ (Outs.again ⟨hS, hF.weaken ⟨by kernel_rfl, by kernel_rfl, trivial⟩⟩)
abbrev pr_CheckCrit.A2 (K : Nat) (w0 : World) (l0 : List SCrit) (A0 : Option Addr) (c0 : Nat) (hR0 : RdL w0 A0 l0) (hL0 : l0.length ≤ c0) (b1 : Nat) (i1 : Nat) (hc3 : (i1 : Int) < (l0.length : Int)) (e1 : SCrit) (hx2 : l0[i1]? = some e1) (b2 : Nat) : Unit → Act → World → Prop := fun (s : Unit) a w => St w0 w [Own.blk b2 (.cells #[.int .i64 e1.C, .int .i64 e1.H, .int .i64 e1.T, .int .i64 e1.D, .bool e1.High, .int .i64 e1.P] 27 (0, 0)), Own.blk b1 (.cells #[.int .i64 0, .int .i64 0] 31 (0, 0))] ∧ Frm 106 a [(0, .slice A0 l0.length c0), (2, .pointer (some ⟨b1, 0, none⟩)), (3, .int .i64 (i1 : Int)), (4, .pointer (some ⟨b2, 0, none⟩)), (16, .slice A0 l0.length c0), (17, .int .i64 (l0.length : Int)), (18, .int .i64 (i1 : Int))]
abbrev pr_CheckCrit.B2 (K : Nat) (w0 : World) (l0 : List SCrit) (A0 : Option Addr) (c0 : Nat) (hR0 : RdL w0 A0 l0) (hL0 : l0.length ≤ c0) (b1 : Nat) (i1 : Nat) (hc3 : (i1 : Int) < (l0.length : Int)) (e1 : SCrit) (hx2 : l0[i1]? = some e1) (b2 : Nat) : SFault → Exit → Act → World → Prop := Rets Tryd.prog Tryd.f13 (pr_CheckCrit.Post w0)
theorem pr_CheckCrit_p2 (K : Nat) (w0 : World) (l0 : List SCrit) (A0 : Option Addr) (c0 : Nat) (hR0 : RdL w0 A0 l0) (hL0 : l0.length ≤ c0) (b1 : Nat) (i1 : Nat) (hc3 : (i1 : Int) < (l0.length : Int)) (e1 : SCrit) (hx2 : l0[i1]? = some e1) (b2 : Nat) (o : Unit ⊕ SFault) (h : pr_CheckCrit.p2 i1 e1 = some o) (w : World) (hS : St w0 w [Own.blk b2 (.cells #[.int .i64 e1.C, .int .i64 e1.H, .int .i64 e1.T, .int .i64 e1.D, .bool e1.High, .int .i64 e1.P] 27 (0, 0)), Own.blk b1 (.cells #[.int .i64 0, .int .i64 0] 31 (0, 0))]) (Q : Exit → Act → World → Prop) (hQ : ∀ x a w, Outs (pr_CheckCrit.A2 K w0 l0 A0 c0 hR0 hL0 b1 i1 hc3 e1 hx2 b2) (pr_CheckCrit.B2 K w0 l0 A0 c0 hR0 hL0 b1 i1 hc3 e1 hx2 b2) o x a w → Q x a w) : WE Tryd.prog 106 (subF Tryd.f13 [1, 1, 0, 1, 0, 0, 1, 1, 0, 0, 1, 0]) Q [(0, .slice A0 l0.length c0), (2, .pointer (some ⟨b1, 0, none⟩)), (3, .int .i64 (i1 : Int)), (4, .pointer (some ⟨b2, 0, none⟩)), (16, .slice A0 l0.length c0), (17, .int .i64 (l0.length : Int)), (18, .int .i64 (i1 : Int)), (19, .bool true), (20, .int .i64 (i1 : Int)), (21, .pointer (some ⟨blkOf A0, offOf A0 + i1 * 6, none⟩)), (22, .agg #[.int .i64 e1.C, .int .i64 e1.H, .int .i64 e1.T, .int .i64 e1.D, .bool e1.High, .int .i64 e1.P])] w := by
  simp only [pr_CheckCrit.p2] at h
  refine we_seq fun K13 hK13 => ?_
  refine we_region [(0, 0), (1, 0), (2, 0), (3, 0), (4, 0), (5, 0), (6, 0), (7, 0), (8, 0), (9, 0), (10, 0), (11, 0), (12, 0), (13, 0), (14, 0), (15, 0), (16, 0), (17, 0), (18, 0), (19, 0), (20, 0), (21, 0), (22, 0), (23, 0), (24, 0), (25, 0), (26, 0), (27, 0), (28, 0), (29, 0), (30, 0), (31, 0), (32, 0), (33, 0), (34, 0), (35, 0), (36, 0)] rfl ?_
  refine ge_batch [0, 1, 2, 3] (ans := [.val (.int .i64 e1.C)]) (vs := [(26, .bool (decide (e1.C < 1))), (25, .bool (decide (e1.C < 1))), (24, .int .i64 e1.C), (23, .pointer (some ⟨b2, 0, none⟩))]) (l := [.loaded ⟨b2, 0, none⟩ (.int .i64 e1.C)]) (by kernel_rfl) ⟨hS.cell 0 rfl rfl, trivial⟩ ?_
  by_cases hc4 : e1.C < 1
  · rw [if_pos hc4] at h
    refine ge_known (t := 26) (b := decide (e1.C < 1)) (c := true) (by kernel_rfl) (decide_eq_true hc4) ?_
    refine ge_batch [4, 5, 6, 7, 8, 9, 10, 11, 12, 13, 14, 15, 16, 17, 18, 19, 20, 21, 22, 23, 24, 25, 26, 27, 28, 29, 30, 31, 32, 33, 34, 35, 36] (ans := []) (vs := [(59, .bool true), (58, undef), (57, undef), (56, undef), (55, .bool true), (54, .bool true), (53, undef), (52, undef), (51, undef), (50, .bool true), (49, .bool true), (48, undef), (47, undef), (46, undef), (45, undef), (44, undef), (43, .bool true), (42, .bool true), (41, undef), (40, undef), (39, undef), (38, .bool true), (37, .bool true), (36, undef), (35, undef), (34, undef), (33, .bool true), (32, .bool true), (31, undef), (30, undef), (29, undef), (28, undef), (27, undef)]) (l := []) (by kernel_rfl) trivial ?_
    refine ge_nil fun a hF => hK13 _ _ ?_ a hF
    refine we_true (by kernel_rfl) ?_
    refine we_seq fun K14 hK14 => ?_
    refine we_region [(0, 0), (1, 1), (2, 2)] rfl ?_
    refine ge_batch [0] (ans := []) (vs := [(60, .int .i64 (i1 : Int))]) (l := []) (by kernel_rfl) trivial ?_
    refine ge_call (d := some 61) (f := 44) (args := #[.int .i64 3, .int .i64 (i1 : Int)]) (by kernel_rfl) (pr_F_ok 3 (i1 : Int) _ _ rfl) ?_
    rintro _ w9 ⟨rfl, hS16⟩
    refine ⟨_, rfl, hS16.below, ?_⟩
    have hS17 := hS.call hS16
    have hS18 := hS17.bring 1 rfl
    refine ge_set (b := b1) (j := 0) (cs := #[.int .i64 0, .int .i64 0]) (t := 31) (vs := [.int .i64 ((pr_F.f 3 (i1 : Int)).Code), .int .i64 ((pr_F.f 3 (i1 : Int)).At)]) hS18 (by kernel_rfl) rfl rfl fun w10 hS19 => ?_
    have hS20 := hS19.nc #[.int .i64 ((pr_F.f 3 (i1 : Int)).Code), .int .i64 ((pr_F.f 3 (i1 : Int)).At)] (by kernel_rfl)
    refine ge_nil fun a hF => hK14 _ _ ?_ a hF
    have hS21 := hS20.takeN 0
    obtain rfl := Option.some.inj h
    exact we_ret fun a hF => hQ _ _ _ (Outs.out nofun ⟨rfl, (post_ret (rs := [.cell 2 31]) (ans := [.val (.int .i64 ((pr_F.f 3 (i1 : Int)).Code)), .val (.int .i64 ((pr_F.f 3 (i1 : Int)).At))]) (vs := [.agg #[.int .i64 ((pr_F.f 3 (i1 : Int)).Code), .int .i64 ((pr_F.f 3 (i1 : Int)).At)]]) (l := [.loaded ⟨b1, 0, none⟩ (.int .i64 ((pr_F.f 3 (i1 : Int)).Code)), .loaded ⟨b1, 1, none⟩ (.int .i64 ((pr_F.f 3 (i1 : Int)).At))]) rfl (by kernel_rfl) ⟨hS20.cell 0 rfl rfl, hS20.cell 0 rfl rfl, trivial⟩ ⟨rfl, hS21⟩) a hF⟩)
  · rw [if_neg hc4] at h
    refine ge_known (t := 26) (b := decide (e1.C < 1)) (c := false) (by kernel_rfl) (decide_eq_false hc4) ?_
    refine ge_batch [4, 5, 6, 7, 8, 9, 10] (ans := [.val (.int .i64 e1.H), .val (.int .i64 e1.C)]) (vs := [(33, .bool (decide (e1.H < e1.C))), (32, .bool (decide (e1.H < e1.C))), (31, .bool (decide (e1.H < e1.C))), (30, .int .i64 e1.C), (29, .pointer (some ⟨b2, 0, none⟩)), (28, .int .i64 e1.H), (27, .pointer (some ⟨b2, 1, none⟩))]) (l := [.loaded ⟨b2, 1, none⟩ (.int .i64 e1.H), .loaded ⟨b2, 0, none⟩ (.int .i64 e1.C)]) (by kernel_rfl) ⟨hS.cell 0 rfl rfl, hS.cell 0 rfl rfl, trivial⟩ ?_
    by_cases hc5 : e1.H < e1.C
    · rw [if_pos hc5] at h
      refine ge_known (t := 33) (b := decide (e1.H < e1.C)) (c := true) (by kernel_rfl) (decide_eq_true hc5) ?_
      refine ge_batch [11, 12, 13, 14, 15, 16, 17, 18, 19, 20, 21, 22, 23, 24, 25, 26, 27, 28, 29, 30, 31, 32, 33, 34, 35, 36] (ans := []) (vs := [(59, .bool true), (58, undef), (57, undef), (56, undef), (55, .bool true), (54, .bool true), (53, undef), (52, undef), (51, undef), (50, .bool true), (49, .bool true), (48, undef), (47, undef), (46, undef), (45, undef), (44, undef), (43, .bool true), (42, .bool true), (41, undef), (40, undef), (39, undef), (38, .bool true), (37, .bool true), (36, undef), (35, undef), (34, undef)]) (l := []) (by kernel_rfl) trivial ?_
      refine ge_nil fun a hF => hK13 _ _ ?_ a hF
      refine we_true (by kernel_rfl) ?_
      refine we_seq fun K15 hK15 => ?_
      refine we_region [(0, 0), (1, 1), (2, 2)] rfl ?_
      refine ge_batch [0] (ans := []) (vs := [(60, .int .i64 (i1 : Int))]) (l := []) (by kernel_rfl) trivial ?_
      refine ge_call (d := some 61) (f := 44) (args := #[.int .i64 3, .int .i64 (i1 : Int)]) (by kernel_rfl) (pr_F_ok 3 (i1 : Int) _ _ rfl) ?_
      rintro _ w11 ⟨rfl, hS22⟩
      refine ⟨_, rfl, hS22.below, ?_⟩
      have hS23 := hS.call hS22
      have hS24 := hS23.bring 1 rfl
      refine ge_set (b := b1) (j := 0) (cs := #[.int .i64 0, .int .i64 0]) (t := 31) (vs := [.int .i64 ((pr_F.f 3 (i1 : Int)).Code), .int .i64 ((pr_F.f 3 (i1 : Int)).At)]) hS24 (by kernel_rfl) rfl rfl fun w12 hS25 => ?_
      have hS26 := hS25.nc #[.int .i64 ((pr_F.f 3 (i1 : Int)).Code), .int .i64 ((pr_F.f 3 (i1 : Int)).At)] (by kernel_rfl)
      refine ge_nil fun a hF => hK15 _ _ ?_ a hF
      have hS27 := hS26.takeN 0
      obtain rfl := Option.some.inj h
      exact we_ret fun a hF => hQ _ _ _ (Outs.out nofun ⟨rfl, (post_ret (rs := [.cell 2 31]) (ans := [.val (.int .i64 ((pr_F.f 3 (i1 : Int)).Code)), .val (.int .i64 ((pr_F.f 3 (i1 : Int)).At))]) (vs := [.agg #[.int .i64 ((pr_F.f 3 (i1 : Int)).Code), .int .i64 ((pr_F.f 3 (i1 : Int)).At)]]) (l := [.loaded ⟨b1, 0, none⟩ (.int .i64 ((pr_F.f 3 (i1 : Int)).Code)), .loaded ⟨b1, 1, none⟩ (.int .i64 ((pr_F.f 3 (i1 : Int)).At))]) rfl (by kernel_rfl) ⟨hS26.cell 0 rfl rfl, hS26.cell 0 rfl rfl, trivial⟩ ⟨rfl, hS27⟩) a hF⟩)
    · rw [if_neg hc5] at h
      refine ge_known (t := 33) (b := decide (e1.H < e1.C)) (c := false) (by kernel_rfl) (decide_eq_false hc5) ?_
      refine ge_batch [11, 12, 13, 14, 15] (ans := [.val (.int .i64 e1.T)]) (vs := [(38, .bool (decide (e1.T < 1))), (37, .bool (decide (e1.T < 1))), (36, .bool (decide (e1.T < 1))), (35, .int .i64 e1.T), (34, .pointer (some ⟨b2, 2, none⟩))]) (l := [.loaded ⟨b2, 2, none⟩ (.int .i64 e1.T)]) (by kernel_rfl) ⟨hS.cell 0 rfl rfl, trivial⟩ ?_
      by_cases hc6 : e1.T < 1
      · rw [if_pos hc6] at h
        refine ge_known (t := 38) (b := decide (e1.T < 1)) (c := true) (by kernel_rfl) (decide_eq_true hc6) ?_
        refine ge_batch [16, 17, 18, 19, 20, 21, 22, 23, 24, 25, 26, 27, 28, 29, 30, 31, 32, 33, 34, 35, 36] (ans := []) (vs := [(59, .bool true), (58, undef), (57, undef), (56, undef), (55, .bool true), (54, .bool true), (53, undef), (52, undef), (51, undef), (50, .bool true), (49, .bool true), (48, undef), (47, undef), (46, undef), (45, undef), (44, undef), (43, .bool true), (42, .bool true), (41, undef), (40, undef), (39, undef)]) (l := []) (by kernel_rfl) trivial ?_
        refine ge_nil fun a hF => hK13 _ _ ?_ a hF
        refine we_true (by kernel_rfl) ?_
        refine we_seq fun K16 hK16 => ?_
        refine we_region [(0, 0), (1, 1), (2, 2)] rfl ?_
        refine ge_batch [0] (ans := []) (vs := [(60, .int .i64 (i1 : Int))]) (l := []) (by kernel_rfl) trivial ?_
        refine ge_call (d := some 61) (f := 44) (args := #[.int .i64 3, .int .i64 (i1 : Int)]) (by kernel_rfl) (pr_F_ok 3 (i1 : Int) _ _ rfl) ?_
        rintro _ w13 ⟨rfl, hS28⟩
        refine ⟨_, rfl, hS28.below, ?_⟩
        have hS29 := hS.call hS28
        have hS30 := hS29.bring 1 rfl
        refine ge_set (b := b1) (j := 0) (cs := #[.int .i64 0, .int .i64 0]) (t := 31) (vs := [.int .i64 ((pr_F.f 3 (i1 : Int)).Code), .int .i64 ((pr_F.f 3 (i1 : Int)).At)]) hS30 (by kernel_rfl) rfl rfl fun w14 hS31 => ?_
        have hS32 := hS31.nc #[.int .i64 ((pr_F.f 3 (i1 : Int)).Code), .int .i64 ((pr_F.f 3 (i1 : Int)).At)] (by kernel_rfl)
        refine ge_nil fun a hF => hK16 _ _ ?_ a hF
        have hS33 := hS32.takeN 0
        obtain rfl := Option.some.inj h
        exact we_ret fun a hF => hQ _ _ _ (Outs.out nofun ⟨rfl, (post_ret (rs := [.cell 2 31]) (ans := [.val (.int .i64 ((pr_F.f 3 (i1 : Int)).Code)), .val (.int .i64 ((pr_F.f 3 (i1 : Int)).At))]) (vs := [.agg #[.int .i64 ((pr_F.f 3 (i1 : Int)).Code), .int .i64 ((pr_F.f 3 (i1 : Int)).At)]]) (l := [.loaded ⟨b1, 0, none⟩ (.int .i64 ((pr_F.f 3 (i1 : Int)).Code)), .loaded ⟨b1, 1, none⟩ (.int .i64 ((pr_F.f 3 (i1 : Int)).At))]) rfl (by kernel_rfl) ⟨hS32.cell 0 rfl rfl, hS32.cell 0 rfl rfl, trivial⟩ ⟨rfl, hS33⟩) a hF⟩)
      · rw [if_neg hc6] at h
        refine ge_known (t := 38) (b := decide (e1.T < 1)) (c := false) (by kernel_rfl) (decide_eq_false hc6) ?_
        refine ge_batch [16, 17, 18, 19, 20] (ans := [.val (.int .i64 e1.T)]) (vs := [(43, .bool (decide (e1.T > 10000))), (42, .bool (decide (e1.T > 10000))), (41, .bool (decide (e1.T > 10000))), (40, .int .i64 e1.T), (39, .pointer (some ⟨b2, 2, none⟩))]) (l := [.loaded ⟨b2, 2, none⟩ (.int .i64 e1.T)]) (by kernel_rfl) ⟨hS.cell 0 rfl rfl, trivial⟩ ?_
        by_cases hc7 : e1.T > 10000
        · rw [if_pos hc7] at h
          refine ge_known (t := 43) (b := decide (e1.T > 10000)) (c := true) (by kernel_rfl) (decide_eq_true hc7) ?_
          refine ge_batch [21, 22, 23, 24, 25, 26, 27, 28, 29, 30, 31, 32, 33, 34, 35, 36] (ans := []) (vs := [(59, .bool true), (58, undef), (57, undef), (56, undef), (55, .bool true), (54, .bool true), (53, undef), (52, undef), (51, undef), (50, .bool true), (49, .bool true), (48, undef), (47, undef), (46, undef), (45, undef), (44, undef)]) (l := []) (by kernel_rfl) trivial ?_
          refine ge_nil fun a hF => hK13 _ _ ?_ a hF
          refine we_true (by kernel_rfl) ?_
          refine we_seq fun K17 hK17 => ?_
          refine we_region [(0, 0), (1, 1), (2, 2)] rfl ?_
          refine ge_batch [0] (ans := []) (vs := [(60, .int .i64 (i1 : Int))]) (l := []) (by kernel_rfl) trivial ?_
          refine ge_call (d := some 61) (f := 44) (args := #[.int .i64 3, .int .i64 (i1 : Int)]) (by kernel_rfl) (pr_F_ok 3 (i1 : Int) _ _ rfl) ?_
          rintro _ w15 ⟨rfl, hS34⟩
          refine ⟨_, rfl, hS34.below, ?_⟩
          have hS35 := hS.call hS34
          have hS36 := hS35.bring 1 rfl
          refine ge_set (b := b1) (j := 0) (cs := #[.int .i64 0, .int .i64 0]) (t := 31) (vs := [.int .i64 ((pr_F.f 3 (i1 : Int)).Code), .int .i64 ((pr_F.f 3 (i1 : Int)).At)]) hS36 (by kernel_rfl) rfl rfl fun w16 hS37 => ?_
          have hS38 := hS37.nc #[.int .i64 ((pr_F.f 3 (i1 : Int)).Code), .int .i64 ((pr_F.f 3 (i1 : Int)).At)] (by kernel_rfl)
          refine ge_nil fun a hF => hK17 _ _ ?_ a hF
          have hS39 := hS38.takeN 0
          obtain rfl := Option.some.inj h
          exact we_ret fun a hF => hQ _ _ _ (Outs.out nofun ⟨rfl, (post_ret (rs := [.cell 2 31]) (ans := [.val (.int .i64 ((pr_F.f 3 (i1 : Int)).Code)), .val (.int .i64 ((pr_F.f 3 (i1 : Int)).At))]) (vs := [.agg #[.int .i64 ((pr_F.f 3 (i1 : Int)).Code), .int .i64 ((pr_F.f 3 (i1 : Int)).At)]]) (l := [.loaded ⟨b1, 0, none⟩ (.int .i64 ((pr_F.f 3 (i1 : Int)).Code)), .loaded ⟨b1, 1, none⟩ (.int .i64 ((pr_F.f 3 (i1 : Int)).At))]) rfl (by kernel_rfl) ⟨hS38.cell 0 rfl rfl, hS38.cell 0 rfl rfl, trivial⟩ ⟨rfl, hS39⟩) a hF⟩)
        · rw [if_neg hc7] at h
          refine ge_known (t := 43) (b := decide (e1.T > 10000)) (c := false) (by kernel_rfl) (decide_eq_false hc7) ?_
          refine ge_batch [21, 22, 23, 24, 25, 26, 27] (ans := [.val (.int .i64 e1.D), .val (.int .i64 e1.C)]) (vs := [(50, .bool (decide (e1.D < e1.C))), (49, .bool (decide (e1.D < e1.C))), (48, .bool (decide (e1.D < e1.C))), (47, .int .i64 e1.C), (46, .pointer (some ⟨b2, 0, none⟩)), (45, .int .i64 e1.D), (44, .pointer (some ⟨b2, 3, none⟩))]) (l := [.loaded ⟨b2, 3, none⟩ (.int .i64 e1.D), .loaded ⟨b2, 0, none⟩ (.int .i64 e1.C)]) (by kernel_rfl) ⟨hS.cell 0 rfl rfl, hS.cell 0 rfl rfl, trivial⟩ ?_
          by_cases hc8 : e1.D < e1.C
          · rw [if_pos hc8] at h
            refine ge_known (t := 50) (b := decide (e1.D < e1.C)) (c := true) (by kernel_rfl) (decide_eq_true hc8) ?_
            refine ge_batch [28, 29, 30, 31, 32, 33, 34, 35, 36] (ans := []) (vs := [(59, .bool true), (58, undef), (57, undef), (56, undef), (55, .bool true), (54, .bool true), (53, undef), (52, undef), (51, undef)]) (l := []) (by kernel_rfl) trivial ?_
            refine ge_nil fun a hF => hK13 _ _ ?_ a hF
            refine we_true (by kernel_rfl) ?_
            refine we_seq fun K18 hK18 => ?_
            refine we_region [(0, 0), (1, 1), (2, 2)] rfl ?_
            refine ge_batch [0] (ans := []) (vs := [(60, .int .i64 (i1 : Int))]) (l := []) (by kernel_rfl) trivial ?_
            refine ge_call (d := some 61) (f := 44) (args := #[.int .i64 3, .int .i64 (i1 : Int)]) (by kernel_rfl) (pr_F_ok 3 (i1 : Int) _ _ rfl) ?_
            rintro _ w17 ⟨rfl, hS40⟩
            refine ⟨_, rfl, hS40.below, ?_⟩
            have hS41 := hS.call hS40
            have hS42 := hS41.bring 1 rfl
            refine ge_set (b := b1) (j := 0) (cs := #[.int .i64 0, .int .i64 0]) (t := 31) (vs := [.int .i64 ((pr_F.f 3 (i1 : Int)).Code), .int .i64 ((pr_F.f 3 (i1 : Int)).At)]) hS42 (by kernel_rfl) rfl rfl fun w18 hS43 => ?_
            have hS44 := hS43.nc #[.int .i64 ((pr_F.f 3 (i1 : Int)).Code), .int .i64 ((pr_F.f 3 (i1 : Int)).At)] (by kernel_rfl)
            refine ge_nil fun a hF => hK18 _ _ ?_ a hF
            have hS45 := hS44.takeN 0
            obtain rfl := Option.some.inj h
            exact we_ret fun a hF => hQ _ _ _ (Outs.out nofun ⟨rfl, (post_ret (rs := [.cell 2 31]) (ans := [.val (.int .i64 ((pr_F.f 3 (i1 : Int)).Code)), .val (.int .i64 ((pr_F.f 3 (i1 : Int)).At))]) (vs := [.agg #[.int .i64 ((pr_F.f 3 (i1 : Int)).Code), .int .i64 ((pr_F.f 3 (i1 : Int)).At)]]) (l := [.loaded ⟨b1, 0, none⟩ (.int .i64 ((pr_F.f 3 (i1 : Int)).Code)), .loaded ⟨b1, 1, none⟩ (.int .i64 ((pr_F.f 3 (i1 : Int)).At))]) rfl (by kernel_rfl) ⟨hS44.cell 0 rfl rfl, hS44.cell 0 rfl rfl, trivial⟩ ⟨rfl, hS45⟩) a hF⟩)
          · rw [if_neg hc8] at h
            refine ge_known (t := 50) (b := decide (e1.D < e1.C)) (c := false) (by kernel_rfl) (decide_eq_false hc8) ?_
            refine ge_batch [28, 29, 30, 31, 32] (ans := [.val (.int .i64 e1.P)]) (vs := [(55, .bool (decide (e1.P < 0))), (54, .bool (decide (e1.P < 0))), (53, .bool (decide (e1.P < 0))), (52, .int .i64 e1.P), (51, .pointer (some ⟨b2, 5, none⟩))]) (l := [.loaded ⟨b2, 5, none⟩ (.int .i64 e1.P)]) (by kernel_rfl) ⟨hS.cell 0 rfl rfl, trivial⟩ ?_
            by_cases hc9 : e1.P < 0
            · rw [if_pos hc9] at h
              refine ge_known (t := 55) (b := decide (e1.P < 0)) (c := true) (by kernel_rfl) (decide_eq_true hc9) ?_
              refine ge_batch [33, 34, 35, 36] (ans := []) (vs := [(59, .bool true), (58, undef), (57, undef), (56, undef)]) (l := []) (by kernel_rfl) trivial ?_
              refine ge_nil fun a hF => hK13 _ _ ?_ a hF
              refine we_true (by kernel_rfl) ?_
              refine we_seq fun K19 hK19 => ?_
              refine we_region [(0, 0), (1, 1), (2, 2)] rfl ?_
              refine ge_batch [0] (ans := []) (vs := [(60, .int .i64 (i1 : Int))]) (l := []) (by kernel_rfl) trivial ?_
              refine ge_call (d := some 61) (f := 44) (args := #[.int .i64 3, .int .i64 (i1 : Int)]) (by kernel_rfl) (pr_F_ok 3 (i1 : Int) _ _ rfl) ?_
              rintro _ w19 ⟨rfl, hS46⟩
              refine ⟨_, rfl, hS46.below, ?_⟩
              have hS47 := hS.call hS46
              have hS48 := hS47.bring 1 rfl
              refine ge_set (b := b1) (j := 0) (cs := #[.int .i64 0, .int .i64 0]) (t := 31) (vs := [.int .i64 ((pr_F.f 3 (i1 : Int)).Code), .int .i64 ((pr_F.f 3 (i1 : Int)).At)]) hS48 (by kernel_rfl) rfl rfl fun w20 hS49 => ?_
              have hS50 := hS49.nc #[.int .i64 ((pr_F.f 3 (i1 : Int)).Code), .int .i64 ((pr_F.f 3 (i1 : Int)).At)] (by kernel_rfl)
              refine ge_nil fun a hF => hK19 _ _ ?_ a hF
              have hS51 := hS50.takeN 0
              obtain rfl := Option.some.inj h
              exact we_ret fun a hF => hQ _ _ _ (Outs.out nofun ⟨rfl, (post_ret (rs := [.cell 2 31]) (ans := [.val (.int .i64 ((pr_F.f 3 (i1 : Int)).Code)), .val (.int .i64 ((pr_F.f 3 (i1 : Int)).At))]) (vs := [.agg #[.int .i64 ((pr_F.f 3 (i1 : Int)).Code), .int .i64 ((pr_F.f 3 (i1 : Int)).At)]]) (l := [.loaded ⟨b1, 0, none⟩ (.int .i64 ((pr_F.f 3 (i1 : Int)).Code)), .loaded ⟨b1, 1, none⟩ (.int .i64 ((pr_F.f 3 (i1 : Int)).At))]) rfl (by kernel_rfl) ⟨hS50.cell 0 rfl rfl, hS50.cell 0 rfl rfl, trivial⟩ ⟨rfl, hS51⟩) a hF⟩)
            · rw [if_neg hc9] at h
              refine ge_known (t := 55) (b := decide (e1.P < 0)) (c := false) (by kernel_rfl) (decide_eq_false hc9) ?_
              refine ge_batch [33, 34, 35, 36] (ans := [.val (.int .i64 e1.P)]) (vs := [(59, .bool (decide (e1.P > 1000))), (58, .bool (decide (e1.P > 1000))), (57, .int .i64 e1.P), (56, .pointer (some ⟨b2, 5, none⟩))]) (l := [.loaded ⟨b2, 5, none⟩ (.int .i64 e1.P)]) (by kernel_rfl) ⟨hS.cell 0 rfl rfl, trivial⟩ ?_
              refine ge_nil fun a hF => hK13 _ _ ?_ a hF
              by_cases hc10 : e1.P > 1000
              · rw [if_pos hc10] at h
                refine we_known (t := 59) (b := decide (e1.P > 1000)) (v := true) (by kernel_rfl) (decide_eq_true hc10) ?_
                refine we_true (by kernel_rfl) ?_
                refine we_seq fun K20 hK20 => ?_
                refine we_region [(0, 0), (1, 1), (2, 2)] rfl ?_
                refine ge_batch [0] (ans := []) (vs := [(60, .int .i64 (i1 : Int))]) (l := []) (by kernel_rfl) trivial ?_
                refine ge_call (d := some 61) (f := 44) (args := #[.int .i64 3, .int .i64 (i1 : Int)]) (by kernel_rfl) (pr_F_ok 3 (i1 : Int) _ _ rfl) ?_
                rintro _ w21 ⟨rfl, hS52⟩
                refine ⟨_, rfl, hS52.below, ?_⟩
                have hS53 := hS.call hS52
                have hS54 := hS53.bring 1 rfl
                refine ge_set (b := b1) (j := 0) (cs := #[.int .i64 0, .int .i64 0]) (t := 31) (vs := [.int .i64 ((pr_F.f 3 (i1 : Int)).Code), .int .i64 ((pr_F.f 3 (i1 : Int)).At)]) hS54 (by kernel_rfl) rfl rfl fun w22 hS55 => ?_
                have hS56 := hS55.nc #[.int .i64 ((pr_F.f 3 (i1 : Int)).Code), .int .i64 ((pr_F.f 3 (i1 : Int)).At)] (by kernel_rfl)
                refine ge_nil fun a hF => hK20 _ _ ?_ a hF
                have hS57 := hS56.takeN 0
                obtain rfl := Option.some.inj h
                exact we_ret fun a hF => hQ _ _ _ (Outs.out nofun ⟨rfl, (post_ret (rs := [.cell 2 31]) (ans := [.val (.int .i64 ((pr_F.f 3 (i1 : Int)).Code)), .val (.int .i64 ((pr_F.f 3 (i1 : Int)).At))]) (vs := [.agg #[.int .i64 ((pr_F.f 3 (i1 : Int)).Code), .int .i64 ((pr_F.f 3 (i1 : Int)).At)]]) (l := [.loaded ⟨b1, 0, none⟩ (.int .i64 ((pr_F.f 3 (i1 : Int)).Code)), .loaded ⟨b1, 1, none⟩ (.int .i64 ((pr_F.f 3 (i1 : Int)).At))]) rfl (by kernel_rfl) ⟨hS56.cell 0 rfl rfl, hS56.cell 0 rfl rfl, trivial⟩ ⟨rfl, hS57⟩) a hF⟩)
              · rw [if_neg hc10] at h
                refine we_known (t := 59) (b := decide (e1.P > 1000)) (v := false) (by kernel_rfl) (decide_eq_false hc10) ?_
                refine we_false (by kernel_rfl) ?_
                have hS58 := hS.bring 1 rfl
                have hS59 := hS58.bring 1 rfl
                obtain rfl := Option.some.inj h
                exact we_skip fun a hF => hQ _ _ _ (Outs.again ⟨hS59, hF.weaken ⟨by kernel_rfl, by kernel_rfl, by kernel_rfl, by kernel_rfl, by kernel_rfl, by kernel_rfl, by kernel_rfl, trivial⟩⟩)
abbrev pr_CheckCrit.A3 (K : Nat) (w0 : World) (l0 : List SCrit) (A0 : Option Addr) (c0 : Nat) (hR0 : RdL w0 A0 l0) (hL0 : l0.length ≤ c0) (b1 : Nat) (i1 : Nat) (hc3 : (i1 : Int) < (l0.length : Int)) (e1 : SCrit) (hx2 : l0[i1]? = some e1) (b2 : Nat) : Unit → Act → World → Prop := fun (s : Unit) a w => St w0 w [Own.blk b2 (.cells #[.int .i64 e1.C, .int .i64 e1.H, .int .i64 e1.T, .int .i64 e1.D, .bool e1.High, .int .i64 e1.P] 27 (0, 0)), Own.blk b1 (.cells #[.int .i64 0, .int .i64 0] 31 (0, 0))] ∧ Frm 106 a [(0, .slice A0 l0.length c0), (2, .pointer (some ⟨b1, 0, none⟩)), (3, .int .i64 (i1 : Int)), (4, .pointer (some ⟨b2, 0, none⟩)), (16, .slice A0 l0.length c0), (17, .int .i64 (l0.length : Int)), (18, .int .i64 (i1 : Int))]
abbrev pr_CheckCrit.B3 (K : Nat) (w0 : World) (l0 : List SCrit) (A0 : Option Addr) (c0 : Nat) (hR0 : RdL w0 A0 l0) (hL0 : l0.length ≤ c0) (b1 : Nat) (i1 : Nat) (hc3 : (i1 : Int) < (l0.length : Int)) (e1 : SCrit) (hx2 : l0[i1]? = some e1) (b2 : Nat) : SFault → Exit → Act → World → Prop := Rets Tryd.prog Tryd.f13 (pr_CheckCrit.Post w0)
theorem pr_CheckCrit_p3 (K : Nat) (w0 : World) (l0 : List SCrit) (A0 : Option Addr) (c0 : Nat) (hR0 : RdL w0 A0 l0) (hL0 : l0.length ≤ c0) (b1 : Nat) (i1 : Nat) (hc3 : (i1 : Int) < (l0.length : Int)) (e1 : SCrit) (hx2 : l0[i1]? = some e1) (b2 : Nat) (o : Unit ⊕ SFault) (h : pr_CheckCrit.p3 i1 e1 = some o) (w : World) (hS : St w0 w [Own.blk b2 (.cells #[.int .i64 e1.C, .int .i64 e1.H, .int .i64 e1.T, .int .i64 e1.D, .bool e1.High, .int .i64 e1.P] 27 (0, 0)), Own.blk b1 (.cells #[.int .i64 0, .int .i64 0] 31 (0, 0))]) (Q : Exit → Act → World → Prop) (hQ : ∀ x a w, Outs (pr_CheckCrit.A3 K w0 l0 A0 c0 hR0 hL0 b1 i1 hc3 e1 hx2 b2) (pr_CheckCrit.B3 K w0 l0 A0 c0 hR0 hL0 b1 i1 hc3 e1 hx2 b2) o x a w → Q x a w) : WE Tryd.prog 106 (subF Tryd.f13 [1, 1, 0, 1, 0, 0, 1, 1, 0, 0, 1, 1, 0]) Q [(0, .slice A0 l0.length c0), (2, .pointer (some ⟨b1, 0, none⟩)), (3, .int .i64 (i1 : Int)), (4, .pointer (some ⟨b2, 0, none⟩)), (16, .slice A0 l0.length c0), (17, .int .i64 (l0.length : Int)), (18, .int .i64 (i1 : Int))] w := by
  simp only [pr_CheckCrit.p3] at h
  refine we_seq fun K22 hK22 => ?_
  refine we_region [(0, 0), (1, 0), (2, 0), (3, 0), (4, 0), (5, 0), (6, 0), (7, 0), (8, 0), (9, 0), (10, 0), (11, 0), (12, 0), (13, 0), (14, 0), (15, 0), (16, 0), (17, 0), (18, 0), (19, 0), (20, 0), (21, 0), (22, 0), (23, 0)] rfl ?_
  refine ge_batch [0, 1, 2, 3, 4, 5] (ans := [.val (.int .i64 e1.D), .val (.int .i64 e1.T)]) (vs := [(67, .bool (decide (e1.D > e1.T))), (66, .bool (decide (e1.D > e1.T))), (65, .int .i64 e1.T), (64, .pointer (some ⟨b2, 2, none⟩)), (63, .int .i64 e1.D), (62, .pointer (some ⟨b2, 3, none⟩))]) (l := [.loaded ⟨b2, 3, none⟩ (.int .i64 e1.D), .loaded ⟨b2, 2, none⟩ (.int .i64 e1.T)]) (by kernel_rfl) ⟨hS.cell 0 rfl rfl, hS.cell 0 rfl rfl, trivial⟩ ?_
  by_cases hc11 : e1.D > e1.T
  · rw [if_pos hc11] at h
    refine ge_known (t := 67) (b := decide (e1.D > e1.T)) (c := true) (by kernel_rfl) (decide_eq_true hc11) ?_
    refine ge_batch [6, 7, 8, 9, 10, 11, 12, 13, 14, 15, 16, 17, 18, 19, 20, 21, 22, 23] (ans := []) (vs := [(85, .bool true), (84, undef), (83, undef), (82, undef), (81, undef), (80, undef), (79, undef), (78, undef), (77, undef), (76, undef), (75, undef), (74, .bool true), (73, .bool true), (72, undef), (71, undef), (70, undef), (69, undef), (68, undef)]) (l := []) (by kernel_rfl) trivial ?_
    refine ge_nil fun a hF => hK22 _ _ ?_ a hF
    refine we_true (by kernel_rfl) ?_
    refine we_seq fun K23 hK23 => ?_
    refine we_region [(0, 0), (1, 1), (2, 2)] rfl ?_
    refine ge_batch [0] (ans := []) (vs := [(86, .int .i64 (i1 : Int))]) (l := []) (by kernel_rfl) trivial ?_
    refine ge_call (d := some 87) (f := 44) (args := #[.int .i64 12, .int .i64 (i1 : Int)]) (by kernel_rfl) (pr_F_ok 12 (i1 : Int) _ _ rfl) ?_
    rintro _ w24 ⟨rfl, hS61⟩
    refine ⟨_, rfl, hS61.below, ?_⟩
    have hS62 := hS.call hS61
    have hS63 := hS62.bring 1 rfl
    refine ge_set (b := b1) (j := 0) (cs := #[.int .i64 0, .int .i64 0]) (t := 31) (vs := [.int .i64 ((pr_F.f 12 (i1 : Int)).Code), .int .i64 ((pr_F.f 12 (i1 : Int)).At)]) hS63 (by kernel_rfl) rfl rfl fun w25 hS64 => ?_
    have hS65 := hS64.nc #[.int .i64 ((pr_F.f 12 (i1 : Int)).Code), .int .i64 ((pr_F.f 12 (i1 : Int)).At)] (by kernel_rfl)
    refine ge_nil fun a hF => hK23 _ _ ?_ a hF
    have hS66 := hS65.takeN 0
    obtain rfl := Option.some.inj h
    exact we_ret fun a hF => hQ _ _ _ (Outs.out nofun ⟨rfl, (post_ret (rs := [.cell 2 31]) (ans := [.val (.int .i64 ((pr_F.f 12 (i1 : Int)).Code)), .val (.int .i64 ((pr_F.f 12 (i1 : Int)).At))]) (vs := [.agg #[.int .i64 ((pr_F.f 12 (i1 : Int)).Code), .int .i64 ((pr_F.f 12 (i1 : Int)).At)]]) (l := [.loaded ⟨b1, 0, none⟩ (.int .i64 ((pr_F.f 12 (i1 : Int)).Code)), .loaded ⟨b1, 1, none⟩ (.int .i64 ((pr_F.f 12 (i1 : Int)).At))]) rfl (by kernel_rfl) ⟨hS65.cell 0 rfl rfl, hS65.cell 0 rfl rfl, trivial⟩ ⟨rfl, hS66⟩) a hF⟩)
  · rw [if_neg hc11] at h
    refine ge_known (t := 67) (b := decide (e1.D > e1.T)) (c := false) (by kernel_rfl) (decide_eq_false hc11) ?_
    refine ge_batch [6, 7, 8, 9, 10, 11, 12] (ans := [.val (.int .i64 e1.H), .val (.int .i64 e1.D)]) (vs := [(74, .bool (decide (e1.H > e1.D))), (73, .bool (decide (e1.H > e1.D))), (72, .bool (decide (e1.H > e1.D))), (71, .int .i64 e1.D), (70, .pointer (some ⟨b2, 3, none⟩)), (69, .int .i64 e1.H), (68, .pointer (some ⟨b2, 1, none⟩))]) (l := [.loaded ⟨b2, 1, none⟩ (.int .i64 e1.H), .loaded ⟨b2, 3, none⟩ (.int .i64 e1.D)]) (by kernel_rfl) ⟨hS.cell 0 rfl rfl, hS.cell 0 rfl rfl, trivial⟩ ?_
    by_cases hc12 : e1.H > e1.D
    · rw [if_pos hc12] at h
      refine ge_known (t := 74) (b := decide (e1.H > e1.D)) (c := true) (by kernel_rfl) (decide_eq_true hc12) ?_
      refine ge_batch [13, 14, 15, 16, 17, 18, 19, 20, 21, 22, 23] (ans := []) (vs := [(85, .bool true), (84, undef), (83, undef), (82, undef), (81, undef), (80, undef), (79, undef), (78, undef), (77, undef), (76, undef), (75, undef)]) (l := []) (by kernel_rfl) trivial ?_
      refine ge_nil fun a hF => hK22 _ _ ?_ a hF
      refine we_true (by kernel_rfl) ?_
      refine we_seq fun K24 hK24 => ?_
      refine we_region [(0, 0), (1, 1), (2, 2)] rfl ?_
      refine ge_batch [0] (ans := []) (vs := [(86, .int .i64 (i1 : Int))]) (l := []) (by kernel_rfl) trivial ?_
      refine ge_call (d := some 87) (f := 44) (args := #[.int .i64 12, .int .i64 (i1 : Int)]) (by kernel_rfl) (pr_F_ok 12 (i1 : Int) _ _ rfl) ?_
      rintro _ w26 ⟨rfl, hS67⟩
      refine ⟨_, rfl, hS67.below, ?_⟩
      have hS68 := hS.call hS67
      have hS69 := hS68.bring 1 rfl
      refine ge_set (b := b1) (j := 0) (cs := #[.int .i64 0, .int .i64 0]) (t := 31) (vs := [.int .i64 ((pr_F.f 12 (i1 : Int)).Code), .int .i64 ((pr_F.f 12 (i1 : Int)).At)]) hS69 (by kernel_rfl) rfl rfl fun w27 hS70 => ?_
      have hS71 := hS70.nc #[.int .i64 ((pr_F.f 12 (i1 : Int)).Code), .int .i64 ((pr_F.f 12 (i1 : Int)).At)] (by kernel_rfl)
      refine ge_nil fun a hF => hK24 _ _ ?_ a hF
      have hS72 := hS71.takeN 0
      obtain rfl := Option.some.inj h
      exact we_ret fun a hF => hQ _ _ _ (Outs.out nofun ⟨rfl, (post_ret (rs := [.cell 2 31]) (ans := [.val (.int .i64 ((pr_F.f 12 (i1 : Int)).Code)), .val (.int .i64 ((pr_F.f 12 (i1 : Int)).At))]) (vs := [.agg #[.int .i64 ((pr_F.f 12 (i1 : Int)).Code), .int .i64 ((pr_F.f 12 (i1 : Int)).At)]]) (l := [.loaded ⟨b1, 0, none⟩ (.int .i64 ((pr_F.f 12 (i1 : Int)).Code)), .loaded ⟨b1, 1, none⟩ (.int .i64 ((pr_F.f 12 (i1 : Int)).At))]) rfl (by kernel_rfl) ⟨hS71.cell 0 rfl rfl, hS71.cell 0 rfl rfl, trivial⟩ ⟨rfl, hS72⟩) a hF⟩)
    · rw [if_neg hc12] at h
      refine ge_known (t := 74) (b := decide (e1.H > e1.D)) (c := false) (by kernel_rfl) (decide_eq_false hc12) ?_
      refine ge_batch [13, 14, 15, 16] (ans := [.val (.bool e1.High)]) (vs := [(78, .bool (!e1.High)), (77, .bool (!e1.High)), (76, .bool e1.High), (75, .pointer (some ⟨b2, 4, none⟩))]) (l := [.loaded ⟨b2, 4, none⟩ (.bool e1.High)]) (by kernel_rfl) ⟨hS.cell 0 rfl rfl, trivial⟩ ?_
      by_cases hc13 : e1.High = true
      · rw [if_pos hc13] at h
        refine ge_known (t := 78) (b := !e1.High) (c := false) (by kernel_rfl) (congrArg (fun z => !z) hc13) ?_
        refine ge_batch [17, 18, 19, 20, 21, 22, 23] (ans := []) (vs := [(85, .bool false), (84, .bool false), (83, undef), (82, undef), (81, undef), (80, undef), (79, undef)]) (l := []) (by kernel_rfl) trivial ?_
        refine ge_nil fun a hF => hK22 _ _ ?_ a hF
        refine we_false (by kernel_rfl) ?_
        have hS73 := hS.bring 1 rfl
        have hS74 := hS73.bring 1 rfl
        obtain rfl := Option.some.inj h
        exact we_skip fun a hF => hQ _ _ _ (Outs.again ⟨hS74, hF.weaken ⟨by kernel_rfl, by kernel_rfl, by kernel_rfl, by kernel_rfl, by kernel_rfl, by kernel_rfl, by kernel_rfl, trivial⟩⟩)
      · rw [if_neg hc13] at h
        refine ge_known (t := 78) (b := !e1.High) (c := true) (by kernel_rfl) (congrArg (fun z => !z) (Bool.eq_false_iff.2 hc13)) ?_
        refine ge_batch [17, 18, 19, 20, 21, 22, 23] (ans := [.val (.int .i64 e1.H), .val (.int .i64 e1.C)]) (vs := [(85, .bool (decide (e1.H > e1.C))), (84, .bool (decide (e1.H > e1.C))), (83, .bool (decide (e1.H > e1.C))), (82, .int .i64 e1.C), (81, .pointer (some ⟨b2, 0, none⟩)), (80, .int .i64 e1.H), (79, .pointer (some ⟨b2, 1, none⟩))]) (l := [.loaded ⟨b2, 1, none⟩ (.int .i64 e1.H), .loaded ⟨b2, 0, none⟩ (.int .i64 e1.C)]) (by kernel_rfl) ⟨hS.cell 0 rfl rfl, hS.cell 0 rfl rfl, trivial⟩ ?_
        refine ge_nil fun a hF => hK22 _ _ ?_ a hF
        by_cases hc14 : e1.H > e1.C
        · rw [if_pos hc14] at h
          refine we_known (t := 85) (b := decide (e1.H > e1.C)) (v := true) (by kernel_rfl) (decide_eq_true hc14) ?_
          refine we_true (by kernel_rfl) ?_
          refine we_seq fun K25 hK25 => ?_
          refine we_region [(0, 0), (1, 1), (2, 2)] rfl ?_
          refine ge_batch [0] (ans := []) (vs := [(86, .int .i64 (i1 : Int))]) (l := []) (by kernel_rfl) trivial ?_
          refine ge_call (d := some 87) (f := 44) (args := #[.int .i64 12, .int .i64 (i1 : Int)]) (by kernel_rfl) (pr_F_ok 12 (i1 : Int) _ _ rfl) ?_
          rintro _ w28 ⟨rfl, hS75⟩
          refine ⟨_, rfl, hS75.below, ?_⟩
          have hS76 := hS.call hS75
          have hS77 := hS76.bring 1 rfl
          refine ge_set (b := b1) (j := 0) (cs := #[.int .i64 0, .int .i64 0]) (t := 31) (vs := [.int .i64 ((pr_F.f 12 (i1 : Int)).Code), .int .i64 ((pr_F.f 12 (i1 : Int)).At)]) hS77 (by kernel_rfl) rfl rfl fun w29 hS78 => ?_
          have hS79 := hS78.nc #[.int .i64 ((pr_F.f 12 (i1 : Int)).Code), .int .i64 ((pr_F.f 12 (i1 : Int)).At)] (by kernel_rfl)
          refine ge_nil fun a hF => hK25 _ _ ?_ a hF
          have hS80 := hS79.takeN 0
          obtain rfl := Option.some.inj h
          exact we_ret fun a hF => hQ _ _ _ (Outs.out nofun ⟨rfl, (post_ret (rs := [.cell 2 31]) (ans := [.val (.int .i64 ((pr_F.f 12 (i1 : Int)).Code)), .val (.int .i64 ((pr_F.f 12 (i1 : Int)).At))]) (vs := [.agg #[.int .i64 ((pr_F.f 12 (i1 : Int)).Code), .int .i64 ((pr_F.f 12 (i1 : Int)).At)]]) (l := [.loaded ⟨b1, 0, none⟩ (.int .i64 ((pr_F.f 12 (i1 : Int)).Code)), .loaded ⟨b1, 1, none⟩ (.int .i64 ((pr_F.f 12 (i1 : Int)).At))]) rfl (by kernel_rfl) ⟨hS79.cell 0 rfl rfl, hS79.cell 0 rfl rfl, trivial⟩ ⟨rfl, hS80⟩) a hF⟩)
        · rw [if_neg hc14] at h
          refine we_known (t := 85) (b := decide (e1.H > e1.C)) (v := false) (by kernel_rfl) (decide_eq_false hc14) ?_
          refine we_false (by kernel_rfl) ?_
          have hS81 := hS.bring 1 rfl
          have hS82 := hS81.bring 1 rfl
          obtain rfl := Option.some.inj h
          exact we_skip fun a hF => hQ _ _ _ (Outs.again ⟨hS82, hF.weaken ⟨by kernel_rfl, by kernel_rfl, by kernel_rfl, by kernel_rfl, by kernel_rfl, by kernel_rfl, by kernel_rfl, trivial⟩⟩)
abbrev pr_CheckCrit.A4 (K : Nat) (w0 : World) (l0 : List SCrit) (A0 : Option Addr) (c0 : Nat) (hR0 : RdL w0 A0 l0) (hL0 : l0.length ≤ c0) (b1 : Nat) (i1 : Nat) (hc3 : (i1 : Int) < (l0.length : Int)) (e1 : SCrit) (hx2 : l0[i1]? = some e1) (b2 : Nat) (hc15 : i1 ≤ l0.length) : Nat → Act → World → Prop := fun (s : Nat) a w => St w0 w [Own.blk b2 (.cells #[.int .i64 e1.C, .int .i64 e1.H, .int .i64 e1.T, .int .i64 e1.D, .bool e1.High, .int .i64 e1.P] 27 (0, 0)), Own.blk b1 (.cells #[.int .i64 0, .int .i64 0] 31 (0, 0))] ∧ Frm 106 a [(0, .slice A0 l0.length c0), (2, .pointer (some ⟨b1, 0, none⟩)), (3, .int .i64 (i1 : Int)), (4, .pointer (some ⟨b2, 0, none⟩)), (16, .slice A0 l0.length c0), (17, .int .i64 (l0.length : Int)), (18, .int .i64 (i1 : Int)), (90, .slice (subA A0 c0 0 6) (((l0.take i1).drop 0).length) (c0 - 0)), (91, .int .i64 (((l0.take i1).drop 0).length : Int)), (92, .int .i64 (s : Int))]
abbrev pr_CheckCrit.B4 (K : Nat) (w0 : World) (l0 : List SCrit) (A0 : Option Addr) (c0 : Nat) (hR0 : RdL w0 A0 l0) (hL0 : l0.length ≤ c0) (b1 : Nat) (i1 : Nat) (hc3 : (i1 : Int) < (l0.length : Int)) (e1 : SCrit) (hx2 : l0[i1]? = some e1) (b2 : Nat) (hc15 : i1 ≤ l0.length) : (Unit ⊕ SFault) → Exit → Act → World → Prop := Exits 2 (fun (s : Unit) a w => St w0 w [Own.blk b1 (.cells #[.int .i64 0, .int .i64 0] 31 (0, 0))] ∧ Frm 106 a [(0, .slice A0 l0.length c0), (2, .pointer (some ⟨b1, 0, none⟩)), (16, .slice A0 l0.length c0), (17, .int .i64 (l0.length : Int)), (18, .int .i64 (i1 : Int))]) (Rets Tryd.prog Tryd.f13 (pr_CheckCrit.Post w0))
theorem pr_CheckCrit_r4 (K : Nat) (w0 : World) (l0 : List SCrit) (A0 : Option Addr) (c0 : Nat) (hR0 : RdL w0 A0 l0) (hL0 : l0.length ≤ c0) (b1 : Nat) (i1 : Nat) (hc3 : (i1 : Int) < (l0.length : Int)) (e1 : SCrit) (hx2 : l0[i1]? = some e1) (b2 : Nat) (hc15 : i1 ≤ l0.length) (s : Nat) (o : Nat ⊕ (Unit ⊕ SFault)) (h : pr_CheckCrit.r4 l0 i1 e1 s = some o) (a : Act) (w : World) (hA : pr_CheckCrit.A4 K w0 l0 A0 c0 hR0 hL0 b1 i1 hc3 e1 hx2 b2 hc15 s a w) (Q : Exit → Act → World → Prop) (hQ : ∀ x a w, Outs (pr_CheckCrit.A4 K w0 l0 A0 c0 hR0 hL0 b1 i1 hc3 e1 hx2 b2 hc15) (pr_CheckCrit.B4 K w0 l0 A0 c0 hR0 hL0 b1 i1 hc3 e1 hx2 b2 hc15) o x a w → Q x a w) : (subF Tryd.f13 [1, 1, 0, 1, 0, 0, 1, 1, 0, 0, 1, 1, 1, 1, 0, 0]).wp Tryd.prog Q a w := by
  obtain ⟨i2, hs⟩ : ∃ z, z = s := ⟨s, rfl⟩
  subst hs
  obtain ⟨hS, hF⟩ := hA
  replace hS : St w0 w [Own.blk b2 (.cells #[.int .i64 e1.C, .int .i64 e1.H, .int .i64 e1.T, .int .i64 e1.D, .bool e1.High, .int .i64 e1.P] 27 (0, 0)), Own.blk b1 (.cells #[.int .i64 0, .int .i64 0] 31 (0, 0))] := hS
  simp only [pr_CheckCrit.r4] at h
  refine (?_ : WE Tryd.prog 106 (subF Tryd.f13 [1, 1, 0, 1, 0, 0, 1, 1, 0, 0, 1, 1, 1, 1, 0, 0]) Q [(0, .slice A0 l0.length c0), (2, .pointer (some ⟨b1, 0, none⟩)), (3, .int .i64 (i1 : Int)), (4, .pointer (some ⟨b2, 0, none⟩)), (16, .slice A0 l0.length c0), (17, .int .i64 (l0.length : Int)), (18, .int .i64 (i1 : Int)), (90, .slice (subA A0 c0 0 6) (((l0.take i1).drop 0).length) (c0 - 0)), (91, .int .i64 (((l0.take i1).drop 0).length : Int)), (92, .int .i64 (i2 : Int))] w) a hF
  clear hF a
  refine we_seq fun K27 hK27 => ?_
  refine we_region [(0, 0)] rfl ?_
  refine ge_batch [0] (ans := []) (vs := [(93, .bool (decide ((i2 : Int) < (((l0.take i1).drop 0).length : Int))))]) (l := []) (by kernel_rfl) trivial ?_
  refine ge_nil fun a hF => hK27 _ _ ?_ a hF
  refine we_seq fun K28 hK28 => ?_
  by_cases hc16 : (i2 : Int) < (((l0.take i1).drop 0).length : Int)
  · rw [if_pos hc16] at h
    refine we_known (t := 93) (b := decide ((i2 : Int) < (((l0.take i1).drop 0).length : Int))) (v := true) (by kernel_rfl) (decide_eq_true hc16) ?_
    refine we_true (by kernel_rfl) ?_
    refine we_skip fun a hF => hK28 _ _ ?_ a hF
    refine we_seq fun K29 hK29 => ?_
    refine we_block ?_
    refine we_seq fun K30 hK30 => ?_
    refine we_region [(0, 0), (1, 0), (2, 1), (3, 2)] rfl ?_
    rcases hx4 : ((l0.take i1).drop 0)[i2]? with _ | e2
    · rw [hx4] at h; cases h
    rw [hx4] at h
    simp only [] at h
    refine ge_index (d := 94) (ty := 0) (t := 22) (el := 27) (sz := 6) (m := ((l0.take i1).drop 0).length) (c := (c0 - 0)) (x := (.tmp 90)) (y := (.tmp 92)) (A := (subA A0 c0 0 6)) (k' := .i64) (j := (i2 : Int)) (jn := i2) (b0 := blkOf (subA A0 c0 0 6)) (o0 := offOf (subA A0 c0 0 6)) (by kernel_rfl) (by kernel_rfl) (by kernel_rfl) (by kernel_rfl) (by kernel_rfl) ((hS.rd (RdL.part hR0 hL0 0 i1)).eqSome (pos_of_get hx4)) rfl (lt_of_get hx4) ?_
    refine ge_batch [1] (ans := [.val (.int .i64 e2.C), .val (.int .i64 e2.H), .val (.int .i64 e2.T), .val (.int .i64 e2.D), .val (.bool e2.High), .val (.int .i64 e2.P)]) (vs := [(95, .agg #[.int .i64 e2.C, .int .i64 e2.H, .int .i64 e2.T, .int .i64 e2.D, .bool e2.High, .int .i64 e2.P])]) (l := [.loaded ⟨blkOf (subA A0 c0 0 6), offOf (subA A0 c0 0 6) + i2 * 6, none⟩ (.int .i64 e2.C), .loaded ⟨blkOf (subA A0 c0 0 6), offOf (subA A0 c0 0 6) + i2 * 6 + 1, none⟩ (.int .i64 e2.H), .loaded ⟨blkOf (subA A0 c0 0 6), offOf (subA A0 c0 0 6) + i2 * 6 + 2, none⟩ (.int .i64 e2.T), .loaded ⟨blkOf (subA A0 c0 0 6), offOf (subA A0 c0 0 6) + i2 * 6 + 3, none⟩ (.int .i64 e2.D), .loaded ⟨blkOf (subA A0 c0 0 6), offOf (subA A0 c0 0 6) + i2 * 6 + 4, none⟩ (.bool e2.High), .loaded ⟨blkOf (subA A0 c0 0 6), offOf (subA A0 c0 0 6) + i2 * 6 + 5, none⟩ (.int .i64 e2.P)]) (by kernel_rfl) ⟨RdL.cell (j := 0) (hS.rd (RdL.part hR0 hL0 0 i1)) hx4 rfl, RdL.cell (j := 1) (hS.rd (RdL.part hR0 hL0 0 i1)) hx4 rfl, RdL.cell (j := 2) (hS.rd (RdL.part hR0 hL0 0 i1)) hx4 rfl, RdL.cell (j := 3) (hS.rd (RdL.part hR0 hL0 0 i1)) hx4 rfl, RdL.cell (j := 4) (hS.rd (RdL.part hR0 hL0 0 i1)) hx4 rfl, RdL.cell (j := 5) (hS.rd (RdL.part hR0 hL0 0 i1)) hx4 rfl, trivial⟩ ?_
    refine ge_new (d := some 6) (o := .cells #[.int .i64 0, .int .i64 0, .int .i64 0, .int .i64 0, .bool false, .int .i64 0] 27) (v := fun b => .pointer (some ⟨b, 0, none⟩)) hS (fun b => by kernel_rfl) fun b3 w31 hx5 hS86 => ?_
    refine ge_set (b := b3) (j := 0) (cs := #[.int .i64 0, .int .i64 0, .int .i64 0, .int .i64 0, .bool false, .int .i64 0]) (t := 27) (vs := [.int .i64 e2.C, .int .i64 e2.H, .int .i64 e2.T, .int .i64 e2.D, .bool e2.High, .int .i64 e2.P]) hS86 (by kernel_rfl) rfl rfl fun w32 hS87 => ?_
    have hS88 := hS87.nc #[.int .i64 e2.C, .int .i64 e2.H, .int .i64 e2.T, .int .i64 e2.D, .bool e2.High, .int .i64 e2.P] (by kernel_rfl)
    refine ge_nil fun a hF => hK30 _ _ ?_ a hF
    refine we_seq fun K31 hK31 => ?_
    refine we_region [(0, 0), (1, 0), (2, 0), (3, 0), (4, 0)] rfl ?_
    refine ge_batch [0, 1, 2, 3, 4] (ans := [.val (.int .i64 e2.P), .val (.int .i64 e1.P)]) (vs := [(100, .bool (e2.P == e1.P)), (99, .int .i64 e1.P), (98, .pointer (some ⟨b2, 5, none⟩)), (97, .int .i64 e2.P), (96, .pointer (some ⟨b3, 5, none⟩))]) (l := [.loaded ⟨b3, 5, none⟩ (.int .i64 e2.P), .loaded ⟨b2, 5, none⟩ (.int .i64 e1.P)]) (by kernel_rfl) ⟨hS88.cell 0 rfl rfl, hS88.cell 1 rfl rfl, trivial⟩ ?_
    refine ge_nil fun a hF => hK31 _ _ ?_ a hF
    by_cases hc17 : e2.P = e1.P
    · rw [if_pos hc17] at h
      refine we_known (t := 100) (b := (e2.P == e1.P)) (v := true) (by kernel_rfl) (beq_iff_eq.2 hc17) ?_
      refine we_true (by kernel_rfl) ?_
      refine we_seq fun K32 hK32 => ?_
      refine we_region [(0, 0), (1, 1), (2, 2)] rfl ?_
      refine ge_batch [0] (ans := []) (vs := [(101, .int .i64 (i1 : Int))]) (l := []) (by kernel_rfl) trivial ?_
      refine ge_call (d := some 102) (f := 44) (args := #[.int .i64 5, .int .i64 (i1 : Int)]) (by kernel_rfl) (pr_F_ok 5 (i1 : Int) _ _ rfl) ?_
      rintro _ w33 ⟨rfl, hS89⟩
      refine ⟨_, rfl, hS89.below, ?_⟩
      have hS90 := hS88.call hS89
      have hS91 := hS90.bring 2 rfl
      refine ge_set (b := b1) (j := 0) (cs := #[.int .i64 0, .int .i64 0]) (t := 31) (vs := [.int .i64 ((pr_F.f 5 (i1 : Int)).Code), .int .i64 ((pr_F.f 5 (i1 : Int)).At)]) hS91 (by kernel_rfl) rfl rfl fun w34 hS92 => ?_
      have hS93 := hS92.nc #[.int .i64 ((pr_F.f 5 (i1 : Int)).Code), .int .i64 ((pr_F.f 5 (i1 : Int)).At)] (by kernel_rfl)
      refine ge_nil fun a hF => hK32 _ _ ?_ a hF
      have hS94 := hS93.takeN 0
      obtain rfl := Option.some.inj h
      exact we_ret fun a hF => hQ _ _ _ (Outs.out nofun (Exits.on ⟨rfl, (post_ret (rs := [.cell 2 31]) (ans := [.val (.int .i64 ((pr_F.f 5 (i1 : Int)).Code)), .val (.int .i64 ((pr_F.f 5 (i1 : Int)).At))]) (vs := [.agg #[.int .i64 ((pr_F.f 5 (i1 : Int)).Code), .int .i64 ((pr_F.f 5 (i1 : Int)).At)]]) (l := [.loaded ⟨b1, 0, none⟩ (.int .i64 ((pr_F.f 5 (i1 : Int)).Code)), .loaded ⟨b1, 1, none⟩ (.int .i64 ((pr_F.f 5 (i1 : Int)).At))]) rfl (by kernel_rfl) ⟨hS93.cell 0 rfl rfl, hS93.cell 0 rfl rfl, trivial⟩ ⟨rfl, hS94⟩) a hF⟩))
    · rw [if_neg hc17] at h
      refine we_known (t := 100) (b := (e2.P == e1.P)) (v := false) (by kernel_rfl) (beq_eq_false_iff_ne.2 hc17) ?_
      refine we_false (by kernel_rfl) ?_
      refine we_skip fun a hF => hK29 _ _ ?_ a hF
      refine we_region [(0, 0), (1, 0)] rfl ?_
      refine ge_addn (d := 103) (ty := 3) (x := (.tmp 92)) (y := (.const (.int .i64 1))) (t := 3) (t2 := 3) (k := .i64) (m := i2) (by kernel_rfl) (by kernel_rfl) (by kernel_rfl) (by have h0 := hR0.small; have h1 : ((l0.take i1).drop 0).length ≤ l0.length := (by simp only [List.length_drop, List.length_take]; omega); omega) ?_
      refine ge_batch [1] (ans := []) (vs := [(92, .int .i64 ((i2 + 1 : Nat) : Int))]) (l := []) (by kernel_rfl) trivial ?_
      have hS95 := hS88.bring 2 rfl
      have hS96 := hS95.bring 2 rfl
      have hS97 := hS96.takeN 2
      obtain rfl := Option.some.inj h
      exact ge_nil fun a hF => hQ _ _ _ (Outs.again ⟨hS97, hF.weaken ⟨by kernel_rfl, by kernel_rfl, by kernel_rfl, by kernel_rfl, by kernel_rfl, by kernel_rfl, by kernel_rfl, by kernel_rfl, by kernel_rfl, by kernel_rfl, trivial⟩⟩)
  · rw [if_neg hc16] at h
    refine we_known (t := 93) (b := decide ((i2 : Int) < (((l0.take i1).drop 0).length : Int))) (v := false) (by kernel_rfl) (decide_eq_false hc16) ?_
    refine we_false (by kernel_rfl) ?_
    have hS98 := hS.bring 1 rfl
    have hS99 := hS98.takeN 1
    obtain rfl := Option.some.inj h
    exact we_exit fun a hF => hQ _ _ _ (Outs.out nofun (Exits.here ⟨hS99, hF.weaken ⟨by kernel_rfl, by kernel_rfl, by kernel_rfl, by kernel_rfl, by kernel_rfl, trivial⟩⟩))
abbrev pr_CheckCrit.A1 (K : Nat) (w0 : World) (l0 : List SCrit) (A0 : Option Addr) (c0 : Nat) (hR0 : RdL w0 A0 l0) (hL0 : l0.length ≤ c0) (b1 : Nat) : Nat → Act → World → Prop := fun (s : Nat) a w => St w0 w [Own.blk b1 (.cells #[.int .i64 0, .int .i64 0] 31 (0, 0))] ∧ Frm 106 a [(0, .slice A0 l0.length c0), (2, .pointer (some ⟨b1, 0, none⟩)), (16, .slice A0 l0.length c0), (17, .int .i64 (l0.length : Int)), (18, .int .i64 (s : Int))]
abbrev pr_CheckCrit.B1 (K : Nat) (w0 : World) (l0 : List SCrit) (A0 : Option Addr) (c0 : Nat) (hR0 : RdL w0 A0 l0) (hL0 : l0.length ≤ c0) (b1 : Nat) : (Unit ⊕ SFault) → Exit → Act → World → Prop := Exits 0 (fun (s : Unit) a w => St w0 w [Own.blk b1 (.cells #[.int .i64 0, .int .i64 0] 31 (0, 0))] ∧ Frm 106 a [(2, .pointer (some ⟨b1, 0, none⟩))]) (Rets Tryd.prog Tryd.f13 (pr_CheckCrit.Post w0))
theorem pr_CheckCrit_r1 (K : Nat) (w0 : World) (l0 : List SCrit) (A0 : Option Addr) (c0 : Nat) (hR0 : RdL w0 A0 l0) (hL0 : l0.length ≤ c0) (b1 : Nat) (s : Nat) (o : Nat ⊕ (Unit ⊕ SFault)) (h : pr_CheckCrit.r1 K l0 s = some o) (a : Act) (w : World) (hA : pr_CheckCrit.A1 K w0 l0 A0 c0 hR0 hL0 b1 s a w) (Q : Exit → Act → World → Prop) (hQ : ∀ x a w, Outs (pr_CheckCrit.A1 K w0 l0 A0 c0 hR0 hL0 b1) (pr_CheckCrit.B1 K w0 l0 A0 c0 hR0 hL0 b1) o x a w → Q x a w) : (subF Tryd.f13 [1, 1, 0, 1, 0, 0]).wp Tryd.prog Q a w := by
  obtain ⟨i1, hs⟩ : ∃ z, z = s := ⟨s, rfl⟩
  subst hs
  obtain ⟨hS, hF⟩ := hA
  replace hS : St w0 w [Own.blk b1 (.cells #[.int .i64 0, .int .i64 0] 31 (0, 0))] := hS
  simp only [pr_CheckCrit.r1] at h
  refine (?_ : WE Tryd.prog 106 (subF Tryd.f13 [1, 1, 0, 1, 0, 0]) Q [(0, .slice A0 l0.length c0), (2, .pointer (some ⟨b1, 0, none⟩)), (16, .slice A0 l0.length c0), (17, .int .i64 (l0.length : Int)), (18, .int .i64 (i1 : Int))] w) a hF
  clear hF a
  refine we_seq fun K8 hK8 => ?_
  refine we_region [(0, 0)] rfl ?_
  refine ge_batch [0] (ans := []) (vs := [(19, .bool (decide ((i1 : Int) < (l0.length : Int))))]) (l := []) (by kernel_rfl) trivial ?_
  refine ge_nil fun a hF => hK8 _ _ ?_ a hF
  refine we_seq fun K9 hK9 => ?_
  by_cases hc3 : (i1 : Int) < (l0.length : Int)
  · rw [if_pos hc3] at h
    refine we_known (t := 19) (b := decide ((i1 : Int) < (l0.length : Int))) (v := true) (by kernel_rfl) (decide_eq_true hc3) ?_
    refine we_true (by kernel_rfl) ?_
    refine we_skip fun a hF => hK9 _ _ ?_ a hF
    refine we_seq fun K10 hK10 => ?_
    refine we_block ?_
    refine we_seq fun K11 hK11 => ?_
    refine we_region [(0, 0), (1, 0), (2, 0), (3, 1), (4, 0), (5, 2)] rfl ?_
    refine ge_batch [0] (ans := []) (vs := [(20, .int .i64 (i1 : Int))]) (l := []) (by kernel_rfl) trivial ?_
    rcases hx2 : l0[i1]? with _ | e1
    · rw [hx2] at h; cases h
    rw [hx2] at h
    simp only [] at h
    refine ge_index (d := 21) (ty := 0) (t := 22) (el := 27) (sz := 6) (m := l0.length) (c := c0) (x := (.tmp 16)) (y := (.tmp 18)) (A := A0) (k' := .i64) (j := (i1 : Int)) (jn := i1) (b0 := blkOf A0) (o0 := offOf A0) (by kernel_rfl) (by kernel_rfl) (by kernel_rfl) (by kernel_rfl) (by kernel_rfl) ((hS.rd hR0).eqSome (pos_of_get hx2)) rfl (lt_of_get hx2) ?_
    refine ge_batch [2] (ans := [.val (.int .i64 e1.C), .val (.int .i64 e1.H), .val (.int .i64 e1.T), .val (.int .i64 e1.D), .val (.bool e1.High), .val (.int .i64 e1.P)]) (vs := [(22, .agg #[.int .i64 e1.C, .int .i64 e1.H, .int .i64 e1.T, .int .i64 e1.D, .bool e1.High, .int .i64 e1.P])]) (l := [.loaded ⟨blkOf A0, offOf A0 + i1 * 6, none⟩ (.int .i64 e1.C), .loaded ⟨blkOf A0, offOf A0 + i1 * 6 + 1, none⟩ (.int .i64 e1.H), .loaded ⟨blkOf A0, offOf A0 + i1 * 6 + 2, none⟩ (.int .i64 e1.T), .loaded ⟨blkOf A0, offOf A0 + i1 * 6 + 3, none⟩ (.int .i64 e1.D), .loaded ⟨blkOf A0, offOf A0 + i1 * 6 + 4, none⟩ (.bool e1.High), .loaded ⟨blkOf A0, offOf A0 + i1 * 6 + 5, none⟩ (.int .i64 e1.P)]) (by kernel_rfl) ⟨RdL.cell (j := 0) (hS.rd hR0) hx2 rfl, RdL.cell (j := 1) (hS.rd hR0) hx2 rfl, RdL.cell (j := 2) (hS.rd hR0) hx2 rfl, RdL.cell (j := 3) (hS.rd hR0) hx2 rfl, RdL.cell (j := 4) (hS.rd hR0) hx2 rfl, RdL.cell (j := 5) (hS.rd hR0) hx2 rfl, trivial⟩ ?_
    refine ge_new (d := some 4) (o := .cells #[.int .i64 0, .int .i64 0, .int .i64 0, .int .i64 0, .bool false, .int .i64 0] 27) (v := fun b => .pointer (some ⟨b, 0, none⟩)) hS (fun b => by kernel_rfl) fun b2 w7 hx3 hS13 => ?_
    refine ge_batch [4] (ans := []) (vs := [(3, .int .i64 (i1 : Int))]) (l := []) (by kernel_rfl) trivial ?_
    refine ge_set (b := b2) (j := 0) (cs := #[.int .i64 0, .int .i64 0, .int .i64 0, .int .i64 0, .bool false, .int .i64 0]) (t := 27) (vs := [.int .i64 e1.C, .int .i64 e1.H, .int .i64 e1.T, .int .i64 e1.D, .bool e1.High, .int .i64 e1.P]) hS13 (by kernel_rfl) rfl rfl fun w8 hS14 => ?_
    have hS15 := hS14.nc #[.int .i64 e1.C, .int .i64 e1.H, .int .i64 e1.T, .int .i64 e1.D, .bool e1.High, .int .i64 e1.P] (by kernel_rfl)
    refine ge_nil fun a hF => hK11 _ _ ?_ a hF
    refine we_seq fun K12 hK12 => ?_
    rcases hq11 : pr_CheckCrit.p2 i1 e1 with _ | (_ | rr3)
    · rw [hq11] at h; cases h
    · rw [hq11] at h
      simp only [] at h
      refine we_keep (e' := [(0, .slice A0 l0.length c0), (2, .pointer (some ⟨b1, 0, none⟩)), (3, .int .i64 (i1 : Int)), (4, .pointer (some ⟨b2, 0, none⟩)), (16, .slice A0 l0.length c0), (17, .int .i64 (l0.length : Int)), (18, .int .i64 (i1 : Int)), (19, .bool true), (20, .int .i64 (i1 : Int)), (21, .pointer (some ⟨blkOf A0, offOf A0 + i1 * 6, none⟩)), (22, .agg #[.int .i64 e1.C, .int .i64 e1.H, .int .i64 e1.T, .int .i64 e1.D, .bool e1.High, .int .i64 e1.P])]) ⟨by kernel_rfl, by kernel_rfl, by kernel_rfl, by kernel_rfl, by kernel_rfl, by kernel_rfl, by kernel_rfl, by kernel_rfl, by kernel_rfl, by kernel_rfl, by kernel_rfl, trivial⟩ (pr_CheckCrit_p2 K w0 l0 A0 c0 hR0 hL0 b1 i1 hc3 e1 hx2 b2 _ hq11 _ hS15 _ ?_)
      rintro _ a w23 ⟨rfl, hS60, hF⟩
      replace hS60 : St w0 w23 [Own.blk b2 (.cells #[.int .i64 e1.C, .int .i64 e1.H, .int .i64 e1.T, .int .i64 e1.D, .bool e1.High, .int .i64 e1.P] 27 (0, 0)), Own.blk b1 (.cells #[.int .i64 0, .int .i64 0] 31 (0, 0))] := hS60
      refine hK12 [(0, .slice A0 l0.length c0), (2, .pointer (some ⟨b1, 0, none⟩)), (3, .int .i64 (i1 : Int)), (4, .pointer (some ⟨b2, 0, none⟩)), (16, .slice A0 l0.length c0), (17, .int .i64 (l0.length : Int)), (18, .int .i64 (i1 : Int))] w23 ?_ a hF
      refine we_seq fun K21 hK21 => ?_
      rcases hq15 : pr_CheckCrit.p3 i1 e1 with _ | (_ | rr2)
      · rw [hq15] at h; cases h
      · rw [hq15] at h
        simp only [] at h
        refine we_keep (e' := [(0, .slice A0 l0.length c0), (2, .pointer (some ⟨b1, 0, none⟩)), (3, .int .i64 (i1 : Int)), (4, .pointer (some ⟨b2, 0, none⟩)), (16, .slice A0 l0.length c0), (17, .int .i64 (l0.length : Int)), (18, .int .i64 (i1 : Int))]) ⟨by kernel_rfl, by kernel_rfl, by kernel_rfl, by kernel_rfl, by kernel_rfl, by kernel_rfl, by kernel_rfl, trivial⟩ (pr_CheckCrit_p3 K w0 l0 A0 c0 hR0 hL0 b1 i1 hc3 e1 hx2 b2 _ hq15 _ hS60 _ ?_)
        rintro _ a w30 ⟨rfl, hS83, hF⟩
        replace hS83 : St w0 w30 [Own.blk b2 (.cells #[.int .i64 e1.C, .int .i64 e1.H, .int .i64 e1.T, .int .i64 e1.D, .bool e1.High, .int .i64 e1.P] 27 (0, 0)), Own.blk b1 (.cells #[.int .i64 0, .int .i64 0] 31 (0, 0))] := hS83
        refine hK21 [(0, .slice A0 l0.length c0), (2, .pointer (some ⟨b1, 0, none⟩)), (3, .int .i64 (i1 : Int)), (4, .pointer (some ⟨b2, 0, none⟩)), (16, .slice A0 l0.length c0), (17, .int .i64 (l0.length : Int)), (18, .int .i64 (i1 : Int))] w30 ?_ a hF
        refine we_seq fun K26 hK26 => ?_
        refine we_region [(0, 0), (1, 0), (2, 0), (3, 0), (4, 0)] rfl ?_
        refine ge_batch [0, 1] (ans := []) (vs := [(89, .int .i64 (i1 : Int)), (88, .slice A0 l0.length c0)]) (l := []) (by kernel_rfl) trivial ?_
        by_cases hc15 : i1 ≤ l0.length
        · rw [if_pos hc15] at h
          refine ge_part (d := 90) (ty := 22) (t := 22) (el := 27) (sz := 6) (m := l0.length) (c := c0) (lo := 0) (hi := i1) (x := (.tmp 88)) (xl := none) (xh := some (.tmp 89)) (A := A0) (by kernel_rfl) (by kernel_rfl) rfl ⟨.i64, (i1 : Int), by kernel_rfl, rfl⟩ (by kernel_rfl) (by kernel_rfl) (by have f0 := hc15; have f1 := hL0; omega) (by have f0 := hc15; have f1 := hL0; omega) ?_
          refine ge_same (t := 90) (v := .slice (subA A0 c0 0 6) (i1 - 0) (c0 - 0)) (v' := .slice (subA A0 c0 0 6) (((l0.take i1).drop 0).length) (c0 - 0)) (by kernel_rfl) (by have f0 := hc15; have f1 := hL0; rw [show i1 - 0 = ((l0.take i1).drop 0).length by simp only [List.length_drop, List.length_take]; omega]) ?_
          refine ge_batch [3, 4] (ans := []) (vs := [(92, .int .i64 0), (91, .int .i64 (((l0.take i1).drop 0).length : Int))]) (l := []) (by kernel_rfl) trivial ?_
          refine ge_nil fun a hF => hK26 _ _ ?_ a hF
          refine we_block ?_
          have hS84 := hS83.bring 1 rfl
          have hS85 := hS84.bring 1 rfl
          rcases hq17 : iter (pr_CheckCrit.r4 l0 i1 e1) K 0 with _ | (_ | rr1)
          · rw [hq17] at h; cases h
          · rw [hq17] at h
            simp only [] at h
            refine we_iter (A := pr_CheckCrit.A4 K w0 l0 A0 c0 hR0 hL0 b1 i1 hc3 e1 hx2 b2 hc15) (B := pr_CheckCrit.B4 K w0 l0 A0 c0 hR0 hL0 b1 i1 hc3 e1 hx2 b2 hc15) hq17 (fun a hF => ⟨hS85, hF.weaken ⟨by kernel_rfl, by kernel_rfl, by kernel_rfl, by kernel_rfl, by kernel_rfl, by kernel_rfl, by kernel_rfl, by kernel_rfl, by kernel_rfl, by kernel_rfl, trivial⟩⟩) (fun s o hf a w hA Q hQ => pr_CheckCrit_r4 K w0 l0 A0 c0 hR0 hL0 b1 i1 hc3 e1 hx2 b2 hc15 s o hf a w hA Q hQ) ?_
            rintro _ a w35 _ ⟨rfl, hS100, hF⟩
            replace hS100 : St w0 w35 [Own.blk b1 (.cells #[.int .i64 0, .int .i64 0] 31 (0, 0))] := hS100
            refine hK10 [(0, .slice A0 l0.length c0), (2, .pointer (some ⟨b1, 0, none⟩)), (16, .slice A0 l0.length c0), (17, .int .i64 (l0.length : Int)), (18, .int .i64 (i1 : Int))] w35 ?_ a hF
            refine we_region [(0, 0), (1, 0)] rfl ?_
            refine ge_addn (d := 104) (ty := 3) (x := (.tmp 18)) (y := (.const (.int .i64 1))) (t := 3) (t2 := 3) (k := .i64) (m := i1) (by kernel_rfl) (by kernel_rfl) (by kernel_rfl) (by have h0 := hR0.small; omega) ?_
            refine ge_batch [1] (ans := []) (vs := [(18, .int .i64 ((i1 + 1 : Nat) : Int))]) (l := []) (by kernel_rfl) trivial ?_
            obtain rfl := Option.some.inj h
            exact ge_nil fun a hF => hQ _ _ _ (Outs.again ⟨hS100, hF.weaken ⟨by kernel_rfl, by kernel_rfl, by kernel_rfl, by kernel_rfl, by kernel_rfl, trivial⟩⟩)
          · rw [hq17] at h
            simp only [] at h
            refine we_iter (A := pr_CheckCrit.A4 K w0 l0 A0 c0 hR0 hL0 b1 i1 hc3 e1 hx2 b2 hc15) (B := pr_CheckCrit.B4 K w0 l0 A0 c0 hR0 hL0 b1 i1 hc3 e1 hx2 b2 hc15) hq17 (fun a hF => ⟨hS85, hF.weaken ⟨by kernel_rfl, by kernel_rfl, by kernel_rfl, by kernel_rfl, by kernel_rfl, by kernel_rfl, by kernel_rfl, by kernel_rfl, by kernel_rfl, by kernel_rfl, trivial⟩⟩) (fun s o hf a w hA Q hQ => pr_CheckCrit_r4 K w0 l0 A0 c0 hR0 hL0 b1 i1 hc3 e1 hx2 b2 hc15 s o hf a w hA Q hQ) ?_
            rintro _ a w1 _ ⟨rfl, hb⟩
            obtain rfl := Option.some.inj h
            exact hQ _ _ _ (Outs.out nofun (Exits.on ⟨rfl, hb⟩))
        · rw [if_neg hc15] at h
          cases h
      · rw [hq15] at h
        simp only [] at h
        refine we_keep (e' := [(0, .slice A0 l0.length c0), (2, .pointer (some ⟨b1, 0, none⟩)), (3, .int .i64 (i1 : Int)), (4, .pointer (some ⟨b2, 0, none⟩)), (16, .slice A0 l0.length c0), (17, .int .i64 (l0.length : Int)), (18, .int .i64 (i1 : Int))]) ⟨by kernel_rfl, by kernel_rfl, by kernel_rfl, by kernel_rfl, by kernel_rfl, by kernel_rfl, by kernel_rfl, trivial⟩ (pr_CheckCrit_p3 K w0 l0 A0 c0 hR0 hL0 b1 i1 hc3 e1 hx2 b2 _ hq15 _ hS60 _ ?_)
        rintro _ a w1 ⟨_, rfl, hb⟩
        obtain rfl := Option.some.inj h
        exact hQ _ _ _ (Outs.out nofun (Exits.on ⟨rfl, hb⟩))
    · rw [hq11] at h
      simp only [] at h
      refine we_keep (e' := [(0, .slice A0 l0.length c0), (2, .pointer (some ⟨b1, 0, none⟩)), (3, .int .i64 (i1 : Int)), (4, .pointer (some ⟨b2, 0, none⟩)), (16, .slice A0 l0.length c0), (17, .int .i64 (l0.length : Int)), (18, .int .i64 (i1 : Int)), (19, .bool true), (20, .int .i64 (i1 : Int)), (21, .pointer (some ⟨blkOf A0, offOf A0 + i1 * 6, none⟩)), (22, .agg #[.int .i64 e1.C, .int .i64 e1.H, .int .i64 e1.T, .int .i64 e1.D, .bool e1.High, .int .i64 e1.P])]) ⟨by kernel_rfl, by kernel_rfl, by kernel_rfl, by kernel_rfl, by kernel_rfl, by kernel_rfl, by kernel_rfl, by kernel_rfl, by kernel_rfl, by kernel_rfl, by kernel_rfl, trivial⟩ (pr_CheckCrit_p2 K w0 l0 A0 c0 hR0 hL0 b1 i1 hc3 e1 hx2 b2 _ hq11 _ hS15 _ ?_)
      rintro _ a w1 ⟨_, rfl, hb⟩
      obtain rfl := Option.some.inj h
      exact hQ _ _ _ (Outs.out nofun (Exits.on ⟨rfl, hb⟩))
  · rw [if_neg hc3] at h
    refine we_known (t := 19) (b := decide ((i1 : Int) < (l0.length : Int))) (v := false) (by kernel_rfl) (decide_eq_false hc3) ?_
    refine we_false (by kernel_rfl) ?_
    obtain rfl := Option.some.inj h
    exact we_exit fun a hF => hQ _ _ _ (Outs.out nofun (Exits.here ⟨hS, hF.weaken ⟨by kernel_rfl, trivial⟩⟩))
theorem pr_CheckCrit_ok (K : Nat) (l0 : List SCrit) (A0 : Option Addr) (c0 : Nat) (w0 : World) (hR0 : RdL w0 A0 l0) (hL0 : l0.length ≤ c0) (r : SFault) (h : pr_CheckCrit.f K l0 = some r) :
    Calls Tryd.prog 13 #[.slice A0 l0.length c0] w0 (pr_CheckCrit.Post w0 r) := by
  have hS := St.start w0
  unfold pr_CheckCrit.f at h
  refine calls_enter (n := 106) (args := [.slice A0 l0.length c0]) (fn := Tryd.f13) rfl rfl rfl rfl ?_
  show WE _ _ _ _ [(0, .slice A0 l0.length c0)] _
  refine we_seq fun K1 hK1 => ?_
  refine we_region [(0, 1)] rfl ?_
  refine ge_new (d := some 2) (o := .cells #[.int .i64 0, .int .i64 0] 31) (v := fun b => .pointer (some ⟨b, 0, none⟩)) hS (fun b => by kernel_rfl) fun b1 w1 hx1 hS1 => ?_
  refine ge_nil fun a hF => hK1 _ _ ?_ a hF
  refine we_seq fun K2 hK2 => ?_
  rcases hq3 : pr_CheckCrit.p0 l0 with _ | (_ | rr5)
  · rw [hq3] at h; cases h
  · rw [hq3] at h
    simp only [] at h
    refine we_keep (e' := [(0, .slice A0 l0.length c0), (2, .pointer (some ⟨b1, 0, none⟩))]) ⟨by kernel_rfl, by kernel_rfl, trivial⟩ (pr_CheckCrit_p0 K w0 l0 A0 c0 hR0 hL0 b1 _ hq3 _ hS1 _ ?_)
    rintro _ a w6 ⟨rfl, hS12, hF⟩
    replace hS12 : St w0 w6 [Own.blk b1 (.cells #[.int .i64 0, .int .i64 0] 31 (0, 0))] := hS12
    refine hK2 [(0, .slice A0 l0.length c0), (2, .pointer (some ⟨b1, 0, none⟩))] w6 ?_ a hF
    refine we_seq fun K6 hK6 => ?_
    refine we_seq fun K7 hK7 => ?_
    refine we_region [(0, 0), (1, 0), (2, 0)] rfl ?_
    refine ge_batch [0, 1, 2] (ans := []) (vs := [(18, .int .i64 0), (17, .int .i64 (l0.length : Int)), (16, .slice A0 l0.length c0)]) (l := []) (by kernel_rfl) trivial ?_
    refine ge_nil fun a hF => hK7 _ _ ?_ a hF
    refine we_block ?_
    rcases hq18 : iter (pr_CheckCrit.r1 K l0) K 0 with _ | (_ | rr4)
    · rw [hq18] at h; cases h
    · rw [hq18] at h
      simp only [] at h
      refine we_iter (A := pr_CheckCrit.A1 K w0 l0 A0 c0 hR0 hL0 b1) (B := pr_CheckCrit.B1 K w0 l0 A0 c0 hR0 hL0 b1) hq18 (fun a hF => ⟨hS12, hF.weaken ⟨by kernel_rfl, by kernel_rfl, by kernel_rfl, by kernel_rfl, by kernel_rfl, trivial⟩⟩) (fun s o hf a w hA Q hQ => pr_CheckCrit_r1 K w0 l0 A0 c0 hR0 hL0 b1 s o hf a w hA Q hQ) ?_
      rintro _ a w36 _ ⟨rfl, hS101, hF⟩
      replace hS101 : St w0 w36 [Own.blk b1 (.cells #[.int .i64 0, .int .i64 0] 31 (0, 0))] := hS101
      refine hK6 [(2, .pointer (some ⟨b1, 0, none⟩))] w36 ?_ a hF
      refine we_seq fun K33 hK33 => ?_
      refine we_region [(0, 0), (1, 2)] rfl ?_
      refine ge_batch [0] (ans := []) (vs := [(105, .agg #[.int .i64 0, .int .i64 0])]) (l := []) (by kernel_rfl) trivial ?_
      refine ge_set (b := b1) (j := 0) (cs := #[.int .i64 0, .int .i64 0]) (t := 31) (vs := [.int .i64 0, .int .i64 0]) hS101 (by kernel_rfl) rfl rfl fun w37 hS102 => ?_
      have hS103 := hS102.nc #[.int .i64 0, .int .i64 0] (by kernel_rfl)
      refine ge_nil fun a hF => hK33 _ _ ?_ a hF
      have hS104 := hS103.takeN 0
      obtain rfl := Option.some.inj h
      exact we_ret (post_ret (rs := [.cell 2 31]) (ans := [.val (.int .i64 0), .val (.int .i64 0)]) (vs := [.agg #[.int .i64 0, .int .i64 0]]) (l := [.loaded ⟨b1, 0, none⟩ (.int .i64 0), .loaded ⟨b1, 1, none⟩ (.int .i64 0)]) rfl (by kernel_rfl) ⟨hS103.cell 0 rfl rfl, hS103.cell 0 rfl rfl, trivial⟩ ⟨rfl, hS104⟩)
    · rw [hq18] at h
      simp only [] at h
      refine we_iter (A := pr_CheckCrit.A1 K w0 l0 A0 c0 hR0 hL0 b1) (B := pr_CheckCrit.B1 K w0 l0 A0 c0 hR0 hL0 b1) hq18 (fun a hF => ⟨hS12, hF.weaken ⟨by kernel_rfl, by kernel_rfl, by kernel_rfl, by kernel_rfl, by kernel_rfl, trivial⟩⟩) (fun s o hf a w hA Q hQ => pr_CheckCrit_r1 K w0 l0 A0 c0 hR0 hL0 b1 s o hf a w hA Q hQ) ?_
      rintro _ a w1 _ ⟨rfl, hb⟩
      obtain rfl := Option.some.inj h
      exact hb
  · rw [hq3] at h
    simp only [] at h
    refine we_keep (e' := [(0, .slice A0 l0.length c0), (2, .pointer (some ⟨b1, 0, none⟩))]) ⟨by kernel_rfl, by kernel_rfl, trivial⟩ (pr_CheckCrit_p0 K w0 l0 A0 c0 hR0 hL0 b1 _ hq3 _ hS1 _ ?_)
    rintro _ a w1 ⟨_, rfl, hb⟩
    obtain rfl := Option.some.inj h
    exact hb

/-! punctual/punctualref.up -/
abbrev pr_up.Post (w0 : World) (r : Int) (e : Ending) (w : World) : Prop := e = .returned (.int .i64 r) ∧ St w0 w []
def pr_up.f (x0 : Int) (x1 : Int) : Option Int :=
  if x1 = 0 then
    none
  else
    if (IntKind.i64.wrap ((IntKind.i64.wrap (Int.tdiv x0 x1)) * x1)) < x0 then
      some (IntKind.i64.wrap ((IntKind.i64.wrap (Int.tdiv x0 x1)) + 1))
    else
      some (IntKind.i64.wrap (Int.tdiv x0 x1))
theorem pr_up_ok (x0 : Int) (x1 : Int) (w0 : World) (r : Int) (h : pr_up.f x0 x1 = some r) :
    Calls Tryd.prog 42 #[.int .i64 x0, .int .i64 x1] w0 (pr_up.Post w0 r) := by
  have hS := St.start w0
  unfold pr_up.f at h
  refine calls_enter (n := 17) (args := [.int .i64 x0, .int .i64 x1]) (fn := Tryd.f42) rfl rfl rfl rfl ?_
  show WE _ _ _ _ [(0, .int .i64 x0), (1, .int .i64 x1)] _
  refine we_seq fun K1 hK1 => ?_
  refine we_region [(0, 0)] rfl ?_
  refine ge_batch [0] (ans := []) (vs := [(4, .int .i64 0)]) (l := []) (by kernel_rfl) trivial ?_
  refine ge_nil fun a hF => hK1 _ _ ?_ a hF
  refine we_seq fun K2 hK2 => ?_
  refine we_region [(0, 0), (1, 0), (2, 0), (3, 0)] rfl ?_
  refine ge_batch [0, 1] (ans := []) (vs := [(7, .int .i64 x1), (6, .int .i64 x0)]) (l := []) (by kernel_rfl) trivial ?_
  by_cases hc1 : x1 = 0
  · rw [if_pos hc1] at h
    cases h
  · rw [if_neg hc1] at h
    refine ge_div (d := 8) (ty := 3) (op := .quo) (x := (.tmp 6)) (y := (.tmp 7)) (t := 3) (t2 := 3) (k := .i64) (p := x0) (q := x1) (v := .int .i64 (IntKind.i64.wrap (Int.tdiv x0 x1))) (by kernel_rfl) (by kernel_rfl) (by kernel_rfl) hc1 rfl ?_
    refine ge_batch [3] (ans := []) (vs := [(5, .int .i64 (IntKind.i64.wrap (Int.tdiv x0 x1)))]) (l := []) (by kernel_rfl) trivial ?_
    refine ge_nil fun a hF => hK2 _ _ ?_ a hF
    refine we_seq fun K3 hK3 => ?_
    refine we_seq fun K4 hK4 => ?_
    refine we_region [(0, 0), (1, 0), (2, 0), (3, 0), (4, 0)] rfl ?_
    refine ge_batch [0, 1, 2, 3, 4] (ans := []) (vs := [(13, .bool (decide ((IntKind.i64.wrap ((IntKind.i64.wrap (Int.tdiv x0 x1)) * x1)) < x0))), (12, .int .i64 x0), (11, .int .i64 (IntKind.i64.wrap ((IntKind.i64.wrap (Int.tdiv x0 x1)) * x1))), (10, .int .i64 x1), (9, .int .i64 (IntKind.i64.wrap (Int.tdiv x0 x1)))]) (l := []) (by kernel_rfl) trivial ?_
    refine ge_nil fun a hF => hK4 _ _ ?_ a hF
    by_cases hc2 : (IntKind.i64.wrap ((IntKind.i64.wrap (Int.tdiv x0 x1)) * x1)) < x0
    · rw [if_pos hc2] at h
      refine we_known (t := 13) (b := decide ((IntKind.i64.wrap ((IntKind.i64.wrap (Int.tdiv x0 x1)) * x1)) < x0)) (v := true) (by kernel_rfl) (decide_eq_true hc2) ?_
      refine we_true (by kernel_rfl) ?_
      refine we_region [(0, 0), (1, 0), (2, 0)] rfl ?_
      refine ge_batch [0, 1, 2] (ans := []) (vs := [(5, .int .i64 (IntKind.i64.wrap ((IntKind.i64.wrap (Int.tdiv x0 x1)) + 1))), (15, .int .i64 (IntKind.i64.wrap ((IntKind.i64.wrap (Int.tdiv x0 x1)) + 1))), (14, .int .i64 (IntKind.i64.wrap (Int.tdiv x0 x1)))]) (l := []) (by kernel_rfl) trivial ?_
      refine ge_nil fun a hF => hK3 _ _ ?_ a hF
      refine we_seq fun K5 hK5 => ?_
      refine we_region [(0, 0), (1, 0)] rfl ?_
      refine ge_batch [0, 1] (ans := []) (vs := [(4, .int .i64 (IntKind.i64.wrap ((IntKind.i64.wrap (Int.tdiv x0 x1)) + 1))), (16, .int .i64 (IntKind.i64.wrap ((IntKind.i64.wrap (Int.tdiv x0 x1)) + 1)))]) (l := []) (by kernel_rfl) trivial ?_
      refine ge_nil fun a hF => hK5 _ _ ?_ a hF
      obtain rfl := Option.some.inj h
      exact we_ret (post_ret (rs := [.tmp 4]) (ans := []) (vs := [.int .i64 (IntKind.i64.wrap ((IntKind.i64.wrap (Int.tdiv x0 x1)) + 1))]) (l := []) rfl (by kernel_rfl) trivial ⟨rfl, hS⟩)
    · rw [if_neg hc2] at h
      refine we_known (t := 13) (b := decide ((IntKind.i64.wrap ((IntKind.i64.wrap (Int.tdiv x0 x1)) * x1)) < x0)) (v := false) (by kernel_rfl) (decide_eq_false hc2) ?_
      refine we_false (by kernel_rfl) ?_
      refine we_skip fun a hF => hK3 _ _ ?_ a hF
      refine we_seq fun K6 hK6 => ?_
      refine we_region [(0, 0), (1, 0)] rfl ?_
      refine ge_batch [0, 1] (ans := []) (vs := [(4, .int .i64 (IntKind.i64.wrap (Int.tdiv x0 x1))), (16, .int .i64 (IntKind.i64.wrap (Int.tdiv x0 x1)))]) (l := []) (by kernel_rfl) trivial ?_
      refine ge_nil fun a hF => hK6 _ _ ?_ a hF
      obtain rfl := Option.some.inj h
      exact we_ret (post_ret (rs := [.tmp 4]) (ans := []) (vs := [.int .i64 (IntKind.i64.wrap (Int.tdiv x0 x1))]) (l := []) rfl (by kernel_rfl) trivial ⟨rfl, hS⟩)

/-! punctual/punctualref.TwoResponses$1 -/
abbrev pr_TwoResponses_1.Post (w0 : World) (r : Int) (e : Ending) (w : World) : Prop := e = .returned (.int .i64 r) ∧ St w0 w []
def pr_TwoResponses_1.r0 (x0 : Int) (xf_0 : SCrit) (lf_1 : List SCrit) : Int × Nat → Option ((Int × Nat) ⊕ (Int ⊕ Int))
  | (z1, i1) =>
    if (i1 : Int) < (lf_1.length : Int) then
      match lf_1[i1]? with
      | none => none
      | some e1 =>
        if e1.P > xf_0.P then
          match pr_up.f x0 e1.T with
          | none => none
          | some r1 =>
            some (.inl (IntKind.i64.wrap (z1 + (IntKind.i64.wrap (r1 * e1.C))), (i1 + 1)))
        else
          some (.inl (z1, (i1 + 1)))
    else
      some (.inr (.inl z1))
def pr_TwoResponses_1.f (K : Nat) (x0 : Int) (xf_0 : SCrit) (lf_1 : List SCrit) : Option Int :=
  match iter (pr_TwoResponses_1.r0 x0 xf_0 lf_1) K (xf_0.C, 0) with
  | none => none
  | some (.inl z3) =>
    some z3
  | some (.inr rr1) =>
    some rr1
abbrev pr_TwoResponses_1.A0 (K : Nat) (w0 : World) (x0 : Int) (bf_0 : Nat) (xf_0 : SCrit) (bf_1 : Nat) (lf_1 : List SCrit) (Af_1 : Option Addr) (cf_1 : Nat) (hBf_0 : Glob w0 bf_0 [.int .i64 xf_0.C, .int .i64 xf_0.H, .int .i64 xf_0.T, .int .i64 xf_0.D, .bool xf_0.High, .int .i64 xf_0.P]) (hRf_1 : RdL w0 Af_1 lf_1) (hLf_1 : lf_1.length ≤ cf_1) (hBf_1 : Glob w0 bf_1 [.slice Af_1 lf_1.length cf_1]) : (Int × Nat) → Act → World → Prop := fun (s : Int × Nat) a w => St w0 w [] ∧ Frm 32 a [(0, .int .i64 x0), (1, .pointer (some ⟨bf_0, 0, none⟩)), (5, .int .i64 s.1), (10, .slice Af_1 lf_1.length cf_1), (11, .int .i64 (lf_1.length : Int)), (12, .int .i64 (s.2 : Int))]
abbrev pr_TwoResponses_1.B0 (K : Nat) (w0 : World) (x0 : Int) (bf_0 : Nat) (xf_0 : SCrit) (bf_1 : Nat) (lf_1 : List SCrit) (Af_1 : Option Addr) (cf_1 : Nat) (hBf_0 : Glob w0 bf_0 [.int .i64 xf_0.C, .int .i64 xf_0.H, .int .i64 xf_0.T, .int .i64 xf_0.D, .bool xf_0.High, .int .i64 xf_0.P]) (hRf_1 : RdL w0 Af_1 lf_1) (hLf_1 : lf_1.length ≤ cf_1) (hBf_1 : Glob w0 bf_1 [.slice Af_1 lf_1.length cf_1]) : (Int ⊕ Int) → Exit → Act → World → Prop := Exits 0 (fun (s : Int) a w => St w0 w [] ∧ Frm 32 a [(5, .int .i64 s)]) (Rets Tryd.prog Tryd.f41 (pr_TwoResponses_1.Post w0))
theorem pr_TwoResponses_1_r0 (K : Nat) (w0 : World) (x0 : Int) (bf_0 : Nat) (xf_0 : SCrit) (bf_1 : Nat) (lf_1 : List SCrit) (Af_1 : Option Addr) (cf_1 : Nat) (hBf_0 : Glob w0 bf_0 [.int .i64 xf_0.C, .int .i64 xf_0.H, .int .i64 xf_0.T, .int .i64 xf_0.D, .bool xf_0.High, .int .i64 xf_0.P]) (hRf_1 : RdL w0 Af_1 lf_1) (hLf_1 : lf_1.length ≤ cf_1) (hBf_1 : Glob w0 bf_1 [.slice Af_1 lf_1.length cf_1]) (s : Int × Nat) (o : (Int × Nat) ⊕ (Int ⊕ Int)) (h : pr_TwoResponses_1.r0 x0 xf_0 lf_1 s = some o) (a : Act) (w : World) (hA : pr_TwoResponses_1.A0 K w0 x0 bf_0 xf_0 bf_1 lf_1 Af_1 cf_1 hBf_0 hRf_1 hLf_1 hBf_1 s a w) (Q : Exit → Act → World → Prop) (hQ : ∀ x a w, Outs (pr_TwoResponses_1.A0 K w0 x0 bf_0 xf_0 bf_1 lf_1 Af_1 cf_1 hBf_0 hRf_1 hLf_1 hBf_1) (pr_TwoResponses_1.B0 K w0 x0 bf_0 xf_0 bf_1 lf_1 Af_1 cf_1 hBf_0 hRf_1 hLf_1 hBf_1) o x a w → Q x a w) : (subF Tryd.f41 [1, 1, 0, 1, 0, 0]).wp Tryd.prog Q a w := by
  obtain ⟨z1, i1⟩ := s
  obtain ⟨hS, hF⟩ := hA
  replace hS : St w0 w [] := hS
  simp only [pr_TwoResponses_1.r0] at h
  refine (?_ : WE Tryd.prog 32 (subF Tryd.f41 [1, 1, 0, 1, 0, 0]) Q [(0, .int .i64 x0), (1, .pointer (some ⟨bf_0, 0, none⟩)), (5, .int .i64 z1), (10, .slice Af_1 lf_1.length cf_1), (11, .int .i64 (lf_1.length : Int)), (12, .int .i64 (i1 : Int))] w) a hF
  clear hF a
  refine we_seq fun K5 hK5 => ?_
  refine we_region [(0, 0)] rfl ?_
  refine ge_batch [0] (ans := []) (vs := [(13, .bool (decide ((i1 : Int) < (lf_1.length : Int))))]) (l := []) (by kernel_rfl) trivial ?_
  refine ge_nil fun a hF => hK5 _ _ ?_ a hF
  refine we_seq fun K6 hK6 => ?_
  by_cases hc1 : (i1 : Int) < (lf_1.length : Int)
  · rw [if_pos hc1] at h
    refine we_known (t := 13) (b := decide ((i1 : Int) < (lf_1.length : Int))) (v := true) (by kernel_rfl) (decide_eq_true hc1) ?_
    refine we_true (by kernel_rfl) ?_
    refine we_skip fun a hF => hK6 _ _ ?_ a hF
    refine we_seq fun K7 hK7 => ?_
    refine we_block ?_
    refine we_seq fun K8 hK8 => ?_
    refine we_region [(0, 0), (1, 0), (2, 1), (3, 2)] rfl ?_
    rcases hx1 : lf_1[i1]? with _ | e1
    · rw [hx1] at h; cases h
    rw [hx1] at h
    simp only [] at h
    refine ge_index (d := 14) (ty := 0) (t := 22) (el := 27) (sz := 6) (m := lf_1.length) (c := cf_1) (x := (.tmp 10)) (y := (.tmp 12)) (A := Af_1) (k' := .i64) (j := (i1 : Int)) (jn := i1) (b0 := blkOf Af_1) (o0 := offOf Af_1) (by kernel_rfl) (by kernel_rfl) (by kernel_rfl) (by kernel_rfl) (by kernel_rfl) ((hS.rd hRf_1).eqSome (pos_of_get hx1)) rfl (lt_of_get hx1) ?_
    refine ge_batch [1] (ans := [.val (.int .i64 e1.C), .val (.int .i64 e1.H), .val (.int .i64 e1.T), .val (.int .i64 e1.D), .val (.bool e1.High), .val (.int .i64 e1.P)]) (vs := [(15, .agg #[.int .i64 e1.C, .int .i64 e1.H, .int .i64 e1.T, .int .i64 e1.D, .bool e1.High, .int .i64 e1.P])]) (l := [.loaded ⟨blkOf Af_1, offOf Af_1 + i1 * 6, none⟩ (.int .i64 e1.C), .loaded ⟨blkOf Af_1, offOf Af_1 + i1 * 6 + 1, none⟩ (.int .i64 e1.H), .loaded ⟨blkOf Af_1, offOf Af_1 + i1 * 6 + 2, none⟩ (.int .i64 e1.T), .loaded ⟨blkOf Af_1, offOf Af_1 + i1 * 6 + 3, none⟩ (.int .i64 e1.D), .loaded ⟨blkOf Af_1, offOf Af_1 + i1 * 6 + 4, none⟩ (.bool e1.High), .loaded ⟨blkOf Af_1, offOf Af_1 + i1 * 6 + 5, none⟩ (.int .i64 e1.P)]) (by kernel_rfl) ⟨RdL.cell (j := 0) (hS.rd hRf_1) hx1 rfl, RdL.cell (j := 1) (hS.rd hRf_1) hx1 rfl, RdL.cell (j := 2) (hS.rd hRf_1) hx1 rfl, RdL.cell (j := 3) (hS.rd hRf_1) hx1 rfl, RdL.cell (j := 4) (hS.rd hRf_1) hx1 rfl, RdL.cell (j := 5) (hS.rd hRf_1) hx1 rfl, trivial⟩ ?_
    refine ge_new (d := some 7) (o := .cells #[.int .i64 0, .int .i64 0, .int .i64 0, .int .i64 0, .bool false, .int .i64 0] 27) (v := fun b => .pointer (some ⟨b, 0, none⟩)) hS (fun b => by kernel_rfl) fun b1 w1 hx2 hS1 => ?_
    refine ge_set (b := b1) (j := 0) (cs := #[.int .i64 0, .int .i64 0, .int .i64 0, .int .i64 0, .bool false, .int .i64 0]) (t := 27) (vs := [.int .i64 e1.C, .int .i64 e1.H, .int .i64 e1.T, .int .i64 e1.D, .bool e1.High, .int .i64 e1.P]) hS1 (by kernel_rfl) rfl rfl fun w2 hS2 => ?_
    have hS3 := hS2.nc #[.int .i64 e1.C, .int .i64 e1.H, .int .i64 e1.T, .int .i64 e1.D, .bool e1.High, .int .i64 e1.P] (by kernel_rfl)
    refine ge_nil fun a hF => hK8 _ _ ?_ a hF
    refine we_seq fun K9 hK9 => ?_
    refine we_region [(0, 0), (1, 0), (2, 0), (3, 0), (4, 0)] rfl ?_
    refine ge_batch [0, 1, 2, 3, 4] (ans := [.val (.int .i64 e1.P), .val (.int .i64 xf_0.P)]) (vs := [(20, .bool (decide (e1.P > xf_0.P))), (19, .int .i64 xf_0.P), (18, .pointer (some ⟨bf_0, 5, none⟩)), (17, .int .i64 e1.P), (16, .pointer (some ⟨b1, 5, none⟩))]) (l := [.loaded ⟨b1, 5, none⟩ (.int .i64 e1.P), .loaded ⟨bf_0, 5, none⟩ (.int .i64 xf_0.P)]) (by kernel_rfl) ⟨hS3.cell 0 rfl rfl, hS3.glob hBf_0 rfl, trivial⟩ ?_
    refine ge_nil fun a hF => hK9 _ _ ?_ a hF
    by_cases hc2 : e1.P > xf_0.P
    · rw [if_pos hc2] at h
      refine we_known (t := 20) (b := decide (e1.P > xf_0.P)) (v := true) (by kernel_rfl) (decide_eq_true hc2) ?_
      refine we_true (by kernel_rfl) ?_
      refine we_draws (by kernel_rfl) [(0, 0), (1, 0), (2, 0), (3, 0), (5, 0), (6, 0), (4, 1), (7, 0), (8, 0), (9, 0)] (by kernel_rfl) ?_
      have hS4 := hS3.drew
      rcases hq1 : pr_up.f x0 e1.T with _ | r1
      · rw [hq1] at h; cases h
      rw [hq1] at h
      simp only [] at h
      refine ge_batch [0, 1, 2, 3, 5, 6] (ans := [.val (.int .i64 e1.T), .val (.int .i64 e1.C)]) (vs := [(27, .int .i64 e1.C), (26, .pointer (some ⟨b1, 0, none⟩)), (24, .int .i64 e1.T), (23, .pointer (some ⟨b1, 2, none⟩)), (22, .int .i64 x0), (21, .int .i64 z1)]) (l := [.loaded ⟨b1, 2, none⟩ (.int .i64 e1.T), .loaded ⟨b1, 0, none⟩ (.int .i64 e1.C)]) (by kernel_rfl) ⟨hS4.cell 0 rfl rfl, hS4.cell 0 rfl rfl, trivial⟩ ?_
      refine ge_call (d := some 25) (f := 42) (args := #[.int .i64 x0, .int .i64 e1.T]) (by kernel_rfl) (pr_up_ok x0 e1.T _ _ hq1) ?_
      rintro _ w3 ⟨rfl, hS5⟩
      refine ⟨_, rfl, hS5.below, ?_⟩
      have hS6 := hS4.call hS5
      refine ge_batch [7, 8, 9] (ans := []) (vs := [(5, .int .i64 (IntKind.i64.wrap (z1 + (IntKind.i64.wrap (r1 * e1.C))))), (29, .int .i64 (IntKind.i64.wrap (z1 + (IntKind.i64.wrap (r1 * e1.C))))), (28, .int .i64 (IntKind.i64.wrap (r1 * e1.C)))]) (l := []) (by kernel_rfl) trivial ?_
      refine ge_nil fun a hF => hK7 _ _ ?_ a hF
      refine we_region [(0, 0), (1, 0)] rfl ?_
      refine ge_addn (d := 30) (ty := 3) (x := (.tmp 12)) (y := (.const (.int .i64 1))) (t := 3) (t2 := 3) (k := .i64) (m := i1) (by kernel_rfl) (by kernel_rfl) (by kernel_rfl) (by have h0 := hRf_1.small; omega) ?_
      refine ge_batch [1] (ans := []) (vs := [(12, .int .i64 ((i1 + 1 : Nat) : Int))]) (l := []) (by kernel_rfl) trivial ?_
      have hS7 := hS6.takeN 0
      obtain rfl := Option.some.inj h
      exact ge_nil fun a hF => hQ _ _ _ (Outs.again ⟨hS7, hF.weaken ⟨by kernel_rfl, by kernel_rfl, by kernel_rfl, by kernel_rfl, by kernel_rfl, by kernel_rfl, trivial⟩⟩)
    · rw [if_neg hc2] at h
      refine we_known (t := 20) (b := decide (e1.P > xf_0.P)) (v := false) (by kernel_rfl) (decide_eq_false hc2) ?_
      refine we_false (by kernel_rfl) ?_
      refine we_skip fun a hF => hK7 _ _ ?_ a hF
      refine we_region [(0, 0), (1, 0)] rfl ?_
      refine ge_addn (d := 30) (ty := 3) (x := (.tmp 12)) (y := (.const (.int .i64 1))) (t := 3) (t2 := 3) (k := .i64) (m := i1) (by kernel_rfl) (by kernel_rfl) (by kernel_rfl) (by have h0 := hRf_1.small; omega) ?_
      refine ge_batch [1] (ans := []) (vs := [(12, .int .i64 ((i1 + 1 : Nat) : Int))]) (l := []) (by kernel_rfl) trivial ?_
      have hS8 := hS3.takeN 0
      obtain rfl := Option.some.inj h
      exact ge_nil fun a hF => hQ _ _ _ (Outs.again ⟨hS8, hF.weaken ⟨by kernel_rfl, by kernel_rfl, by kernel_rfl, by kernel_rfl, by kernel_rfl, by kernel_rfl, trivial⟩⟩)
  · rw [if_neg hc1] at h
    refine we_known (t := 13) (b := decide ((i1 : Int) < (lf_1.length : Int))) (v := false) (by kernel_rfl) (decide_eq_false hc1) ?_
    refine we_false (by kernel_rfl) ?_
    obtain rfl := Option.some.inj h
    exact we_exit fun a hF => hQ _ _ _ (Outs.out nofun (Exits.here ⟨hS, hF.weaken ⟨by kernel_rfl, trivial⟩⟩))
theorem pr_TwoResponses_1_ok (K : Nat) (x0 : Int) (bf_0 : Nat) (xf_0 : SCrit) (bf_1 : Nat) (lf_1 : List SCrit) (Af_1 : Option Addr) (cf_1 : Nat) (w0 : World) (hBf_0 : Glob w0 bf_0 [.int .i64 xf_0.C, .int .i64 xf_0.H, .int .i64 xf_0.T, .int .i64 xf_0.D, .bool xf_0.High, .int .i64 xf_0.P]) (hRf_1 : RdL w0 Af_1 lf_1) (hLf_1 : lf_1.length ≤ cf_1) (hBf_1 : Glob w0 bf_1 [.slice Af_1 lf_1.length cf_1]) (r : Int) (h : pr_TwoResponses_1.f K x0 xf_0 lf_1 = some r) :
    Calls Tryd.prog 41 #[.int .i64 x0, .pointer (some ⟨bf_0, 0, none⟩), .pointer (some ⟨bf_1, 0, none⟩)] w0 (pr_TwoResponses_1.Post w0 r) := by
  have hS := St.start w0
  unfold pr_TwoResponses_1.f at h
  refine calls_enter (n := 32) (args := [.int .i64 x0, .pointer (some ⟨bf_0, 0, none⟩), .pointer (some ⟨bf_1, 0, none⟩)]) (fn := Tryd.f41) rfl rfl rfl rfl ?_
  show WE _ _ _ _ [(0, .int .i64 x0), (1, .pointer (some ⟨bf_0, 0, none⟩)), (2, .pointer (some ⟨bf_1, 0, none⟩))] _
  refine we_seq fun K1 hK1 => ?_
  refine we_region [(0, 0)] rfl ?_
  refine ge_batch [0] (ans := []) (vs := [(4, .int .i64 0)]) (l := []) (by kernel_rfl) trivial ?_
  refine ge_nil fun a hF => hK1 _ _ ?_ a hF
  refine we_seq fun K2 hK2 => ?_
  refine we_region [(0, 0), (1, 0), (2, 0)] rfl ?_
  refine ge_batch [0, 1, 2] (ans := [.val (.int .i64 xf_0.C)]) (vs := [(5, .int .i64 xf_0.C), (9, .int .i64 xf_0.C), (8, .pointer (some ⟨bf_0, 0, none⟩))]) (l := [.loaded ⟨bf_0, 0, none⟩ (.int .i64 xf_0.C)]) (by kernel_rfl) ⟨hS.glob hBf_0 rfl, trivial⟩ ?_
  refine ge_nil fun a hF => hK2 _ _ ?_ a hF
  refine we_seq fun K3 hK3 => ?_
  refine we_seq fun K4 hK4 => ?_
  refine we_region [(0, 0), (1, 0), (2, 0)] rfl ?_
  refine ge_batch [0, 1, 2] (ans := [.val (.slice Af_1 lf_1.length cf_1)]) (vs := [(12, .int .i64 0), (11, .int .i64 (lf_1.length : Int)), (10, .slice Af_1 lf_1.length cf_1)]) (l := [.loaded ⟨bf_1, 0, none⟩ (.slice Af_1 lf_1.length cf_1)]) (by kernel_rfl) ⟨hS.glob hBf_1 rfl, trivial⟩ ?_
  refine ge_nil fun a hF => hK4 _ _ ?_ a hF
  refine we_block ?_
  rcases hq2 : iter (pr_TwoResponses_1.r0 x0 xf_0 lf_1) K (xf_0.C, 0) with _ | (z3 | rr1)
  · rw [hq2] at h; cases h
  · rw [hq2] at h
    simp only [] at h
    refine we_iter (A := pr_TwoResponses_1.A0 K w0 x0 bf_0 xf_0 bf_1 lf_1 Af_1 cf_1 hBf_0 hRf_1 hLf_1 hBf_1) (B := pr_TwoResponses_1.B0 K w0 x0 bf_0 xf_0 bf_1 lf_1 Af_1 cf_1 hBf_0 hRf_1 hLf_1 hBf_1) hq2 (fun a hF => ⟨hS, hF.weaken ⟨by kernel_rfl, by kernel_rfl, by kernel_rfl, by kernel_rfl, by kernel_rfl, by kernel_rfl, trivial⟩⟩) (fun s o hf a w hA Q hQ => pr_TwoResponses_1_r0 K w0 x0 bf_0 xf_0 bf_1 lf_1 Af_1 cf_1 hBf_0 hRf_1 hLf_1 hBf_1 s o hf a w hA Q hQ) ?_
    rintro _ a w4 _ ⟨rfl, hS9, hF⟩
    replace hS9 : St w0 w4 [] := hS9
    refine hK3 [(5, .int .i64 z3)] w4 ?_ a hF
    refine we_seq fun K10 hK10 => ?_
    refine we_region [(0, 0), (1, 0)] rfl ?_
    refine ge_batch [0, 1] (ans := []) (vs := [(4, .int .i64 z3), (31, .int .i64 z3)]) (l := []) (by kernel_rfl) trivial ?_
    refine ge_nil fun a hF => hK10 _ _ ?_ a hF
    obtain rfl := Option.some.inj h
    exact we_ret (post_ret (rs := [.tmp 4]) (ans := []) (vs := [.int .i64 z3]) (l := []) rfl (by kernel_rfl) trivial ⟨rfl, hS9⟩)
  · rw [hq2] at h
    simp only [] at h
    refine we_iter (A := pr_TwoResponses_1.A0 K w0 x0 bf_0 xf_0 bf_1 lf_1 Af_1 cf_1 hBf_0 hRf_1 hLf_1 hBf_1) (B := pr_TwoResponses_1.B0 K w0 x0 bf_0 xf_0 bf_1 lf_1 Af_1 cf_1 hBf_0 hRf_1 hLf_1 hBf_1) hq2 (fun a hF => ⟨hS, hF.weaken ⟨by kernel_rfl, by kernel_rfl, by kernel_rfl, by kernel_rfl, by kernel_rfl, by kernel_rfl, trivial⟩⟩) (fun s o hf a w hA Q hQ => pr_TwoResponses_1_r0 K w0 x0 bf_0 xf_0 bf_1 lf_1 Af_1 cf_1 hBf_0 hRf_1 hLf_1 hBf_1 s o hf a w hA Q hQ) ?_
    rintro _ a w1 _ ⟨rfl, hb⟩
    obtain rfl := Option.some.inj h
    exact hb

/-! punctual/punctualref.least -/
abbrev pr_least.Post (w0 : World) (r : Int) (e : Ending) (w : World) : Prop := e = .returned (.int .i64 r) ∧ St w0 w []
def pr_least.r0 (K : Nat) (x0 : Int) (xg1_0 : SCrit) (lg1_1 : List SCrit) : Int → Option (Int ⊕ (Unit ⊕ Int))
  | z1 =>
    if z1 ≤ x0 then
      match pr_TwoResponses_1.f K z1 xg1_0 lg1_1 with
      | none => none
      | some r1 =>
        if r1 = z1 then
          some (.inr (.inr z1))
        else
          some (.inl (IntKind.i64.wrap (z1 + 1)))
    else
      some (.inr (.inl ()))
def pr_least.f (K : Nat) (x0 : Int) (xg1_0 : SCrit) (lg1_1 : List SCrit) : Option Int :=
  match iter (pr_least.r0 K x0 xg1_0 lg1_1) K 1 with
  | none => none
  | some (.inl _) =>
    some 0
  | some (.inr rr1) =>
    some rr1
abbrev pr_least.A0 (K : Nat) (w0 : World) (x0 : Int) (bg1_0 : Nat) (xg1_0 : SCrit) (bg1_1 : Nat) (lg1_1 : List SCrit) (Ag1_1 : Option Addr) (cg1_1 : Nat) (hBg1_0 : Glob w0 bg1_0 [.int .i64 xg1_0.C, .int .i64 xg1_0.H, .int .i64 xg1_0.T, .int .i64 xg1_0.D, .bool xg1_0.High, .int .i64 xg1_0.P]) (hRg1_1 : RdL w0 Ag1_1 lg1_1) (hLg1_1 : lg1_1.length ≤ cg1_1) (hBg1_1 : Glob w0 bg1_1 [.slice Ag1_1 lg1_1.length cg1_1]) : Int → Act → World → Prop := fun (s : Int) a w => St w0 w [] ∧ Frm 17 a [(0, .int .i64 x0), (1, .func (.func 41) #[] #[.pointer (some ⟨bg1_0, 0, none⟩), .pointer (some ⟨bg1_1, 0, none⟩)]), (5, .int .i64 s)]
abbrev pr_least.B0 (K : Nat) (w0 : World) (x0 : Int) (bg1_0 : Nat) (xg1_0 : SCrit) (bg1_1 : Nat) (lg1_1 : List SCrit) (Ag1_1 : Option Addr) (cg1_1 : Nat) (hBg1_0 : Glob w0 bg1_0 [.int .i64 xg1_0.C, .int .i64 xg1_0.H, .int .i64 xg1_0.T, .int .i64 xg1_0.D, .bool xg1_0.High, .int .i64 xg1_0.P]) (hRg1_1 : RdL w0 Ag1_1 lg1_1) (hLg1_1 : lg1_1.length ≤ cg1_1) (hBg1_1 : Glob w0 bg1_1 [.slice Ag1_1 lg1_1.length cg1_1]) : (Unit ⊕ Int) → Exit → Act → World → Prop := Exits 0 (fun (s : Unit) a w => St w0 w [] ∧ Frm 17 a []) (Rets Tryd.prog Tryd.f40 (pr_least.Post w0))
theorem pr_least_r0 (K : Nat) (w0 : World) (x0 : Int) (bg1_0 : Nat) (xg1_0 : SCrit) (bg1_1 : Nat) (lg1_1 : List SCrit) (Ag1_1 : Option Addr) (cg1_1 : Nat) (hBg1_0 : Glob w0 bg1_0 [.int .i64 xg1_0.C, .int .i64 xg1_0.H, .int .i64 xg1_0.T, .int .i64 xg1_0.D, .bool xg1_0.High, .int .i64 xg1_0.P]) (hRg1_1 : RdL w0 Ag1_1 lg1_1) (hLg1_1 : lg1_1.length ≤ cg1_1) (hBg1_1 : Glob w0 bg1_1 [.slice Ag1_1 lg1_1.length cg1_1]) (s : Int) (o : Int ⊕ (Unit ⊕ Int)) (h : pr_least.r0 K x0 xg1_0 lg1_1 s = some o) (a : Act) (w : World) (hA : pr_least.A0 K w0 x0 bg1_0 xg1_0 bg1_1 lg1_1 Ag1_1 cg1_1 hBg1_0 hRg1_1 hLg1_1 hBg1_1 s a w) (Q : Exit → Act → World → Prop) (hQ : ∀ x a w, Outs (pr_least.A0 K w0 x0 bg1_0 xg1_0 bg1_1 lg1_1 Ag1_1 cg1_1 hBg1_0 hRg1_1 hLg1_1 hBg1_1) (pr_least.B0 K w0 x0 bg1_0 xg1_0 bg1_1 lg1_1 Ag1_1 cg1_1 hBg1_0 hRg1_1 hLg1_1 hBg1_1) o x a w → Q x a w) : (subF Tryd.f40 [1, 0, 1, 0, 0]).wp Tryd.prog Q a w := by
  obtain ⟨z1, hs⟩ : ∃ z, z = s := ⟨s, rfl⟩
  subst hs
  obtain ⟨hS, hF⟩ := hA
  replace hS : St w0 w [] := hS
  simp only [pr_least.r0] at h
  refine (?_ : WE Tryd.prog 17 (subF Tryd.f40 [1, 0, 1, 0, 0]) Q [(0, .int .i64 x0), (1, .func (.func 41) #[] #[.pointer (some ⟨bg1_0, 0, none⟩), .pointer (some ⟨bg1_1, 0, none⟩)]), (5, .int .i64 z1)] w) a hF
  clear hF a
  refine we_seq fun K4 hK4 => ?_
  refine we_seq fun K5 hK5 => ?_
  refine we_region [(0, 0), (1, 0), (2, 0)] rfl ?_
  refine ge_batch [0, 1, 2] (ans := []) (vs := [(8, .bool (decide (z1 ≤ x0))), (7, .int .i64 x0), (6, .int .i64 z1)]) (l := []) (by kernel_rfl) trivial ?_
  refine ge_nil fun a hF => hK5 _ _ ?_ a hF
  by_cases hc1 : z1 ≤ x0
  · rw [if_pos hc1] at h
    refine we_known (t := 8) (b := decide (z1 ≤ x0)) (v := true) (by kernel_rfl) (decide_eq_true hc1) ?_
    refine we_true (by kernel_rfl) ?_
    refine we_skip fun a hF => hK4 _ _ ?_ a hF
    refine we_seq fun K6 hK6 => ?_
    refine we_block ?_
    refine we_seq fun K7 hK7 => ?_
    refine we_region [(0, 0), (1, 0), (2, 1), (3, 0), (4, 0)] rfl ?_
    rcases hq1 : pr_TwoResponses_1.f K z1 xg1_0 lg1_1 with _ | r1
    · rw [hq1] at h; cases h
    rw [hq1] at h
    simp only [] at h
    refine ge_batch [0, 1] (ans := []) (vs := [(12, .int .i64 z1), (11, .func (.func 41) #[] #[.pointer (some ⟨bg1_0, 0, none⟩), .pointer (some ⟨bg1_1, 0, none⟩)])]) (l := []) (by kernel_rfl) trivial ?_
    refine ge_call (d := some 13) (f := 41) (args := #[.int .i64 z1, .pointer (some ⟨bg1_0, 0, none⟩), .pointer (some ⟨bg1_1, 0, none⟩)]) (by kernel_rfl) (pr_TwoResponses_1_ok K z1 bg1_0 xg1_0 bg1_1 lg1_1 Ag1_1 cg1_1 _ (Glob.ext hBg1_0 hS.below) (hS.rd hRg1_1) hLg1_1 (Glob.ext hBg1_1 hS.below) _ hq1) ?_
    rintro _ w1 ⟨rfl, hS1⟩
    refine ⟨_, rfl, hS1.below, ?_⟩
    have hS2 := hS.call hS1
    refine ge_batch [3, 4] (ans := []) (vs := [(15, .bool (r1 == z1)), (14, .int .i64 z1)]) (l := []) (by kernel_rfl) trivial ?_
    refine ge_nil fun a hF => hK7 _ _ ?_ a hF
    by_cases hc2 : r1 = z1
    · rw [if_pos hc2] at h
      refine we_known (t := 15) (b := (r1 == z1)) (v := true) (by kernel_rfl) (beq_iff_eq.2 hc2) ?_
      refine we_true (by kernel_rfl) ?_
      refine we_seq fun K8 hK8 => ?_
      refine we_region [(0, 0), (1, 0)] rfl ?_
      refine ge_batch [0, 1] (ans := []) (vs := [(4, .int .i64 z1), (16, .int .i64 z1)]) (l := []) (by kernel_rfl) trivial ?_
      refine ge_nil fun a hF => hK8 _ _ ?_ a hF
      obtain rfl := Option.some.inj h
      exact we_ret fun a hF => hQ _ _ _ (Outs.out nofun (Exits.on ⟨rfl, (post_ret (rs := [.tmp 4]) (ans := []) (vs := [.int .i64 z1]) (l := []) rfl (by kernel_rfl) trivial ⟨rfl, hS2⟩) a hF⟩))
    · rw [if_neg hc2] at h
      refine we_known (t := 15) (b := (r1 == z1)) (v := false) (by kernel_rfl) (beq_eq_false_iff_ne.2 hc2) ?_
      refine we_false (by kernel_rfl) ?_
      refine we_skip fun a hF => hK6 _ _ ?_ a hF
      refine we_region [(0, 0), (1, 0), (2, 0)] rfl ?_
      refine ge_batch [0, 1, 2] (ans := []) (vs := [(5, .int .i64 (IntKind.i64.wrap (z1 + 1))), (10, .int .i64 (IntKind.i64.wrap (z1 + 1))), (9, .int .i64 z1)]) (l := []) (by kernel_rfl) trivial ?_
      obtain rfl := Option.some.inj h
      exact ge_nil fun a hF => hQ _ _ _ (Outs.again ⟨hS2, hF.weaken ⟨by kernel_rfl, by kernel_rfl, by kernel_rfl, trivial⟩⟩)
  · rw [if_neg hc1] at h
    refine we_known (t := 8) (b := decide (z1 ≤ x0)) (v := false) (by kernel_rfl) (decide_eq_false hc1) ?_
    refine we_false (by kernel_rfl) ?_
    obtain rfl := Option.some.inj h
    exact we_exit fun a hF => hQ _ _ _ (Outs.out nofun (Exits.here ⟨hS, hF.weaken trivial⟩))
theorem pr_least_ok (K : Nat) (x0 : Int) (bg1_0 : Nat) (xg1_0 : SCrit) (bg1_1 : Nat) (lg1_1 : List SCrit) (Ag1_1 : Option Addr) (cg1_1 : Nat) (w0 : World) (hBg1_0 : Glob w0 bg1_0 [.int .i64 xg1_0.C, .int .i64 xg1_0.H, .int .i64 xg1_0.T, .int .i64 xg1_0.D, .bool xg1_0.High, .int .i64 xg1_0.P]) (hRg1_1 : RdL w0 Ag1_1 lg1_1) (hLg1_1 : lg1_1.length ≤ cg1_1) (hBg1_1 : Glob w0 bg1_1 [.slice Ag1_1 lg1_1.length cg1_1]) (r : Int) (h : pr_least.f K x0 xg1_0 lg1_1 = some r) :
    Calls Tryd.prog 40 #[.int .i64 x0, .func (.func 41) #[] #[.pointer (some ⟨bg1_0, 0, none⟩), .pointer (some ⟨bg1_1, 0, none⟩)]] w0 (pr_least.Post w0 r) := by
  have hS := St.start w0
  unfold pr_least.f at h
  refine calls_enter (n := 17) (args := [.int .i64 x0, .func (.func 41) #[] #[.pointer (some ⟨bg1_0, 0, none⟩), .pointer (some ⟨bg1_1, 0, none⟩)]]) (fn := Tryd.f40) rfl rfl rfl rfl ?_
  show WE _ _ _ _ [(0, .int .i64 x0), (1, .func (.func 41) #[] #[.pointer (some ⟨bg1_0, 0, none⟩), .pointer (some ⟨bg1_1, 0, none⟩)])] _
  refine we_seq fun K1 hK1 => ?_
  refine we_region [(0, 0)] rfl ?_
  refine ge_batch [0] (ans := []) (vs := [(4, .int .i64 0)]) (l := []) (by kernel_rfl) trivial ?_
  refine ge_nil fun a hF => hK1 _ _ ?_ a hF
  refine we_seq fun K2 hK2 => ?_
  refine we_seq fun K3 hK3 => ?_
  refine we_region [(0, 0)] rfl ?_
  refine ge_batch [0] (ans := []) (vs := [(5, .int .i64 1)]) (l := []) (by kernel_rfl) trivial ?_
  refine ge_nil fun a hF => hK3 _ _ ?_ a hF
  refine we_block ?_
  rcases hq2 : iter (pr_least.r0 K x0 xg1_0 lg1_1) K 1 with _ | (_ | rr1)
  · rw [hq2] at h; cases h
  · rw [hq2] at h
    simp only [] at h
    refine we_iter (A := pr_least.A0 K w0 x0 bg1_0 xg1_0 bg1_1 lg1_1 Ag1_1 cg1_1 hBg1_0 hRg1_1 hLg1_1 hBg1_1) (B := pr_least.B0 K w0 x0 bg1_0 xg1_0 bg1_1 lg1_1 Ag1_1 cg1_1 hBg1_0 hRg1_1 hLg1_1 hBg1_1) hq2 (fun a hF => ⟨hS, hF.weaken ⟨by kernel_rfl, by kernel_rfl, by kernel_rfl, trivial⟩⟩) (fun s o hf a w hA Q hQ => pr_least_r0 K w0 x0 bg1_0 xg1_0 bg1_1 lg1_1 Ag1_1 cg1_1 hBg1_0 hRg1_1 hLg1_1 hBg1_1 s o hf a w hA Q hQ) ?_
    rintro _ a w2 _ ⟨rfl, hS3, hF⟩
    replace hS3 : St w0 w2 [] := hS3
    refine hK2 [] w2 ?_ a hF
    refine we_seq fun K9 hK9 => ?_
    refine we_region [(0, 0)] rfl ?_
    refine ge_batch [0] (ans := []) (vs := [(4, .int .i64 0)]) (l := []) (by kernel_rfl) trivial ?_
    refine ge_nil fun a hF => hK9 _ _ ?_ a hF
    obtain rfl := Option.some.inj h
    exact we_ret (post_ret (rs := [.tmp 4]) (ans := []) (vs := [.int .i64 0]) (l := []) rfl (by kernel_rfl) trivial ⟨rfl, hS3⟩)
  · rw [hq2] at h
    simp only [] at h
    refine we_iter (A := pr_least.A0 K w0 x0 bg1_0 xg1_0 bg1_1 lg1_1 Ag1_1 cg1_1 hBg1_0 hRg1_1 hLg1_1 hBg1_1) (B := pr_least.B0 K w0 x0 bg1_0 xg1_0 bg1_1 lg1_1 Ag1_1 cg1_1 hBg1_0 hRg1_1 hLg1_1 hBg1_1) hq2 (fun a hF => ⟨hS, hF.weaken ⟨by kernel_rfl, by kernel_rfl, by kernel_rfl, trivial⟩⟩) (fun s o hf a w hA Q hQ => pr_least_r0 K w0 x0 bg1_0 xg1_0 bg1_1 lg1_1 Ag1_1 cg1_1 hBg1_0 hRg1_1 hLg1_1 hBg1_1 s o hf a w hA Q hQ) ?_
    rintro _ a w1 _ ⟨rfl, hb⟩
    obtain rfl := Option.some.inj h
    exact hb

/-! punctual/punctualref.TwoResponses$2 -/
abbrev pr_TwoResponses_2.Post (w0 : World) (r : Int) (e : Ending) (w : World) : Prop := e = .returned (.int .i64 r) ∧ St w0 w []
def pr_TwoResponses_2.p1 (x0 : Int) (xf_0 : SCrit) (z1 : Int) (e1 : SCrit) : Option (Int ⊕ Int) :=
    if e1.P > xf_0.P then
      if e1.High = true then
        match pr_up.f x0 e1.T with
        | none => none
        | some r1 =>
          some (.inl (IntKind.i64.wrap (z1 + (IntKind.i64.wrap (r1 * e1.H)))))
      else
        some (.inl z1)
    else
      some (.inl z1)
def pr_TwoResponses_2.r0 (x0 : Int) (xf_0 : SCrit) (lf_1 : List SCrit) (xf_2 : Int) : Int × Nat → Option ((Int × Nat) ⊕ (Int ⊕ Int))
  | (z1, i1) =>
    if (i1 : Int) < (lf_1.length : Int) then
      match lf_1[i1]? with
      | none => none
      | some e1 =>
        match pr_TwoResponses_2.p1 x0 xf_0 z1 e1 with
        | none => none
        | some (.inl z4) =>
          if e1.P > xf_0.P then
            if e1.High = true then
              some (.inl (z4, (i1 + 1)))
            else
              match pr_up.f xf_2 e1.T with
              | none => none
              | some r2 =>
                some (.inl (IntKind.i64.wrap (z4 + (IntKind.i64.wrap (r2 * e1.C))), (i1 + 1)))
          else
            some (.inl (z4, (i1 + 1)))
        | some (.inr rr1) =>
          some (.inr (.inr rr1))
    else
      some (.inr (.inl z1))
def pr_TwoResponses_2.f (K : Nat) (x0 : Int) (xf_0 : SCrit) (lf_1 : List SCrit) (xf_2 : Int) : Option Int :=
  match iter (pr_TwoResponses_2.r0 x0 xf_0 lf_1 xf_2) K (xf_0.H, 0) with
  | none => none
  | some (.inl z5) =>
    some z5
  | some (.inr rr2) =>
    some rr2
abbrev pr_TwoResponses_2.A1 (K : Nat) (w0 : World) (x0 : Int) (bf_0 : Nat) (xf_0 : SCrit) (bf_1 : Nat) (lf_1 : List SCrit) (Af_1 : Option Addr) (cf_1 : Nat) (bf_2 : Nat) (xf_2 : Int) (hBf_0 : Glob w0 bf_0 [.int .i64 xf_0.C, .int .i64 xf_0.H, .int .i64 xf_0.T, .int .i64 xf_0.D, .bool xf_0.High, .int .i64 xf_0.P]) (hRf_1 : RdL w0 Af_1 lf_1) (hLf_1 : lf_1.length ≤ cf_1) (hBf_1 : Glob w0 bf_1 [.slice Af_1 lf_1.length cf_1]) (hBf_2 : Glob w0 bf_2 [.int .i64 xf_2]) (z1 : Int) (i1 : Nat) (hc1 : (i1 : Int) < (lf_1.length : Int)) (e1 : SCrit) (hx1 : lf_1[i1]? = some e1) (b1 : Nat) : Int → Act → World → Prop := fun (s : Int) a w => St w0 w [Own.blk b1 (.cells #[.int .i64 e1.C, .int .i64 e1.H, .int .i64 e1.T, .int .i64 e1.D, .bool e1.High, .int .i64 e1.P] 27 (0, 0))] ∧ Frm 56 a [(0, .int .i64 x0), (1, .pointer (some ⟨bf_0, 0, none⟩)), (3, .pointer (some ⟨bf_2, 0, none⟩)), (6, .int .i64 s), (8, .pointer (some ⟨b1, 0, none⟩)), (11, .slice Af_1 lf_1.length cf_1), (12, .int .i64 (lf_1.length : Int)), (13, .int .i64 (i1 : Int))]
abbrev pr_TwoResponses_2.B1 (K : Nat) (w0 : World) (x0 : Int) (bf_0 : Nat) (xf_0 : SCrit) (bf_1 : Nat) (lf_1 : List SCrit) (Af_1 : Option Addr) (cf_1 : Nat) (bf_2 : Nat) (xf_2 : Int) (hBf_0 : Glob w0 bf_0 [.int .i64 xf_0.C, .int .i64 xf_0.H, .int .i64 xf_0.T, .int .i64 xf_0.D, .bool xf_0.High, .int .i64 xf_0.P]) (hRf_1 : RdL w0 Af_1 lf_1) (hLf_1 : lf_1.length ≤ cf_1) (hBf_1 : Glob w0 bf_1 [.slice Af_1 lf_1.length cf_1]) (hBf_2 : Glob w0 bf_2 [.int .i64 xf_2]) (z1 : Int) (i1 : Nat) (hc1 : (i1 : Int) < (lf_1.length : Int)) (e1 : SCrit) (hx1 : lf_1[i1]? = some e1) (b1 : Nat) : Int → Exit → Act → World → Prop := Rets Tryd.prog Tryd.f43 (pr_TwoResponses_2.Post w0)
theorem pr_TwoResponses_2_p1 (K : Nat) (w0 : World) (x0 : Int) (bf_0 : Nat) (xf_0 : SCrit) (bf_1 : Nat) (lf_1 : List SCrit) (Af_1 : Option Addr) (cf_1 : Nat) (bf_2 : Nat) (xf_2 : Int) (hBf_0 : Glob w0 bf_0 [.int .i64 xf_0.C, .int .i64 xf_0.H, .int .i64 xf_0.T, .int .i64 xf_0.D, .bool xf_0.High, .int .i64 xf_0.P]) (hRf_1 : RdL w0 Af_1 lf_1) (hLf_1 : lf_1.length ≤ cf_1) (hBf_1 : Glob w0 bf_1 [.slice Af_1 lf_1.length cf_1]) (hBf_2 : Glob w0 bf_2 [.int .i64 xf_2]) (z1 : Int) (i1 : Nat) (hc1 : (i1 : Int) < (lf_1.length : Int)) (e1 : SCrit) (hx1 : lf_1[i1]? = some e1) (b1 : Nat) (o : Int ⊕ Int) (h : pr_TwoResponses_2.p1 x0 xf_0 z1 e1 = some o) (w : World) (hS : St w0 w [Own.blk b1 (.cells #[.int .i64 e1.C, .int .i64 e1.H, .int .i64 e1.T, .int .i64 e1.D, .bool e1.High, .int .i64 e1.P] 27 (0, 0))]) (Q : Exit → Act → World → Prop) (hQ : ∀ x a w, Outs (pr_TwoResponses_2.A1 K w0 x0 bf_0 xf_0 bf_1 lf_1 Af_1 cf_1 bf_2 xf_2 hBf_0 hRf_1 hLf_1 hBf_1 hBf_2 z1 i1 hc1 e1 hx1 b1) (pr_TwoResponses_2.B1 K w0 x0 bf_0 xf_0 bf_1 lf_1 Af_1 cf_1 bf_2 xf_2 hBf_0 hRf_1 hLf_1 hBf_1 hBf_2 z1 i1 hc1 e1 hx1 b1) o x a w → Q x a w) : WE Tryd.prog 56 (subF Tryd.f43 [1, 1, 0, 1, 0, 0, 1, 1, 0, 0, 1, 0]) Q [(0, .int .i64 x0), (1, .pointer (some ⟨bf_0, 0, none⟩)), (3, .pointer (some ⟨bf_2, 0, none⟩)), (6, .int .i64 z1), (8, .pointer (some ⟨b1, 0, none⟩)), (11, .slice Af_1 lf_1.length cf_1), (12, .int .i64 (lf_1.length : Int)), (13, .int .i64 (i1 : Int)), (14, .bool true), (15, .pointer (some ⟨blkOf Af_1, offOf Af_1 + i1 * 6, none⟩)), (16, .agg #[.int .i64 e1.C, .int .i64 e1.H, .int .i64 e1.T, .int .i64 e1.D, .bool e1.High, .int .i64 e1.P])] w := by
  simp only [pr_TwoResponses_2.p1] at h
  refine we_seq fun K10 hK10 => ?_
  refine we_region [(0, 0), (1, 0), (2, 0), (3, 0), (4, 0), (5, 0), (6, 0), (7, 0), (8, 0)] rfl ?_
  refine ge_batch [0, 1, 2, 3, 4, 5] (ans := [.val (.int .i64 e1.P), .val (.int .i64 xf_0.P)]) (vs := [(22, .bool (decide (e1.P > xf_0.P))), (21, .bool (decide (e1.P > xf_0.P))), (20, .int .i64 xf_0.P), (19, .pointer (some ⟨bf_0, 5, none⟩)), (18, .int .i64 e1.P), (17, .pointer (some ⟨b1, 5, none⟩))]) (l := [.loaded ⟨b1, 5, none⟩ (.int .i64 e1.P), .loaded ⟨bf_0, 5, none⟩ (.int .i64 xf_0.P)]) (by kernel_rfl) ⟨hS.cell 0 rfl rfl, hS.glob hBf_0 rfl, trivial⟩ ?_
  by_cases hc2 : e1.P > xf_0.P
  · rw [if_pos hc2] at h
    refine ge_known (t := 22) (b := decide (e1.P > xf_0.P)) (c := true) (by kernel_rfl) (decide_eq_true hc2) ?_
    refine ge_batch [6, 7, 8] (ans := [.val (.bool e1.High)]) (vs := [(25, .bool e1.High), (24, .bool e1.High), (23, .pointer (some ⟨b1, 4, none⟩))]) (l := [.loaded ⟨b1, 4, none⟩ (.bool e1.High)]) (by kernel_rfl) ⟨hS.cell 0 rfl rfl, trivial⟩ ?_
    refine ge_nil fun a hF => hK10 _ _ ?_ a hF
    by_cases hc3 : e1.High = true
    · rw [if_pos hc3] at h
      refine we_known (t := 25) (b := e1.High) (v := true) (by kernel_rfl) hc3 ?_
      refine we_true (by kernel_rfl) ?_
      refine we_draws (by kernel_rfl) [(0, 0), (1, 0), (2, 0), (3, 0), (5, 0), (6, 0), (4, 1), (7, 0), (8, 0), (9, 0)] (by kernel_rfl) ?_
      have hS4 := hS.drew
      rcases hq1 : pr_up.f x0 e1.T with _ | r1
      · rw [hq1] at h; cases h
      rw [hq1] at h
      simp only [] at h
      refine ge_batch [0, 1, 2, 3, 5, 6] (ans := [.val (.int .i64 e1.T), .val (.int .i64 e1.H)]) (vs := [(32, .int .i64 e1.H), (31, .pointer (some ⟨b1, 1, none⟩)), (29, .int .i64 e1.T), (28, .pointer (some ⟨b1, 2, none⟩)), (27, .int .i64 x0), (26, .int .i64 z1)]) (l := [.loaded ⟨b1, 2, none⟩ (.int .i64 e1.T), .loaded ⟨b1, 1, none⟩ (.int .i64 e1.H)]) (by kernel_rfl) ⟨hS4.cell 0 rfl rfl, hS4.cell 0 rfl rfl, trivial⟩ ?_
      refine ge_call (d := some 30) (f := 42) (args := #[.int .i64 x0, .int .i64 e1.T]) (by kernel_rfl) (pr_up_ok x0 e1.T _ _ hq1) ?_
      rintro _ w3 ⟨rfl, hS5⟩
      refine ⟨_, rfl, hS5.below, ?_⟩
      have hS6 := hS4.call hS5
      refine ge_batch [7, 8, 9] (ans := []) (vs := [(6, .int .i64 (IntKind.i64.wrap (z1 + (IntKind.i64.wrap (r1 * e1.H))))), (34, .int .i64 (IntKind.i64.wrap (z1 + (IntKind.i64.wrap (r1 * e1.H))))), (33, .int .i64 (IntKind.i64.wrap (r1 * e1.H)))]) (l := []) (by kernel_rfl) trivial ?_
      obtain rfl := Option.some.inj h
      exact ge_nil fun a hF => hQ _ _ _ (Outs.again ⟨hS6, hF.weaken ⟨by kernel_rfl, by kernel_rfl, by kernel_rfl, by kernel_rfl, by kernel_rfl, by kernel_rfl, by kernel_rfl, by kernel_rfl, trivial⟩⟩)
    · rw [if_neg hc3] at h
      refine we_known (t := 25) (b := e1.High) (v := false) (by kernel_rfl) (Bool.eq_false_iff.2 hc3) ?_
      refine we_false (by kernel_rfl) ?_
      obtain rfl := Option.some.inj h
      exact we_skip fun a hF => hQ _ _ _ (Outs.again ⟨hS, hF.weaken ⟨by kernel_rfl, by kernel_rfl, by kernel_rfl, by kernel_rfl, by kernel_rfl, by kernel_rfl, by kernel_rfl, by kernel_rfl, trivial⟩⟩)
  · rw [if_neg hc2] at h
    refine ge_known (t := 22) (b := decide (e1.P > xf_0.P)) (c := false) (by kernel_rfl) (decide_eq_false hc2) ?_
    refine ge_batch [6, 7, 8] (ans := []) (vs := [(25, .bool false), (24, undef), (23, undef)]) (l := []) (by kernel_rfl) trivial ?_
    refine ge_nil fun a hF => hK10 _ _ ?_ a hF
    refine we_false (by kernel_rfl) ?_
    obtain rfl := Option.some.inj h
    exact we_skip fun a hF => hQ _ _ _ (Outs.again ⟨hS, hF.weaken ⟨by kernel_rfl, by kernel_rfl, by kernel_rfl, by kernel_rfl, by kernel_rfl, by kernel_rfl, by kernel_rfl, by kernel_rfl, trivial⟩⟩)
abbrev pr_TwoResponses_2.A0 (K : Nat) (w0 : World) (x0 : Int) (bf_0 : Nat) (xf_0 : SCrit) (bf_1 : Nat) (lf_1 : List SCrit) (Af_1 : Option Addr) (cf_1 : Nat) (bf_2 : Nat) (xf_2 : Int) (hBf_0 : Glob w0 bf_0 [.int .i64 xf_0.C, .int .i64 xf_0.H, .int .i64 xf_0.T, .int .i64 xf_0.D, .bool xf_0.High, .int .i64 xf_0.P]) (hRf_1 : RdL w0 Af_1 lf_1) (hLf_1 : lf_1.length ≤ cf_1) (hBf_1 : Glob w0 bf_1 [.slice Af_1 lf_1.length cf_1]) (hBf_2 : Glob w0 bf_2 [.int .i64 xf_2]) : (Int × Nat) → Act → World → Prop := fun (s : Int × Nat) a w => St w0 w [] ∧ Frm 56 a [(0, .int .i64 x0), (1, .pointer (some ⟨bf_0, 0, none⟩)), (3, .pointer (some ⟨bf_2, 0, none⟩)), (6, .int .i64 s.1), (11, .slice Af_1 lf_1.length cf_1), (12, .int .i64 (lf_1.length : Int)), (13, .int .i64 (s.2 : Int))]
abbrev pr_TwoResponses_2.B0 (K : Nat) (w0 : World) (x0 : Int) (bf_0 : Nat) (xf_0 : SCrit) (bf_1 : Nat) (lf_1 : List SCrit) (Af_1 : Option Addr) (cf_1 : Nat) (bf_2 : Nat) (xf_2 : Int) (hBf_0 : Glob w0 bf_0 [.int .i64 xf_0.C, .int .i64 xf_0.H, .int .i64 xf_0.T, .int .i64 xf_0.D, .bool xf_0.High, .int .i64 xf_0.P]) (hRf_1 : RdL w0 Af_1 lf_1) (hLf_1 : lf_1.length ≤ cf_1) (hBf_1 : Glob w0 bf_1 [.slice Af_1 lf_1.length cf_1]) (hBf_2 : Glob w0 bf_2 [.int .i64 xf_2]) : (Int ⊕ Int) → Exit → Act → World → Prop := Exits 0 (fun (s : Int) a w => St w0 w [] ∧ Frm 56 a [(6, .int .i64 s)]) (Rets Tryd.prog Tryd.f43 (pr_TwoResponses_2.Post w0))
theorem pr_TwoResponses_2_r0 (K : Nat) (w0 : World) (x0 : Int) (bf_0 : Nat) (xf_0 : SCrit) (bf_1 : Nat) (lf_1 : List SCrit) (Af_1 : Option Addr) (cf_1 : Nat) (bf_2 : Nat) (xf_2 : Int) (hBf_0 : Glob w0 bf_0 [.int .i64 xf_0.C, .int .i64 xf_0.H, .int .i64 xf_0.T, .int .i64 xf_0.D, .bool xf_0.High, .int .i64 xf_0.P]) (hRf_1 : RdL w0 Af_1 lf_1) (hLf_1 : lf_1.length ≤ cf_1) (hBf_1 : Glob w0 bf_1 [.slice Af_1 lf_1.length cf_1]) (hBf_2 : Glob w0 bf_2 [.int .i64 xf_2]) (s : Int × Nat) (o : (Int × Nat) ⊕ (Int ⊕ Int)) (h : pr_TwoResponses_2.r0 x0 xf_0 lf_1 xf_2 s = some o) (a : Act) (w : World) (hA : pr_TwoResponses_2.A0 K w0 x0 bf_0 xf_0 bf_1 lf_1 Af_1 cf_1 bf_2 xf_2 hBf_0 hRf_1 hLf_1 hBf_1 hBf_2 s a w) (Q : Exit → Act → World → Prop) (hQ : ∀ x a w, Outs (pr_TwoResponses_2.A0 K w0 x0 bf_0 xf_0 bf_1 lf_1 Af_1 cf_1 bf_2 xf_2 hBf_0 hRf_1 hLf_1 hBf_1 hBf_2) (pr_TwoResponses_2.B0 K w0 x0 bf_0 xf_0 bf_1 lf_1 Af_1 cf_1 bf_2 xf_2 hBf_0 hRf_1 hLf_1 hBf_1 hBf_2) o x a w → Q x a w) : (subF Tryd.f43 [1, 1, 0, 1, 0, 0]).wp Tryd.prog Q a w := by
  obtain ⟨z1, i1⟩ := s
  obtain ⟨hS, hF⟩ := hA
  replace hS : St w0 w [] := hS
  simp only [pr_TwoResponses_2.r0] at h
  refine (?_ : WE Tryd.prog 56 (subF Tryd.f43 [1, 1, 0, 1, 0, 0]) Q [(0, .int .i64 x0), (1, .pointer (some ⟨bf_0, 0, none⟩)), (3, .pointer (some ⟨bf_2, 0, none⟩)), (6, .int .i64 z1), (11, .slice Af_1 lf_1.length cf_1), (12, .int .i64 (lf_1.length : Int)), (13, .int .i64 (i1 : Int))] w) a hF
  clear hF a
  refine we_seq fun K5 hK5 => ?_
  refine we_region [(0, 0)] rfl ?_
  refine ge_batch [0] (ans := []) (vs := [(14, .bool (decide ((i1 : Int) < (lf_1.length : Int))))]) (l := []) (by kernel_rfl) trivial ?_
  refine ge_nil fun a hF => hK5 _ _ ?_ a hF
  refine we_seq fun K6 hK6 => ?_
  by_cases hc1 : (i1 : Int) < (lf_1.length : Int)
  · rw [if_pos hc1] at h
    refine we_known (t := 14) (b := decide ((i1 : Int) < (lf_1.length : Int))) (v := true) (by kernel_rfl) (decide_eq_true hc1) ?_
    refine we_true (by kernel_rfl) ?_
    refine we_skip fun a hF => hK6 _ _ ?_ a hF
    refine we_seq fun K7 hK7 => ?_
    refine we_block ?_
    refine we_seq fun K8 hK8 => ?_
    refine we_region [(0, 0), (1, 0), (2, 1), (3, 2)] rfl ?_
    rcases hx1 : lf_1[i1]? with _ | e1
    · rw [hx1] at h; cases h
    rw [hx1] at h
    simp only [] at h
    refine ge_index (d := 15) (ty := 0) (t := 22) (el := 27) (sz := 6) (m := lf_1.length) (c := cf_1) (x := (.tmp 11)) (y := (.tmp 13)) (A := Af_1) (k' := .i64) (j := (i1 : Int)) (jn := i1) (b0 := blkOf Af_1) (o0 := offOf Af_1) (by kernel_rfl) (by kernel_rfl) (by kernel_rfl) (by kernel_rfl) (by kernel_rfl) ((hS.rd hRf_1).eqSome (pos_of_get hx1)) rfl (lt_of_get hx1) ?_
    refine ge_batch [1] (ans := [.val (.int .i64 e1.C), .val (.int .i64 e1.H), .val (.int .i64 e1.T), .val (.int .i64 e1.D), .val (.bool e1.High), .val (.int .i64 e1.P)]) (vs := [(16, .agg #[.int .i64 e1.C, .int .i64 e1.H, .int .i64 e1.T, .int .i64 e1.D, .bool e1.High, .int .i64 e1.P])]) (l := [.loaded ⟨blkOf Af_1, offOf Af_1 + i1 * 6, none⟩ (.int .i64 e1.C), .loaded ⟨blkOf Af_1, offOf Af_1 + i1 * 6 + 1, none⟩ (.int .i64 e1.H), .loaded ⟨blkOf Af_1, offOf Af_1 + i1 * 6 + 2, none⟩ (.int .i64 e1.T), .loaded ⟨blkOf Af_1, offOf Af_1 + i1 * 6 + 3, none⟩ (.int .i64 e1.D), .loaded ⟨blkOf Af_1, offOf Af_1 + i1 * 6 + 4, none⟩ (.bool e1.High), .loaded ⟨blkOf Af_1, offOf Af_1 + i1 * 6 + 5, none⟩ (.int .i64 e1.P)]) (by kernel_rfl) ⟨RdL.cell (j := 0) (hS.rd hRf_1) hx1 rfl, RdL.cell (j := 1) (hS.rd hRf_1) hx1 rfl, RdL.cell (j := 2) (hS.rd hRf_1) hx1 rfl, RdL.cell (j := 3) (hS.rd hRf_1) hx1 rfl, RdL.cell (j := 4) (hS.rd hRf_1) hx1 rfl, RdL.cell (j := 5) (hS.rd hRf_1) hx1 rfl, trivial⟩ ?_
    refine ge_new (d := some 8) (o := .cells #[.int .i64 0, .int .i64 0, .int .i64 0, .int .i64 0, .bool false, .int .i64 0] 27) (v := fun b => .pointer (some ⟨b, 0, none⟩)) hS (fun b => by kernel_rfl) fun b1 w1 hx2 hS1 => ?_
    refine ge_set (b := b1) (j := 0) (cs := #[.int .i64 0, .int .i64 0, .int .i64 0, .int .i64 0, .bool false, .int .i64 0]) (t := 27) (vs := [.int .i64 e1.C, .int .i64 e1.H, .int .i64 e1.T, .int .i64 e1.D, .bool e1.High, .int .i64 e1.P]) hS1 (by kernel_rfl) rfl rfl fun w2 hS2 => ?_
    have hS3 := hS2.nc #[.int .i64 e1.C, .int .i64 e1.H, .int .i64 e1.T, .int .i64 e1.D, .bool e1.High, .int .i64 e1.P] (by kernel_rfl)
    refine ge_nil fun a hF => hK8 _ _ ?_ a hF
    refine we_seq fun K9 hK9 => ?_
    rcases hq2 : pr_TwoResponses_2.p1 x0 xf_0 z1 e1 with _ | (z4 | rr1)
    · rw [hq2] at h; cases h
    · rw [hq2] at h
      simp only [] at h
      refine we_keep (e' := [(0, .int .i64 x0), (1, .pointer (some ⟨bf_0, 0, none⟩)), (3, .pointer (some ⟨bf_2, 0, none⟩)), (6, .int .i64 z1), (8, .pointer (some ⟨b1, 0, none⟩)), (11, .slice Af_1 lf_1.length cf_1), (12, .int .i64 (lf_1.length : Int)), (13, .int .i64 (i1 : Int)), (14, .bool true), (15, .pointer (some ⟨blkOf Af_1, offOf Af_1 + i1 * 6, none⟩)), (16, .agg #[.int .i64 e1.C, .int .i64 e1.H, .int .i64 e1.T, .int .i64 e1.D, .bool e1.High, .int .i64 e1.P])]) ⟨by kernel_rfl, by kernel_rfl, by kernel_rfl, by kernel_rfl, by kernel_rfl, by kernel_rfl, by kernel_rfl, by kernel_rfl, by kernel_rfl, by kernel_rfl, by kernel_rfl, trivial⟩ (pr_TwoResponses_2_p1 K w0 x0 bf_0 xf_0 bf_1 lf_1 Af_1 cf_1 bf_2 xf_2 hBf_0 hRf_1 hLf_1 hBf_1 hBf_2 z1 i1 hc1 e1 hx1 b1 _ hq2 _ hS3 _ ?_)
      rintro _ a w4 ⟨rfl, hS7, hF⟩
      replace hS7 : St w0 w4 [Own.blk b1 (.cells #[.int .i64 e1.C, .int .i64 e1.H, .int .i64 e1.T, .int .i64 e1.D, .bool e1.High, .int .i64 e1.P] 27 (0, 0))] := hS7
      refine hK9 [(0, .int .i64 x0), (1, .pointer (some ⟨bf_0, 0, none⟩)), (3, .pointer (some ⟨bf_2, 0, none⟩)), (6, .int .i64 z4), (8, .pointer (some ⟨b1, 0, none⟩)), (11, .slice Af_1 lf_1.length cf_1), (12, .int .i64 (lf_1.length : Int)), (13, .int .i64 (i1 : Int))] w4 ?_ a hF
      refine we_seq fun K11 hK11 => ?_
      refine we_region [(0, 0), (1, 0), (2, 0), (3, 0), (4, 0), (5, 0), (6, 0), (7, 0), (8, 0), (9, 0)] rfl ?_
      refine ge_batch [0, 1, 2, 3, 4, 5] (ans := [.val (.int .i64 e1.P), .val (.int .i64 xf_0.P)]) (vs := [(40, .bool (decide (e1.P > xf_0.P))), (39, .bool (decide (e1.P > xf_0.P))), (38, .int .i64 xf_0.P), (37, .pointer (some ⟨bf_0, 5, none⟩)), (36, .int .i64 e1.P), (35, .pointer (some ⟨b1, 5, none⟩))]) (l := [.loaded ⟨b1, 5, none⟩ (.int .i64 e1.P), .loaded ⟨bf_0, 5, none⟩ (.int .i64 xf_0.P)]) (by kernel_rfl) ⟨hS7.cell 0 rfl rfl, hS7.glob hBf_0 rfl, trivial⟩ ?_
      by_cases hc4 : e1.P > xf_0.P
      · rw [if_pos hc4] at h
        refine ge_known (t := 40) (b := decide (e1.P > xf_0.P)) (c := true) (by kernel_rfl) (decide_eq_true hc4) ?_
        refine ge_batch [6, 7, 8, 9] (ans := [.val (.bool e1.High)]) (vs := [(44, .bool (!e1.High)), (43, .bool (!e1.High)), (42, .bool e1.High), (41, .pointer (some ⟨b1, 4, none⟩))]) (l := [.loaded ⟨b1, 4, none⟩ (.bool e1.High)]) (by kernel_rfl) ⟨hS7.cell 0 rfl rfl, trivial⟩ ?_
        refine ge_nil fun a hF => hK11 _ _ ?_ a hF
        by_cases hc5 : e1.High = true
        · rw [if_pos hc5] at h
          refine we_known (t := 44) (b := !e1.High) (v := false) (by kernel_rfl) (congrArg (fun z => !z) hc5) ?_
          refine we_false (by kernel_rfl) ?_
          refine we_skip fun a hF => hK7 _ _ ?_ a hF
          refine we_region [(0, 0), (1, 0)] rfl ?_
          refine ge_addn (d := 54) (ty := 3) (x := (.tmp 13)) (y := (.const (.int .i64 1))) (t := 3) (t2 := 3) (k := .i64) (m := i1) (by kernel_rfl) (by kernel_rfl) (by kernel_rfl) (by have h0 := hRf_1.small; omega) ?_
          refine ge_batch [1] (ans := []) (vs := [(13, .int .i64 ((i1 + 1 : Nat) : Int))]) (l := []) (by kernel_rfl) trivial ?_
          have hS8 := hS7.takeN 0
          obtain rfl := Option.some.inj h
          exact ge_nil fun a hF => hQ _ _ _ (Outs.again ⟨hS8, hF.weaken ⟨by kernel_rfl, by kernel_rfl, by kernel_rfl, by kernel_rfl, by kernel_rfl, by kernel_rfl, by kernel_rfl, trivial⟩⟩)
        · rw [if_neg hc5] at h
          refine we_known (t := 44) (b := !e1.High) (v := true) (by kernel_rfl) (congrArg (fun z => !z) (Bool.eq_false_iff.2 hc5)) ?_
          refine we_true (by kernel_rfl) ?_
          refine we_draws (by kernel_rfl) [(0, 0), (1, 0), (2, 0), (3, 0), (5, 0), (6, 0), (4, 1), (7, 0), (8, 0), (9, 0)] (by kernel_rfl) ?_
          have hS9 := hS7.drew
          rcases hq3 : pr_up.f xf_2 e1.T with _ | r2
          · rw [hq3] at h; cases h
          rw [hq3] at h
          simp only [] at h
          refine ge_batch [0, 1, 2, 3, 5, 6] (ans := [.val (.int .i64 xf_2), .val (.int .i64 e1.T), .val (.int .i64 e1.C)]) (vs := [(51, .int .i64 e1.C), (50, .pointer (some ⟨b1, 0, none⟩)), (48, .int .i64 e1.T), (47, .pointer (some ⟨b1, 2, none⟩)), (46, .int .i64 xf_2), (45, .int .i64 z4)]) (l := [.loaded ⟨bf_2, 0, none⟩ (.int .i64 xf_2), .loaded ⟨b1, 2, none⟩ (.int .i64 e1.T), .loaded ⟨b1, 0, none⟩ (.int .i64 e1.C)]) (by kernel_rfl) ⟨hS9.glob hBf_2 rfl, hS9.cell 0 rfl rfl, hS9.cell 0 rfl rfl, trivial⟩ ?_
          refine ge_call (d := some 49) (f := 42) (args := #[.int .i64 xf_2, .int .i64 e1.T]) (by kernel_rfl) (pr_up_ok xf_2 e1.T _ _ hq3) ?_
          rintro _ w5 ⟨rfl, hS10⟩
          refine ⟨_, rfl, hS10.below, ?_⟩
          have hS11 := hS9.call hS10
          refine ge_batch [7, 8, 9] (ans := []) (vs := [(6, .int .i64 (IntKind.i64.wrap (z4 + (IntKind.i64.wrap (r2 * e1.C))))), (53, .int .i64 (IntKind.i64.wrap (z4 + (IntKind.i64.wrap (r2 * e1.C))))), (52, .int .i64 (IntKind.i64.wrap (r2 * e1.C)))]) (l := []) (by kernel_rfl) trivial ?_
          refine ge_nil fun a hF => hK7 _ _ ?_ a hF
          refine we_region [(0, 0), (1, 0)] rfl ?_
          refine ge_addn (d := 54) (ty := 3) (x := (.tmp 13)) (y := (.const (.int .i64 1))) (t := 3) (t2 := 3) (k := .i64) (m := i1) (by kernel_rfl) (by kernel_rfl) (by kernel_rfl) (by have h0 := hRf_1.small; omega) ?_
          refine ge_batch [1] (ans := []) (vs := [(13, .int .i64 ((i1 + 1 : Nat) : Int))]) (l := []) (by kernel_rfl) trivial ?_
          have hS12 := hS11.takeN 0
          obtain rfl := Option.some.inj h
          exact ge_nil fun a hF => hQ _ _ _ (Outs.again ⟨hS12, hF.weaken ⟨by kernel_rfl, by kernel_rfl, by kernel_rfl, by kernel_rfl, by kernel_rfl, by kernel_rfl, by kernel_rfl, trivial⟩⟩)
      · rw [if_neg hc4] at h
        refine ge_known (t := 40) (b := decide (e1.P > xf_0.P)) (c := false) (by kernel_rfl) (decide_eq_false hc4) ?_
        refine ge_batch [6, 7, 8, 9] (ans := []) (vs := [(44, .bool false), (43, undef), (42, undef), (41, undef)]) (l := []) (by kernel_rfl) trivial ?_
        refine ge_nil fun a hF => hK11 _ _ ?_ a hF
        refine we_false (by kernel_rfl) ?_
        refine we_skip fun a hF => hK7 _ _ ?_ a hF
        refine we_region [(0, 0), (1, 0)] rfl ?_
        refine ge_addn (d := 54) (ty := 3) (x := (.tmp 13)) (y := (.const (.int .i64 1))) (t := 3) (t2 := 3) (k := .i64) (m := i1) (by kernel_rfl) (by kernel_rfl) (by kernel_rfl) (by have h0 := hRf_1.small; omega) ?_
        refine ge_batch [1] (ans := []) (vs := [(13, .int .i64 ((i1 + 1 : Nat) : Int))]) (l := []) (by kernel_rfl) trivial ?_
        have hS13 := hS7.takeN 0
        obtain rfl := Option.some.inj h
        exact ge_nil fun a hF => hQ _ _ _ (Outs.again ⟨hS13, hF.weaken ⟨by kernel_rfl, by kernel_rfl, by kernel_rfl, by kernel_rfl, by kernel_rfl, by kernel_rfl, by kernel_rfl, trivial⟩⟩)
    · rw [hq2] at h
      simp only [] at h
      refine we_keep (e' := [(0, .int .i64 x0), (1, .pointer (some ⟨bf_0, 0, none⟩)), (3, .pointer (some ⟨bf_2, 0, none⟩)), (6, .int .i64 z1), (8, .pointer (some ⟨b1, 0, none⟩)), (11, .slice Af_1 lf_1.length cf_1), (12, .int .i64 (lf_1.length : Int)), (13, .int .i64 (i1 : Int)), (14, .bool true), (15, .pointer (some ⟨blkOf Af_1, offOf Af_1 + i1 * 6, none⟩)), (16, .agg #[.int .i64 e1.C, .int .i64 e1.H, .int .i64 e1.T, .int .i64 e1.D, .bool e1.High, .int .i64 e1.P])]) ⟨by kernel_rfl, by kernel_rfl, by kernel_rfl, by kernel_rfl, by kernel_rfl, by kernel_rfl, by kernel_rfl, by kernel_rfl, by kernel_rfl, by kernel_rfl, by kernel_rfl, trivial⟩ (pr_TwoResponses_2_p1 K w0 x0 bf_0 xf_0 bf_1 lf_1 Af_1 cf_1 bf_2 xf_2 hBf_0 hRf_1 hLf_1 hBf_1 hBf_2 z1 i1 hc1 e1 hx1 b1 _ hq2 _ hS3 _ ?_)
      rintro _ a w1 ⟨_, rfl, hb⟩
      obtain rfl := Option.some.inj h
      exact hQ _ _ _ (Outs.out nofun (Exits.on ⟨rfl, hb⟩))
  · rw [if_neg hc1] at h
    refine we_known (t := 14) (b := decide ((i1 : Int) < (lf_1.length : Int))) (v := false) (by kernel_rfl) (decide_eq_false hc1) ?_
    refine we_false (by kernel_rfl) ?_
    obtain rfl := Option.some.inj h
    exact we_exit fun a hF => hQ _ _ _ (Outs.out nofun (Exits.here ⟨hS, hF.weaken ⟨by kernel_rfl, trivial⟩⟩))
theorem pr_TwoResponses_2_ok (K : Nat) (x0 : Int) (bf_0 : Nat) (xf_0 : SCrit) (bf_1 : Nat) (lf_1 : List SCrit) (Af_1 : Option Addr) (cf_1 : Nat) (bf_2 : Nat) (xf_2 : Int) (w0 : World) (hBf_0 : Glob w0 bf_0 [.int .i64 xf_0.C, .int .i64 xf_0.H, .int .i64 xf_0.T, .int .i64 xf_0.D, .bool xf_0.High, .int .i64 xf_0.P]) (hRf_1 : RdL w0 Af_1 lf_1) (hLf_1 : lf_1.length ≤ cf_1) (hBf_1 : Glob w0 bf_1 [.slice Af_1 lf_1.length cf_1]) (hBf_2 : Glob w0 bf_2 [.int .i64 xf_2]) (r : Int) (h : pr_TwoResponses_2.f K x0 xf_0 lf_1 xf_2 = some r) :
    Calls Tryd.prog 43 #[.int .i64 x0, .pointer (some ⟨bf_0, 0, none⟩), .pointer (some ⟨bf_1, 0, none⟩), .pointer (some ⟨bf_2, 0, none⟩)] w0 (pr_TwoResponses_2.Post w0 r) := by
  have hS := St.start w0
  unfold pr_TwoResponses_2.f at h
  refine calls_enter (n := 56) (args := [.int .i64 x0, .pointer (some ⟨bf_0, 0, none⟩), .pointer (some ⟨bf_1, 0, none⟩), .pointer (some ⟨bf_2, 0, none⟩)]) (fn := Tryd.f43) rfl rfl rfl rfl ?_
  show WE _ _ _ _ [(0, .int .i64 x0), (1, .pointer (some ⟨bf_0, 0, none⟩)), (2, .pointer (some ⟨bf_1, 0, none⟩)), (3, .pointer (some ⟨bf_2, 0, none⟩))] _
  refine we_seq fun K1 hK1 => ?_
  refine we_region [(0, 0)] rfl ?_
  refine ge_batch [0] (ans := []) (vs := [(5, .int .i64 0)]) (l := []) (by kernel_rfl) trivial ?_
  refine ge_nil fun a hF => hK1 _ _ ?_ a hF
  refine we_seq fun K2 hK2 => ?_
  refine we_region [(0, 0), (1, 0), (2, 0)] rfl ?_
  refine ge_batch [0, 1, 2] (ans := [.val (.int .i64 xf_0.H)]) (vs := [(6, .int .i64 xf_0.H), (10, .int .i64 xf_0.H), (9, .pointer (some ⟨bf_0, 1, none⟩))]) (l := [.loaded ⟨bf_0, 1, none⟩ (.int .i64 xf_0.H)]) (by kernel_rfl) ⟨hS.glob hBf_0 rfl, trivial⟩ ?_
  refine ge_nil fun a hF => hK2 _ _ ?_ a hF
  refine we_seq fun K3 hK3 => ?_
  refine we_seq fun K4 hK4 => ?_
  refine we_region [(0, 0), (1, 0), (2, 0)] rfl ?_
  refine ge_batch [0, 1, 2] (ans := [.val (.slice Af_1 lf_1.length cf_1)]) (vs := [(13, .int .i64 0), (12, .int .i64 (lf_1.length : Int)), (11, .slice Af_1 lf_1.length cf_1)]) (l := [.loaded ⟨bf_1, 0, none⟩ (.slice Af_1 lf_1.length cf_1)]) (by kernel_rfl) ⟨hS.glob hBf_1 rfl, trivial⟩ ?_
  refine ge_nil fun a hF => hK4 _ _ ?_ a hF
  refine we_block ?_
  rcases hq4 : iter (pr_TwoResponses_2.r0 x0 xf_0 lf_1 xf_2) K (xf_0.H, 0) with _ | (z5 | rr2)
  · rw [hq4] at h; cases h
  · rw [hq4] at h
    simp only [] at h
    refine we_iter (A := pr_TwoResponses_2.A0 K w0 x0 bf_0 xf_0 bf_1 lf_1 Af_1 cf_1 bf_2 xf_2 hBf_0 hRf_1 hLf_1 hBf_1 hBf_2) (B := pr_TwoResponses_2.B0 K w0 x0 bf_0 xf_0 bf_1 lf_1 Af_1 cf_1 bf_2 xf_2 hBf_0 hRf_1 hLf_1 hBf_1 hBf_2) hq4 (fun a hF => ⟨hS, hF.weaken ⟨by kernel_rfl, by kernel_rfl, by kernel_rfl, by kernel_rfl, by kernel_rfl, by kernel_rfl, by kernel_rfl, trivial⟩⟩) (fun s o hf a w hA Q hQ => pr_TwoResponses_2_r0 K w0 x0 bf_0 xf_0 bf_1 lf_1 Af_1 cf_1 bf_2 xf_2 hBf_0 hRf_1 hLf_1 hBf_1 hBf_2 s o hf a w hA Q hQ) ?_
    rintro _ a w6 _ ⟨rfl, hS14, hF⟩
    replace hS14 : St w0 w6 [] := hS14
    refine hK3 [(6, .int .i64 z5)] w6 ?_ a hF
    refine we_seq fun K12 hK12 => ?_
    refine we_region [(0, 0), (1, 0)] rfl ?_
    refine ge_batch [0, 1] (ans := []) (vs := [(5, .int .i64 z5), (55, .int .i64 z5)]) (l := []) (by kernel_rfl) trivial ?_
    refine ge_nil fun a hF => hK12 _ _ ?_ a hF
    obtain rfl := Option.some.inj h
    exact we_ret (post_ret (rs := [.tmp 5]) (ans := []) (vs := [.int .i64 z5]) (l := []) rfl (by kernel_rfl) trivial ⟨rfl, hS14⟩)
  · rw [hq4] at h
    simp only [] at h
    refine we_iter (A := pr_TwoResponses_2.A0 K w0 x0 bf_0 xf_0 bf_1 lf_1 Af_1 cf_1 bf_2 xf_2 hBf_0 hRf_1 hLf_1 hBf_1 hBf_2) (B := pr_TwoResponses_2.B0 K w0 x0 bf_0 xf_0 bf_1 lf_1 Af_1 cf_1 bf_2 xf_2 hBf_0 hRf_1 hLf_1 hBf_1 hBf_2) hq4 (fun a hF => ⟨hS, hF.weaken ⟨by kernel_rfl, by kernel_rfl, by kernel_rfl, by kernel_rfl, by kernel_rfl, by kernel_rfl, by kernel_rfl, trivial⟩⟩) (fun s o hf a w hA Q hQ => pr_TwoResponses_2_r0 K w0 x0 bf_0 xf_0 bf_1 lf_1 Af_1 cf_1 bf_2 xf_2 hBf_0 hRf_1 hLf_1 hBf_1 hBf_2 s o hf a w hA Q hQ) ?_
    rintro _ a w1 _ ⟨rfl, hb⟩
    obtain rfl := Option.some.inj h
    exact hb

/-! punctual/punctualref.least -/
abbrev pr_least_1.Post (w0 : World) (r : Int) (e : Ending) (w : World) : Prop := e = .returned (.int .i64 r) ∧ St w0 w []
def pr_least_1.r0 (K : Nat) (x0 : Int) (xg1_0 : SCrit) (lg1_1 : List SCrit) (xg1_2 : Int) : Int → Option (Int ⊕ (Unit ⊕ Int))
  | z1 =>
    if z1 ≤ x0 then
      match pr_TwoResponses_2.f K z1 xg1_0 lg1_1 xg1_2 with
      | none => none
      | some r1 =>
        if r1 = z1 then
          some (.inr (.inr z1))
        else
          some (.inl (IntKind.i64.wrap (z1 + 1)))
    else
      some (.inr (.inl ()))
def pr_least_1.f (K : Nat) (x0 : Int) (xg1_0 : SCrit) (lg1_1 : List SCrit) (xg1_2 : Int) : Option Int :=
  match iter (pr_least_1.r0 K x0 xg1_0 lg1_1 xg1_2) K 1 with
  | none => none
  | some (.inl _) =>
    some 0
  | some (.inr rr1) =>
    some rr1
abbrev pr_least_1.A0 (K : Nat) (w0 : World) (x0 : Int) (bg1_0 : Nat) (xg1_0 : SCrit) (bg1_1 : Nat) (lg1_1 : List SCrit) (Ag1_1 : Option Addr) (cg1_1 : Nat) (bg1_2 : Nat) (xg1_2 : Int) (hBg1_0 : Glob w0 bg1_0 [.int .i64 xg1_0.C, .int .i64 xg1_0.H, .int .i64 xg1_0.T, .int .i64 xg1_0.D, .bool xg1_0.High, .int .i64 xg1_0.P]) (hRg1_1 : RdL w0 Ag1_1 lg1_1) (hLg1_1 : lg1_1.length ≤ cg1_1) (hBg1_1 : Glob w0 bg1_1 [.slice Ag1_1 lg1_1.length cg1_1]) (hBg1_2 : Glob w0 bg1_2 [.int .i64 xg1_2]) : Int → Act → World → Prop := fun (s : Int) a w => St w0 w [] ∧ Frm 17 a [(0, .int .i64 x0), (1, .func (.func 43) #[] #[.pointer (some ⟨bg1_0, 0, none⟩), .pointer (some ⟨bg1_1, 0, none⟩), .pointer (some ⟨bg1_2, 0, none⟩)]), (5, .int .i64 s)]
abbrev pr_least_1.B0 (K : Nat) (w0 : World) (x0 : Int) (bg1_0 : Nat) (xg1_0 : SCrit) (bg1_1 : Nat) (lg1_1 : List SCrit) (Ag1_1 : Option Addr) (cg1_1 : Nat) (bg1_2 : Nat) (xg1_2 : Int) (hBg1_0 : Glob w0 bg1_0 [.int .i64 xg1_0.C, .int .i64 xg1_0.H, .int .i64 xg1_0.T, .int .i64 xg1_0.D, .bool xg1_0.High, .int .i64 xg1_0.P]) (hRg1_1 : RdL w0 Ag1_1 lg1_1) (hLg1_1 : lg1_1.length ≤ cg1_1) (hBg1_1 : Glob w0 bg1_1 [.slice Ag1_1 lg1_1.length cg1_1]) (hBg1_2 : Glob w0 bg1_2 [.int .i64 xg1_2]) : (Unit ⊕ Int) → Exit → Act → World → Prop := Exits 0 (fun (s : Unit) a w => St w0 w [] ∧ Frm 17 a []) (Rets Tryd.prog Tryd.f40 (pr_least_1.Post w0))
theorem pr_least_1_r0 (K : Nat) (w0 : World) (x0 : Int) (bg1_0 : Nat) (xg1_0 : SCrit) (bg1_1 : Nat) (lg1_1 : List SCrit) (Ag1_1 : Option Addr) (cg1_1 : Nat) (bg1_2 : Nat) (xg1_2 : Int) (hBg1_0 : Glob w0 bg1_0 [.int .i64 xg1_0.C, .int .i64 xg1_0.H, .int .i64 xg1_0.T, .int .i64 xg1_0.D, .bool xg1_0.High, .int .i64 xg1_0.P]) (hRg1_1 : RdL w0 Ag1_1 lg1_1) (hLg1_1 : lg1_1.length ≤ cg1_1) (hBg1_1 : Glob w0 bg1_1 [.slice Ag1_1 lg1_1.length cg1_1]) (hBg1_2 : Glob w0 bg1_2 [.int .i64 xg1_2]) (s : Int) (o : Int ⊕ (Unit ⊕ Int)) (h : pr_least_1.r0 K x0 xg1_0 lg1_1 xg1_2 s = some o) (a : Act) (w : World) (hA : pr_least_1.A0 K w0 x0 bg1_0 xg1_0 bg1_1 lg1_1 Ag1_1 cg1_1 bg1_2 xg1_2 hBg1_0 hRg1_1 hLg1_1 hBg1_1 hBg1_2 s a w) (Q : Exit → Act → World → Prop) (hQ : ∀ x a w, Outs (pr_least_1.A0 K w0 x0 bg1_0 xg1_0 bg1_1 lg1_1 Ag1_1 cg1_1 bg1_2 xg1_2 hBg1_0 hRg1_1 hLg1_1 hBg1_1 hBg1_2) (pr_least_1.B0 K w0 x0 bg1_0 xg1_0 bg1_1 lg1_1 Ag1_1 cg1_1 bg1_2 xg1_2 hBg1_0 hRg1_1 hLg1_1 hBg1_1 hBg1_2) o x a w → Q x a w) : (subF Tryd.f40 [1, 0, 1, 0, 0]).wp Tryd.prog Q a w := by
  obtain ⟨z1, hs⟩ : ∃ z, z = s := ⟨s, rfl⟩
  subst hs
  obtain ⟨hS, hF⟩ := hA
  replace hS : St w0 w [] := hS
  simp only [pr_least_1.r0] at h
  refine (?_ : WE Tryd.prog 17 (subF Tryd.f40 [1, 0, 1, 0, 0]) Q [(0, .int .i64 x0), (1, .func (.func 43) #[] #[.pointer (some ⟨bg1_0, 0, none⟩), .pointer (some ⟨bg1_1, 0, none⟩), .pointer (some ⟨bg1_2, 0, none⟩)]), (5, .int .i64 z1)] w) a hF
  clear hF a
  refine we_seq fun K4 hK4 => ?_
  refine we_seq fun K5 hK5 => ?_
  refine we_region [(0, 0), (1, 0), (2, 0)] rfl ?_
  refine ge_batch [0, 1, 2] (ans := []) (vs := [(8, .bool (decide (z1 ≤ x0))), (7, .int .i64 x0), (6, .int .i64 z1)]) (l := []) (by kernel_rfl) trivial ?_
  refine ge_nil fun a hF => hK5 _ _ ?_ a hF
  by_cases hc1 : z1 ≤ x0
  · rw [if_pos hc1] at h
    refine we_known (t := 8) (b := decide (z1 ≤ x0)) (v := true) (by kernel_rfl) (decide_eq_true hc1) ?_
    refine we_true (by kernel_rfl) ?_
    refine we_skip fun a hF => hK4 _ _ ?_ a hF
    refine we_seq fun K6 hK6 => ?_
    refine we_block ?_
    refine we_seq fun K7 hK7 => ?_
    refine we_region [(0, 0), (1, 0), (2, 1), (3, 0), (4, 0)] rfl ?_
    rcases hq1 : pr_TwoResponses_2.f K z1 xg1_0 lg1_1 xg1_2 with _ | r1
    · rw [hq1] at h; cases h
    rw [hq1] at h
    simp only [] at h
    refine ge_batch [0, 1] (ans := []) (vs := [(12, .int .i64 z1), (11, .func (.func 43) #[] #[.pointer (some ⟨bg1_0, 0, none⟩), .pointer (some ⟨bg1_1, 0, none⟩), .pointer (some ⟨bg1_2, 0, none⟩)])]) (l := []) (by kernel_rfl) trivial ?_
    refine ge_call (d := some 13) (f := 43) (args := #[.int .i64 z1, .pointer (some ⟨bg1_0, 0, none⟩), .pointer (some ⟨bg1_1, 0, none⟩), .pointer (some ⟨bg1_2, 0, none⟩)]) (by kernel_rfl) (pr_TwoResponses_2_ok K z1 bg1_0 xg1_0 bg1_1 lg1_1 Ag1_1 cg1_1 bg1_2 xg1_2 _ (Glob.ext hBg1_0 hS.below) (hS.rd hRg1_1) hLg1_1 (Glob.ext hBg1_1 hS.below) (Glob.ext hBg1_2 hS.below) _ hq1) ?_
    rintro _ w1 ⟨rfl, hS1⟩
    refine ⟨_, rfl, hS1.below, ?_⟩
    have hS2 := hS.call hS1
    refine ge_batch [3, 4] (ans := []) (vs := [(15, .bool (r1 == z1)), (14, .int .i64 z1)]) (l := []) (by kernel_rfl) trivial ?_
    refine ge_nil fun a hF => hK7 _ _ ?_ a hF
    by_cases hc2 : r1 = z1
    · rw [if_pos hc2] at h
      refine we_known (t := 15) (b := (r1 == z1)) (v := true) (by kernel_rfl) (beq_iff_eq.2 hc2) ?_
      refine we_true (by kernel_rfl) ?_
      refine we_seq fun K8 hK8 => ?_
      refine we_region [(0, 0), (1, 0)] rfl ?_
      refine ge_batch [0, 1] (ans := []) (vs := [(4, .int .i64 z1), (16, .int .i64 z1)]) (l := []) (by kernel_rfl) trivial ?_
      refine ge_nil fun a hF => hK8 _ _ ?_ a hF
      obtain rfl := Option.some.inj h
      exact we_ret fun a hF => hQ _ _ _ (Outs.out nofun (Exits.on ⟨rfl, (post_ret (rs := [.tmp 4]) (ans := []) (vs := [.int .i64 z1]) (l := []) rfl (by kernel_rfl) trivial ⟨rfl, hS2⟩) a hF⟩))
    · rw [if_neg hc2] at h
      refine we_known (t := 15) (b := (r1 == z1)) (v := false) (by kernel_rfl) (beq_eq_false_iff_ne.2 hc2) ?_
      refine we_false (by kernel_rfl) ?_
      refine we_skip fun a hF => hK6 _ _ ?_ a hF
      refine we_region [(0, 0), (1, 0), (2, 0)] rfl ?_
      refine ge_batch [0, 1, 2] (ans := []) (vs := [(5, .int .i64 (IntKind.i64.wrap (z1 + 1))), (10, .int .i64 (IntKind.i64.wrap (z1 + 1))), (9, .int .i64 z1)]) (l := []) (by kernel_rfl) trivial ?_
      obtain rfl := Option.some.inj h
      exact ge_nil fun a hF => hQ _ _ _ (Outs.again ⟨hS2, hF.weaken ⟨by kernel_rfl, by kernel_rfl, by kernel_rfl, trivial⟩⟩)
  · rw [if_neg hc1] at h
    refine we_known (t := 8) (b := decide (z1 ≤ x0)) (v := false) (by kernel_rfl) (decide_eq_false hc1) ?_
    refine we_false (by kernel_rfl) ?_
    obtain rfl := Option.some.inj h
    exact we_exit fun a hF => hQ _ _ _ (Outs.out nofun (Exits.here ⟨hS, hF.weaken trivial⟩))
theorem pr_least_1_ok (K : Nat) (x0 : Int) (bg1_0 : Nat) (xg1_0 : SCrit) (bg1_1 : Nat) (lg1_1 : List SCrit) (Ag1_1 : Option Addr) (cg1_1 : Nat) (bg1_2 : Nat) (xg1_2 : Int) (w0 : World) (hBg1_0 : Glob w0 bg1_0 [.int .i64 xg1_0.C, .int .i64 xg1_0.H, .int .i64 xg1_0.T, .int .i64 xg1_0.D, .bool xg1_0.High, .int .i64 xg1_0.P]) (hRg1_1 : RdL w0 Ag1_1 lg1_1) (hLg1_1 : lg1_1.length ≤ cg1_1) (hBg1_1 : Glob w0 bg1_1 [.slice Ag1_1 lg1_1.length cg1_1]) (hBg1_2 : Glob w0 bg1_2 [.int .i64 xg1_2]) (r : Int) (h : pr_least_1.f K x0 xg1_0 lg1_1 xg1_2 = some r) :
    Calls Tryd.prog 40 #[.int .i64 x0, .func (.func 43) #[] #[.pointer (some ⟨bg1_0, 0, none⟩), .pointer (some ⟨bg1_1, 0, none⟩), .pointer (some ⟨bg1_2, 0, none⟩)]] w0 (pr_least_1.Post w0 r) := by
  have hS := St.start w0
  unfold pr_least_1.f at h
  refine calls_enter (n := 17) (args := [.int .i64 x0, .func (.func 43) #[] #[.pointer (some ⟨bg1_0, 0, none⟩), .pointer (some ⟨bg1_1, 0, none⟩), .pointer (some ⟨bg1_2, 0, none⟩)]]) (fn := Tryd.f40) rfl rfl rfl rfl ?_
  show WE _ _ _ _ [(0, .int .i64 x0), (1, .func (.func 43) #[] #[.pointer (some ⟨bg1_0, 0, none⟩), .pointer (some ⟨bg1_1, 0, none⟩), .pointer (some ⟨bg1_2, 0, none⟩)])] _
  refine we_seq fun K1 hK1 => ?_
  refine we_region [(0, 0)] rfl ?_
  refine ge_batch [0] (ans := []) (vs := [(4, .int .i64 0)]) (l := []) (by kernel_rfl) trivial ?_
  refine ge_nil fun a hF => hK1 _ _ ?_ a hF
  refine we_seq fun K2 hK2 => ?_
  refine we_seq fun K3 hK3 => ?_
  refine we_region [(0, 0)] rfl ?_
  refine ge_batch [0] (ans := []) (vs := [(5, .int .i64 1)]) (l := []) (by kernel_rfl) trivial ?_
  refine ge_nil fun a hF => hK3 _ _ ?_ a hF
  refine we_block ?_
  rcases hq2 : iter (pr_least_1.r0 K x0 xg1_0 lg1_1 xg1_2) K 1 with _ | (_ | rr1)
  · rw [hq2] at h; cases h
  · rw [hq2] at h
    simp only [] at h
    refine we_iter (A := pr_least_1.A0 K w0 x0 bg1_0 xg1_0 bg1_1 lg1_1 Ag1_1 cg1_1 bg1_2 xg1_2 hBg1_0 hRg1_1 hLg1_1 hBg1_1 hBg1_2) (B := pr_least_1.B0 K w0 x0 bg1_0 xg1_0 bg1_1 lg1_1 Ag1_1 cg1_1 bg1_2 xg1_2 hBg1_0 hRg1_1 hLg1_1 hBg1_1 hBg1_2) hq2 (fun a hF => ⟨hS, hF.weaken ⟨by kernel_rfl, by kernel_rfl, by kernel_rfl, trivial⟩⟩) (fun s o hf a w hA Q hQ => pr_least_1_r0 K w0 x0 bg1_0 xg1_0 bg1_1 lg1_1 Ag1_1 cg1_1 bg1_2 xg1_2 hBg1_0 hRg1_1 hLg1_1 hBg1_1 hBg1_2 s o hf a w hA Q hQ) ?_
    rintro _ a w2 _ ⟨rfl, hS3, hF⟩
    replace hS3 : St w0 w2 [] := hS3
    refine hK2 [] w2 ?_ a hF
    refine we_seq fun K9 hK9 => ?_
    refine we_region [(0, 0)] rfl ?_
    refine ge_batch [0] (ans := []) (vs := [(4, .int .i64 0)]) (l := []) (by kernel_rfl) trivial ?_
    refine ge_nil fun a hF => hK9 _ _ ?_ a hF
    obtain rfl := Option.some.inj h
    exact we_ret (post_ret (rs := [.tmp 4]) (ans := []) (vs := [.int .i64 0]) (l := []) rfl (by kernel_rfl) trivial ⟨rfl, hS3⟩)
  · rw [hq2] at h
    simp only [] at h
    refine we_iter (A := pr_least_1.A0 K w0 x0 bg1_0 xg1_0 bg1_1 lg1_1 Ag1_1 cg1_1 bg1_2 xg1_2 hBg1_0 hRg1_1 hLg1_1 hBg1_1 hBg1_2) (B := pr_least_1.B0 K w0 x0 bg1_0 xg1_0 bg1_1 lg1_1 Ag1_1 cg1_1 bg1_2 xg1_2 hBg1_0 hRg1_1 hLg1_1 hBg1_1 hBg1_2) hq2 (fun a hF => ⟨hS, hF.weaken ⟨by kernel_rfl, by kernel_rfl, by kernel_rfl, trivial⟩⟩) (fun s o hf a w hA Q hQ => pr_least_1_r0 K w0 x0 bg1_0 xg1_0 bg1_1 lg1_1 Ag1_1 cg1_1 bg1_2 xg1_2 hBg1_0 hRg1_1 hLg1_1 hBg1_1 hBg1_2 s o hf a w hA Q hQ) ?_
    rintro _ a w1 _ ⟨rfl, hb⟩
    obtain rfl := Option.some.inj h
    exact hb

/-! punctual/punctualref.TwoResponses -/
abbrev pr_TwoResponses.Post (w0 : World) (r : (List Int) × (List Int) × SFault) (e : Ending) (w : World) : Prop := ∃ (v0 : Value) (v1 : Value), e = .returned (.tuple #[v0, v1, .agg #[.int .i64 r.2.2.Code, .int .i64 r.2.2.At]]) ∧ St w0 w [Own.of v0 3 r.1, Own.of v1 3 r.2.1]
def pr_TwoResponses.r0 (K : Nat) (l0 : List SCrit) : (List Int) × (List Int) × Nat → Option (((List Int) × (List Int) × Nat) ⊕ (((List Int) × (List Int)) ⊕ ((List Int) × (List Int) × SFault)))
  | (m1, m2, i1) =>
    if (i1 : Int) < (l0.length : Int) then
      match l0[i1]? with
      | none => none
      | some e1 =>
        match pr_least.f K e1.D e1 l0 with
        | none => none
        | some r2 =>
          if e1.High = true then
            match pr_least_1.f K e1.D e1 l0 r2 with
            | none => none
            | some r3 =>
              if r2 = 0 then
                some (.inr (.inr (([] : List Int), ([] : List Int), (pr_F.f 13 (i1 : Int)))))
              else
                if r3 = 0 then
                  some (.inr (.inr (([] : List Int), ([] : List Int), (pr_F.f 13 (i1 : Int)))))
                else
                  if m1.length < 17592186044416 then
                    if m2.length < 17592186044416 then
                      some (.inl ((m1 ++ [r2]), (m2 ++ [r3]), (i1 + 1)))
                    else
                      none
                  else
                    none
          else
            if r2 = 0 then
              some (.inr (.inr (([] : List Int), ([] : List Int), (pr_F.f 13 (i1 : Int)))))
            else
              if m1.length < 17592186044416 then
                if m2.length < 17592186044416 then
                  some (.inl ((m1 ++ [r2]), (m2 ++ [0]), (i1 + 1)))
                else
                  none
              else
                none
    else
      some (.inr (.inl (m1, m2)))
def pr_TwoResponses.f (K : Nat) (l0 : List SCrit) : Option ((List Int) × (List Int) × SFault) :=
  match pr_CheckCrit.f K l0 with
  | none => none
  | some r1 =>
    if r1.Code = 0 then
      match iter (pr_TwoResponses.r0 K l0) K (([] : List Int), ([] : List Int), 0) with
      | none => none
      | some (.inl (m5, m6)) =>
        some (m5, m6, (⟨0, 0⟩ : SFault))
      | some (.inr rr1) =>
        some rr1
    else
      some (([] : List Int), ([] : List Int), r1)
abbrev pr_TwoResponses.A0 (K : Nat) (w0 : World) (l0 : List SCrit) (A0 : Option Addr) (c0 : Nat) (hR0 : RdL w0 A0 l0) (hL0 : l0.length ≤ c0) (b1 : Nat) (b2 : Nat) (r1 : SFault) (b3 : Nat) (hc1 : r1.Code = 0) : ((List Int) × (List Int) × Nat) → Act → World → Prop := fun (s : (List Int) × (List Int) × Nat) a w => ∃ (v1 : Value) (v2 : Value), St w0 w [Own.blk b2 (.cells #[.int .i64 0, .int .i64 0] 31 (0, 0)), Own.blk b1 (.cells #[.slice A0 l0.length c0] 22 (0, 0)), Own.of v1 3 s.1, Own.of v2 3 s.2.1] ∧ Frm 57 a [(1, .pointer (some ⟨b1, 0, none⟩)), (2, v1), (3, v2), (4, .pointer (some ⟨b2, 0, none⟩)), (16, .slice A0 l0.length c0), (17, .int .i64 (l0.length : Int)), (18, .int .i64 (s.2.2 : Int))]
abbrev pr_TwoResponses.B0 (K : Nat) (w0 : World) (l0 : List SCrit) (A0 : Option Addr) (c0 : Nat) (hR0 : RdL w0 A0 l0) (hL0 : l0.length ≤ c0) (b1 : Nat) (b2 : Nat) (r1 : SFault) (b3 : Nat) (hc1 : r1.Code = 0) : (((List Int) × (List Int)) ⊕ ((List Int) × (List Int) × SFault)) → Exit → Act → World → Prop := Exits 0 (fun (s : (List Int) × (List Int)) a w => ∃ (v3 : Value) (v4 : Value), St w0 w [Own.blk b2 (.cells #[.int .i64 0, .int .i64 0] 31 (0, 0)), Own.of v3 3 s.1, Own.of v4 3 s.2] ∧ Frm 57 a [(2, v3), (3, v4), (4, .pointer (some ⟨b2, 0, none⟩))]) (Rets Tryd.prog Tryd.f11 (pr_TwoResponses.Post w0))
theorem pr_TwoResponses_r0 (K : Nat) (w0 : World) (l0 : List SCrit) (A0 : Option Addr) (c0 : Nat) (hR0 : RdL w0 A0 l0) (hL0 : l0.length ≤ c0) (b1 : Nat) (b2 : Nat) (r1 : SFault) (b3 : Nat) (hc1 : r1.Code = 0) (s : (List Int) × (List Int) × Nat) (o : ((List Int) × (List Int) × Nat) ⊕ (((List Int) × (List Int)) ⊕ ((List Int) × (List Int) × SFault))) (h : pr_TwoResponses.r0 K l0 s = some o) (a : Act) (w : World) (hA : pr_TwoResponses.A0 K w0 l0 A0 c0 hR0 hL0 b1 b2 r1 b3 hc1 s a w) (Q : Exit → Act → World → Prop) (hQ : ∀ x a w, Outs (pr_TwoResponses.A0 K w0 l0 A0 c0 hR0 hL0 b1 b2 r1 b3 hc1) (pr_TwoResponses.B0 K w0 l0 A0 c0 hR0 hL0 b1 b2 r1 b3 hc1) o x a w → Q x a w) : (subF Tryd.f11 [1, 1, 0, 1, 0, 0]).wp Tryd.prog Q a w := by
  obtain ⟨m1, m2, i1⟩ := s
  obtain ⟨v1, v2, hS, hF⟩ := hA
  replace hS : St w0 w [Own.blk b2 (.cells #[.int .i64 0, .int .i64 0] 31 (0, 0)), Own.blk b1 (.cells #[.slice A0 l0.length c0] 22 (0, 0)), Own.of v1 3 m1, Own.of v2 3 m2] := hS
  simp only [pr_TwoResponses.r0] at h
  refine (?_ : WE Tryd.prog 57 (subF Tryd.f11 [1, 1, 0, 1, 0, 0]) Q [(1, .pointer (some ⟨b1, 0, none⟩)), (2, v1), (3, v2), (4, .pointer (some ⟨b2, 0, none⟩)), (16, .slice A0 l0.length c0), (17, .int .i64 (l0.length : Int)), (18, .int .i64 (i1 : Int))] w) a hF
  clear hF a
  refine we_seq fun K7 hK7 => ?_
  refine we_region [(0, 0)] rfl ?_
  refine ge_batch [0] (ans := []) (vs := [(19, .bool (decide ((i1 : Int) < (l0.length : Int))))]) (l := []) (by kernel_rfl) trivial ?_
  refine ge_nil fun a hF => hK7 _ _ ?_ a hF
  refine we_seq fun K8 hK8 => ?_
  by_cases hc2 : (i1 : Int) < (l0.length : Int)
  · rw [if_pos hc2] at h
    refine we_known (t := 19) (b := decide ((i1 : Int) < (l0.length : Int))) (v := true) (by kernel_rfl) (decide_eq_true hc2) ?_
    refine we_true (by kernel_rfl) ?_
    refine we_skip fun a hF => hK8 _ _ ?_ a hF
    refine we_seq fun K9 hK9 => ?_
    refine we_block ?_
    refine we_seq fun K10 hK10 => ?_
    refine we_region [(0, 0), (1, 0), (2, 0), (3, 1), (4, 0), (5, 2)] rfl ?_
    refine ge_batch [0] (ans := []) (vs := [(20, .int .i64 (i1 : Int))]) (l := []) (by kernel_rfl) trivial ?_
    rcases hx4 : l0[i1]? with _ | e1
    · rw [hx4] at h; cases h
    rw [hx4] at h
    simp only [] at h
    refine ge_index (d := 21) (ty := 0) (t := 22) (el := 27) (sz := 6) (m := l0.length) (c := c0) (x := (.tmp 16)) (y := (.tmp 18)) (A := A0) (k' := .i64) (j := (i1 : Int)) (jn := i1) (b0 := blkOf A0) (o0 := offOf A0) (by kernel_rfl) (by kernel_rfl) (by kernel_rfl) (by kernel_rfl) (by kernel_rfl) ((hS.rd hR0).eqSome (pos_of_get hx4)) rfl (lt_of_get hx4) ?_
    refine ge_batch [2] (ans := [.val (.int .i64 e1.C), .val (.int .i64 e1.H), .val (.int .i64 e1.T), .val (.int .i64 e1.D), .val (.bool e1.High), .val (.int .i64 e1.P)]) (vs := [(22, .agg #[.int .i64 e1.C, .int .i64 e1.H, .int .i64 e1.T, .int .i64 e1.D, .bool e1.High, .int .i64 e1.P])]) (l := [.loaded ⟨blkOf A0, offOf A0 + i1 * 6, none⟩ (.int .i64 e1.C), .loaded ⟨blkOf A0, offOf A0 + i1 * 6 + 1, none⟩ (.int .i64 e1.H), .loaded ⟨blkOf A0, offOf A0 + i1 * 6 + 2, none⟩ (.int .i64 e1.T), .loaded ⟨blkOf A0, offOf A0 + i1 * 6 + 3, none⟩ (.int .i64 e1.D), .loaded ⟨blkOf A0, offOf A0 + i1 * 6 + 4, none⟩ (.bool e1.High), .loaded ⟨blkOf A0, offOf A0 + i1 * 6 + 5, none⟩ (.int .i64 e1.P)]) (by kernel_rfl) ⟨RdL.cell (j := 0) (hS.rd hR0) hx4 rfl, RdL.cell (j := 1) (hS.rd hR0) hx4 rfl, RdL.cell (j := 2) (hS.rd hR0) hx4 rfl, RdL.cell (j := 3) (hS.rd hR0) hx4 rfl, RdL.cell (j := 4) (hS.rd hR0) hx4 rfl, RdL.cell (j := 5) (hS.rd hR0) hx4 rfl, trivial⟩ ?_
    refine ge_new (d := some 7) (o := .cells #[.int .i64 0, .int .i64 0, .int .i64 0, .int .i64 0, .bool false, .int .i64 0] 27) (v := fun b => .pointer (some ⟨b, 0, none⟩)) hS (fun b => by kernel_rfl) fun b4 w6 hx5 hS15 => ?_
    refine ge_batch [4] (ans := []) (vs := [(6, .int .i64 (i1 : Int))]) (l := []) (by kernel_rfl) trivial ?_
    refine ge_set (b := b4) (j := 0) (cs := #[.int .i64 0, .int .i64 0, .int .i64 0, .int .i64 0, .bool false, .int .i64 0]) (t := 27) (vs := [.int .i64 e1.C, .int .i64 e1.H, .int .i64 e1.T, .int .i64 e1.D, .bool e1.High, .int .i64 e1.P]) hS15 (by kernel_rfl) rfl rfl fun w7 hS16 => ?_
    have hS17 := hS16.nc #[.int .i64 e1.C, .int .i64 e1.H, .int .i64 e1.T, .int .i64 e1.D, .bool e1.High, .int .i64 e1.P] (by kernel_rfl)
    refine ge_nil fun a hF => hK10 _ _ ?_ a hF
    refine we_seq fun K11 hK11 => ?_
    refine we_region [(0, 0), (1, 0), (2, 0), (3, 1), (4, 1), (5, 2)] rfl ?_
    rcases hq2 : pr_least.f K e1.D e1 l0 with _ | r2
    · rw [hq2] at h; cases h
    rw [hq2] at h
    simp only [] at h
    refine ge_batch [0, 1, 2] (ans := [.val (.int .i64 e1.D)]) (vs := [(25, .func (.func 41) #[] #[.pointer (some ⟨b4, 0, none⟩), .pointer (some ⟨b1, 0, none⟩)]), (24, .int .i64 e1.D), (23, .pointer (some ⟨b4, 3, none⟩))]) (l := [.loaded ⟨b4, 3, none⟩ (.int .i64 e1.D)]) (by kernel_rfl) ⟨hS17.cell 0 rfl rfl, trivial⟩ ?_
    refine ge_call (d := some 26) (f := 40) (args := #[.int .i64 e1.D, .func (.func 41) #[] #[.pointer (some ⟨b4, 0, none⟩), .pointer (some ⟨b1, 0, none⟩)]]) (by kernel_rfl) (pr_least_ok K e1.D b4 e1 b1 l0 A0 c0 _ (hS17.globOf 0 rfl) (hS17.rd hR0) hL0 (hS17.globOf 2 rfl) _ hq2) ?_
    rintro _ w8 ⟨rfl, hS18⟩
    refine ⟨_, rfl, hS18.below, ?_⟩
    have hS19 := hS17.call hS18
    refine ge_new (d := some 8) (o := .cells #[.int .i64 0] 3) (v := fun b => .pointer (some ⟨b, 0, none⟩)) hS19 (fun b => by kernel_rfl) fun b5 w9 hx6 hS20 => ?_
    refine ge_set (b := b5) (j := 0) (cs := #[.int .i64 0]) (t := 3) (vs := [.int .i64 r2]) hS20 (by kernel_rfl) rfl rfl fun w10 hS21 => ?_
    have hS22 := hS21.nc #[.int .i64 r2] (by kernel_rfl)
    refine ge_nil fun a hF => hK11 _ _ ?_ a hF
    refine we_seq fun K12 hK12 => ?_
    refine we_region [(0, 0)] rfl ?_
    refine ge_batch [0] (ans := []) (vs := [(9, .int .i64 0)]) (l := []) (by kernel_rfl) trivial ?_
    refine ge_nil fun a hF => hK12 _ _ ?_ a hF
    refine we_seq fun K13 hK13 => ?_
    refine we_seq fun K14 hK14 => ?_
    refine we_region [(0, 0), (1, 0)] rfl ?_
    refine ge_batch [0, 1] (ans := [.val (.bool e1.High)]) (vs := [(28, .bool e1.High), (27, .pointer (some ⟨b4, 4, none⟩))]) (l := [.loaded ⟨b4, 4, none⟩ (.bool e1.High)]) (by kernel_rfl) ⟨hS22.cell 1 rfl rfl, trivial⟩ ?_
    refine ge_nil fun a hF => hK14 _ _ ?_ a hF
    by_cases hc3 : e1.High = true
    · rw [if_pos hc3] at h
      refine we_known (t := 28) (b := e1.High) (v := true) (by kernel_rfl) hc3 ?_
      refine we_true (by kernel_rfl) ?_
      refine we_region [(0, 0), (1, 0), (2, 0), (3, 1), (4, 0)] rfl ?_
      rcases hq3 : pr_least_1.f K e1.D e1 l0 r2 with _ | r3
      · rw [hq3] at h; cases h
      rw [hq3] at h
      simp only [] at h
      refine ge_batch [0, 1, 2] (ans := [.val (.int .i64 e1.D)]) (vs := [(31, .func (.func 43) #[] #[.pointer (some ⟨b4, 0, none⟩), .pointer (some ⟨b1, 0, none⟩), .pointer (some ⟨b5, 0, none⟩)]), (30, .int .i64 e1.D), (29, .pointer (some ⟨b4, 3, none⟩))]) (l := [.loaded ⟨b4, 3, none⟩ (.int .i64 e1.D)]) (by kernel_rfl) ⟨hS22.cell 1 rfl rfl, trivial⟩ ?_
      refine ge_call (d := some 32) (f := 40) (args := #[.int .i64 e1.D, .func (.func 43) #[] #[.pointer (some ⟨b4, 0, none⟩), .pointer (some ⟨b1, 0, none⟩), .pointer (some ⟨b5, 0, none⟩)]]) (by kernel_rfl) (pr_least_1_ok K e1.D b4 e1 b1 l0 A0 c0 b5 r2 _ (hS22.globOf 1 rfl) (hS22.rd hR0) hL0 (hS22.globOf 3 rfl) (hS22.globOf 0 rfl) _ hq3) ?_
      rintro _ w11 ⟨rfl, hS23⟩
      refine ⟨_, rfl, hS23.below, ?_⟩
      have hS24 := hS22.call hS23
      refine ge_batch [4] (ans := []) (vs := [(9, .int .i64 r3)]) (l := []) (by kernel_rfl) trivial ?_
      refine ge_nil fun a hF => hK13 _ _ ?_ a hF
      refine we_seq fun K15 hK15 => ?_
      refine we_seq fun K16 hK16 => ?_
      refine we_region [(0, 0), (1, 0), (2, 0), (3, 0), (4, 0), (5, 0), (6, 0), (7, 0), (8, 0), (9, 0)] rfl ?_
      refine ge_batch [0, 1, 2] (ans := [.val (.int .i64 r2)]) (vs := [(35, .bool (r2 == 0)), (34, .bool (r2 == 0)), (33, .int .i64 r2)]) (l := [.loaded ⟨b5, 0, none⟩ (.int .i64 r2)]) (by kernel_rfl) ⟨hS24.cell 0 rfl rfl, trivial⟩ ?_
      by_cases hc4 : r2 = 0
      · rw [if_pos hc4] at h
        refine ge_known (t := 35) (b := (r2 == 0)) (c := true) (by kernel_rfl) (beq_iff_eq.2 hc4) ?_
        refine ge_batch [3, 4, 5, 6, 7, 8, 9] (ans := []) (vs := [(42, .bool true), (41, undef), (40, undef), (39, undef), (38, undef), (37, undef), (36, undef)]) (l := []) (by kernel_rfl) trivial ?_
        refine ge_nil fun a hF => hK16 _ _ ?_ a hF
        refine we_true (by kernel_rfl) ?_
        refine we_seq fun K17 hK17 => ?_
        refine we_region [(0, 0), (1, 1), (2, 0), (3, 0), (4, 2)] rfl ?_
        refine ge_batch [0] (ans := []) (vs := [(43, .int .i64 (i1 : Int))]) (l := []) (by kernel_rfl) trivial ?_
        refine ge_call (d := some 44) (f := 44) (args := #[.int .i64 13, .int .i64 (i1 : Int)]) (by kernel_rfl) (pr_F_ok 13 (i1 : Int) _ _ rfl) ?_
        rintro _ w12 ⟨rfl, hS25⟩
        refine ⟨_, rfl, hS25.below, ?_⟩
        have hS26 := hS24.call hS25
        refine ge_batch [2, 3] (ans := []) (vs := [(3, .slice none 0 0), (2, .slice none 0 0)]) (l := []) (by kernel_rfl) trivial ?_
        have hS27 := hS26.bring 2 rfl
        refine ge_set (b := b2) (j := 0) (cs := #[.int .i64 0, .int .i64 0]) (t := 31) (vs := [.int .i64 ((pr_F.f 13 (i1 : Int)).Code), .int .i64 ((pr_F.f 13 (i1 : Int)).At)]) hS27 (by kernel_rfl) rfl rfl fun w13 hS28 => ?_
        have hS29 := hS28.nc #[.int .i64 ((pr_F.f 13 (i1 : Int)).Code), .int .i64 ((pr_F.f 13 (i1 : Int)).At)] (by kernel_rfl)
        refine ge_nil fun a hF => hK17 _ _ ?_ a hF
        have hS30 := hS29.nil (α := Int) 3
        have hS31 := hS30.nil (α := Int) 3
        have hS32 := hS31.bring 1 rfl
        have hS33 := hS32.bring 1 rfl
        have hS34 := hS33.takeN 2
        obtain rfl := Option.some.inj h
        exact we_ret fun a hF => hQ _ _ _ (Outs.out nofun (Exits.on ⟨rfl, (post_ret (rs := [.tmp 2, .tmp 3, .cell 4 31]) (ans := [.val (.int .i64 ((pr_F.f 13 (i1 : Int)).Code)), .val (.int .i64 ((pr_F.f 13 (i1 : Int)).At))]) (vs := [(.slice none 0 0), (.slice none 0 0), .agg #[.int .i64 ((pr_F.f 13 (i1 : Int)).Code), .int .i64 ((pr_F.f 13 (i1 : Int)).At)]]) (l := [.loaded ⟨b2, 0, none⟩ (.int .i64 ((pr_F.f 13 (i1 : Int)).Code)), .loaded ⟨b2, 1, none⟩ (.int .i64 ((pr_F.f 13 (i1 : Int)).At))]) rfl (by kernel_rfl) ⟨hS31.cell 2 rfl rfl, hS31.cell 2 rfl rfl, trivial⟩ ⟨(.slice none 0 0), (.slice none 0 0), rfl, hS34⟩) a hF⟩))
      · rw [if_neg hc4] at h
        refine ge_known (t := 35) (b := (r2 == 0)) (c := false) (by kernel_rfl) (beq_eq_false_iff_ne.2 hc4) ?_
        refine ge_batch [3, 4, 5] (ans := [.val (.bool e1.High)]) (vs := [(38, .bool e1.High), (37, .bool e1.High), (36, .pointer (some ⟨b4, 4, none⟩))]) (l := [.loaded ⟨b4, 4, none⟩ (.bool e1.High)]) (by kernel_rfl) ⟨hS24.cell 1 rfl rfl, trivial⟩ ?_
        refine ge_known (t := 38) (b := e1.High) (c := true) (by kernel_rfl) hc3 ?_
        refine ge_batch [6, 7, 8, 9] (ans := []) (vs := [(42, .bool (r3 == 0)), (41, .bool (r3 == 0)), (40, .bool (r3 == 0)), (39, .int .i64 r3)]) (l := []) (by kernel_rfl) trivial ?_
        refine ge_nil fun a hF => hK16 _ _ ?_ a hF
        by_cases hc5 : r3 = 0
        · rw [if_pos hc5] at h
          refine we_known (t := 42) (b := (r3 == 0)) (v := true) (by kernel_rfl) (beq_iff_eq.2 hc5) ?_
          refine we_true (by kernel_rfl) ?_
          refine we_seq fun K18 hK18 => ?_
          refine we_region [(0, 0), (1, 1), (2, 0), (3, 0), (4, 2)] rfl ?_
          refine ge_batch [0] (ans := []) (vs := [(43, .int .i64 (i1 : Int))]) (l := []) (by kernel_rfl) trivial ?_
          refine ge_call (d := some 44) (f := 44) (args := #[.int .i64 13, .int .i64 (i1 : Int)]) (by kernel_rfl) (pr_F_ok 13 (i1 : Int) _ _ rfl) ?_
          rintro _ w14 ⟨rfl, hS35⟩
          refine ⟨_, rfl, hS35.below, ?_⟩
          have hS36 := hS24.call hS35
          refine ge_batch [2, 3] (ans := []) (vs := [(3, .slice none 0 0), (2, .slice none 0 0)]) (l := []) (by kernel_rfl) trivial ?_
          have hS37 := hS36.bring 2 rfl
          refine ge_set (b := b2) (j := 0) (cs := #[.int .i64 0, .int .i64 0]) (t := 31) (vs := [.int .i64 ((pr_F.f 13 (i1 : Int)).Code), .int .i64 ((pr_F.f 13 (i1 : Int)).At)]) hS37 (by kernel_rfl) rfl rfl fun w15 hS38 => ?_
          have hS39 := hS38.nc #[.int .i64 ((pr_F.f 13 (i1 : Int)).Code), .int .i64 ((pr_F.f 13 (i1 : Int)).At)] (by kernel_rfl)
          refine ge_nil fun a hF => hK18 _ _ ?_ a hF
          have hS40 := hS39.nil (α := Int) 3
          have hS41 := hS40.nil (α := Int) 3
          have hS42 := hS41.bring 1 rfl
          have hS43 := hS42.bring 1 rfl
          have hS44 := hS43.takeN 2
          obtain rfl := Option.some.inj h
          exact we_ret fun a hF => hQ _ _ _ (Outs.out nofun (Exits.on ⟨rfl, (post_ret (rs := [.tmp 2, .tmp 3, .cell 4 31]) (ans := [.val (.int .i64 ((pr_F.f 13 (i1 : Int)).Code)), .val (.int .i64 ((pr_F.f 13 (i1 : Int)).At))]) (vs := [(.slice none 0 0), (.slice none 0 0), .agg #[.int .i64 ((pr_F.f 13 (i1 : Int)).Code), .int .i64 ((pr_F.f 13 (i1 : Int)).At)]]) (l := [.loaded ⟨b2, 0, none⟩ (.int .i64 ((pr_F.f 13 (i1 : Int)).Code)), .loaded ⟨b2, 1, none⟩ (.int .i64 ((pr_F.f 13 (i1 : Int)).At))]) rfl (by kernel_rfl) ⟨hS41.cell 2 rfl rfl, hS41.cell 2 rfl rfl, trivial⟩ ⟨(.slice none 0 0), (.slice none 0 0), rfl, hS44⟩) a hF⟩))
        · rw [if_neg hc5] at h
          refine we_known (t := 42) (b := (r3 == 0)) (v := false) (by kernel_rfl) (beq_eq_false_iff_ne.2 hc5) ?_
          refine we_false (by kernel_rfl) ?_
          refine we_skip fun a hF => hK15 _ _ ?_ a hF
          refine we_region [(0, 0), (1, 0), (2, 1), (3, 2), (4, 0), (5, 0), (6, 1), (7, 2), (8, 0), (9, 0)] rfl ?_
          refine ge_batch [0, 1] (ans := [.val (.int .i64 r2)]) (vs := [(46, .int .i64 r2), (45, v1)]) (l := [.loaded ⟨b5, 0, none⟩ (.int .i64 r2)]) (by kernel_rfl) ⟨hS24.cell 0 rfl rfl, trivial⟩ ?_
          refine ge_new (d := some 47) (o := .cells #[.int .i64 r2] 3) (v := fun b => .slice (some ⟨b, 0, none⟩) 1 1) hS24 (fun b => by kernel_rfl) fun b6 w16 hx7 hS45 => ?_
          have hS46 := hS45.bring 5 rfl
          by_cases hc6 : m1.length < 17592186044416
          · rw [if_pos hc6] at h
            refine ge_append (α := Int) (m := 0) (d := 48) (t := 28) (el := 3) (bytes := 8) (c1 := 1) (b1 := b6) (x := (.tmp 45)) (y := (.tmp 47)) (ty := 28) (v := v1) (z := .int .i64 0) (l := m1) (u := r2) (by kernel_rfl) (by kernel_rfl) (by kernel_rfl) (by kernel_rfl) (by kernel_rfl) rfl hS46 rfl (by omega) fun v5 w17 hS47 => ?_
            refine ge_batch [4, 5] (ans := []) (vs := [(50, .int .i64 r3), (49, v2)]) (l := []) (by kernel_rfl) trivial ?_
            refine ge_new (d := some 51) (o := .cells #[.int .i64 r3] 3) (v := fun b => .slice (some ⟨b, 0, none⟩) 1 1) hS47 (fun b => by kernel_rfl) fun b7 w18 hx8 hS48 => ?_
            have hS49 := hS48.bring 6 rfl
            by_cases hc7 : m2.length < 17592186044416
            · rw [if_pos hc7] at h
              refine ge_append (α := Int) (m := 0) (d := 52) (t := 28) (el := 3) (bytes := 8) (c1 := 1) (b1 := b7) (x := (.tmp 49)) (y := (.tmp 51)) (ty := 28) (v := v2) (z := .int .i64 0) (l := m2) (u := r3) (by kernel_rfl) (by kernel_rfl) (by kernel_rfl) (by kernel_rfl) (by kernel_rfl) rfl hS49 rfl (by omega) fun v6 w19 hS50 => ?_
              refine ge_batch [8, 9] (ans := []) (vs := [(3, v6), (2, v5)]) (l := []) (by kernel_rfl) trivial ?_
              refine ge_nil fun a hF => hK9 _ _ ?_ a hF
              refine we_region [(0, 0), (1, 0)] rfl ?_
              refine ge_addn (d := 53) (ty := 3) (x := (.tmp 18)) (y := (.const (.int .i64 1))) (t := 3) (t2 := 3) (k := .i64) (m := i1) (by kernel_rfl) (by kernel_rfl) (by kernel_rfl) (by have h0 := hR0.small; omega) ?_
              refine ge_batch [1] (ans := []) (vs := [(18, .int .i64 ((i1 + 1 : Nat) : Int))]) (l := []) (by kernel_rfl) trivial ?_
              have hS51 := hS50.bring 1 rfl
              have hS52 := hS51.bring 5 rfl
              have hS53 := hS52.bring 5 rfl
              have hS54 := hS53.takeN 4
              obtain rfl := Option.some.inj h
              exact ge_nil fun a hF => hQ _ _ _ (Outs.again ⟨v5, v6, hS54, hF.weaken ⟨by kernel_rfl, by kernel_rfl, by kernel_rfl, by kernel_rfl, by kernel_rfl, by kernel_rfl, by kernel_rfl, trivial⟩⟩)
            · rw [if_neg hc7] at h
              cases h
          · rw [if_neg hc6] at h
            cases h
    · rw [if_neg hc3] at h
      refine we_known (t := 28) (b := e1.High) (v := false) (by kernel_rfl) (Bool.eq_false_iff.2 hc3) ?_
      refine we_false (by kernel_rfl) ?_
      refine we_skip fun a hF => hK13 _ _ ?_ a hF
      refine we_seq fun K19 hK19 => ?_
      refine we_seq fun K20 hK20 => ?_
      refine we_region [(0, 0), (1, 0), (2, 0), (3, 0), (4, 0), (5, 0), (6, 0), (7, 0), (8, 0), (9, 0)] rfl ?_
      refine ge_batch [0, 1, 2] (ans := [.val (.int .i64 r2)]) (vs := [(35, .bool (r2 == 0)), (34, .bool (r2 == 0)), (33, .int .i64 r2)]) (l := [.loaded ⟨b5, 0, none⟩ (.int .i64 r2)]) (by kernel_rfl) ⟨hS22.cell 0 rfl rfl, trivial⟩ ?_
      by_cases hc8 : r2 = 0
      · rw [if_pos hc8] at h
        refine ge_known (t := 35) (b := (r2 == 0)) (c := true) (by kernel_rfl) (beq_iff_eq.2 hc8) ?_
        refine ge_batch [3, 4, 5, 6, 7, 8, 9] (ans := []) (vs := [(42, .bool true), (41, undef), (40, undef), (39, undef), (38, undef), (37, undef), (36, undef)]) (l := []) (by kernel_rfl) trivial ?_
        refine ge_nil fun a hF => hK20 _ _ ?_ a hF
        refine we_true (by kernel_rfl) ?_
        refine we_seq fun K21 hK21 => ?_
        refine we_region [(0, 0), (1, 1), (2, 0), (3, 0), (4, 2)] rfl ?_
        refine ge_batch [0] (ans := []) (vs := [(43, .int .i64 (i1 : Int))]) (l := []) (by kernel_rfl) trivial ?_
        refine ge_call (d := some 44) (f := 44) (args := #[.int .i64 13, .int .i64 (i1 : Int)]) (by kernel_rfl) (pr_F_ok 13 (i1 : Int) _ _ rfl) ?_
        rintro _ w20 ⟨rfl, hS55⟩
        refine ⟨_, rfl, hS55.below, ?_⟩
        have hS56 := hS22.call hS55
        refine ge_batch [2, 3] (ans := []) (vs := [(3, .slice none 0 0), (2, .slice none 0 0)]) (l := []) (by kernel_rfl) trivial ?_
        have hS57 := hS56.bring 2 rfl
        refine ge_set (b := b2) (j := 0) (cs := #[.int .i64 0, .int .i64 0]) (t := 31) (vs := [.int .i64 ((pr_F.f 13 (i1 : Int)).Code), .int .i64 ((pr_F.f 13 (i1 : Int)).At)]) hS57 (by kernel_rfl) rfl rfl fun w21 hS58 => ?_
        have hS59 := hS58.nc #[.int .i64 ((pr_F.f 13 (i1 : Int)).Code), .int .i64 ((pr_F.f 13 (i1 : Int)).At)] (by kernel_rfl)
        refine ge_nil fun a hF => hK21 _ _ ?_ a hF
        have hS60 := hS59.nil (α := Int) 3
        have hS61 := hS60.nil (α := Int) 3
        have hS62 := hS61.bring 1 rfl
        have hS63 := hS62.bring 1 rfl
        have hS64 := hS63.takeN 2
        obtain rfl := Option.some.inj h
        exact we_ret fun a hF => hQ _ _ _ (Outs.out nofun (Exits.on ⟨rfl, (post_ret (rs := [.tmp 2, .tmp 3, .cell 4 31]) (ans := [.val (.int .i64 ((pr_F.f 13 (i1 : Int)).Code)), .val (.int .i64 ((pr_F.f 13 (i1 : Int)).At))]) (vs := [(.slice none 0 0), (.slice none 0 0), .agg #[.int .i64 ((pr_F.f 13 (i1 : Int)).Code), .int .i64 ((pr_F.f 13 (i1 : Int)).At)]]) (l := [.loaded ⟨b2, 0, none⟩ (.int .i64 ((pr_F.f 13 (i1 : Int)).Code)), .loaded ⟨b2, 1, none⟩ (.int .i64 ((pr_F.f 13 (i1 : Int)).At))]) rfl (by kernel_rfl) ⟨hS61.cell 2 rfl rfl, hS61.cell 2 rfl rfl, trivial⟩ ⟨(.slice none 0 0), (.slice none 0 0), rfl, hS64⟩) a hF⟩))
      · rw [if_neg hc8] at h
        refine ge_known (t := 35) (b := (r2 == 0)) (c := false) (by kernel_rfl) (beq_eq_false_iff_ne.2 hc8) ?_
        refine ge_batch [3, 4, 5] (ans := [.val (.bool e1.High)]) (vs := [(38, .bool e1.High), (37, .bool e1.High), (36, .pointer (some ⟨b4, 4, none⟩))]) (l := [.loaded ⟨b4, 4, none⟩ (.bool e1.High)]) (by kernel_rfl) ⟨hS22.cell 1 rfl rfl, trivial⟩ ?_
        refine ge_known (t := 38) (b := e1.High) (c := false) (by kernel_rfl) (Bool.eq_false_iff.2 hc3) ?_
        refine ge_batch [6, 7, 8, 9] (ans := []) (vs := [(42, .bool false), (41, .bool false), (40, undef), (39, undef)]) (l := []) (by kernel_rfl) trivial ?_
        refine ge_nil fun a hF => hK20 _ _ ?_ a hF
        refine we_false (by kernel_rfl) ?_
        refine we_skip fun a hF => hK19 _ _ ?_ a hF
        refine we_region [(0, 0), (1, 0), (2, 1), (3, 2), (4, 0), (5, 0), (6, 1), (7, 2), (8, 0), (9, 0)] rfl ?_
        refine ge_batch [0, 1] (ans := [.val (.int .i64 r2)]) (vs := [(46, .int .i64 r2), (45, v1)]) (l := [.loaded ⟨b5, 0, none⟩ (.int .i64 r2)]) (by kernel_rfl) ⟨hS22.cell 0 rfl rfl, trivial⟩ ?_
        refine ge_new (d := some 47) (o := .cells #[.int .i64 r2] 3) (v := fun b => .slice (some ⟨b, 0, none⟩) 1 1) hS22 (fun b => by kernel_rfl) fun b8 w22 hx9 hS65 => ?_
        have hS66 := hS65.bring 5 rfl
        by_cases hc9 : m1.length < 17592186044416
        · rw [if_pos hc9] at h
          refine ge_append (α := Int) (m := 0) (d := 48) (t := 28) (el := 3) (bytes := 8) (c1 := 1) (b1 := b8) (x := (.tmp 45)) (y := (.tmp 47)) (ty := 28) (v := v1) (z := .int .i64 0) (l := m1) (u := r2) (by kernel_rfl) (by kernel_rfl) (by kernel_rfl) (by kernel_rfl) (by kernel_rfl) rfl hS66 rfl (by omega) fun v7 w23 hS67 => ?_
          refine ge_batch [4, 5] (ans := []) (vs := [(50, .int .i64 0), (49, v2)]) (l := []) (by kernel_rfl) trivial ?_
          refine ge_new (d := some 51) (o := .cells #[.int .i64 0] 3) (v := fun b => .slice (some ⟨b, 0, none⟩) 1 1) hS67 (fun b => by kernel_rfl) fun b9 w24 hx10 hS68 => ?_
          have hS69 := hS68.bring 6 rfl
          by_cases hc10 : m2.length < 17592186044416
          · rw [if_pos hc10] at h
            refine ge_append (α := Int) (m := 0) (d := 52) (t := 28) (el := 3) (bytes := 8) (c1 := 1) (b1 := b9) (x := (.tmp 49)) (y := (.tmp 51)) (ty := 28) (v := v2) (z := .int .i64 0) (l := m2) (u := 0) (by kernel_rfl) (by kernel_rfl) (by kernel_rfl) (by kernel_rfl) (by kernel_rfl) rfl hS69 rfl (by omega) fun v8 w25 hS70 => ?_
            refine ge_batch [8, 9] (ans := []) (vs := [(3, v8), (2, v7)]) (l := []) (by kernel_rfl) trivial ?_
            refine ge_nil fun a hF => hK9 _ _ ?_ a hF
            refine we_region [(0, 0), (1, 0)] rfl ?_
            refine ge_addn (d := 53) (ty := 3) (x := (.tmp 18)) (y := (.const (.int .i64 1))) (t := 3) (t2 := 3) (k := .i64) (m := i1) (by kernel_rfl) (by kernel_rfl) (by kernel_rfl) (by have h0 := hR0.small; omega) ?_
            refine ge_batch [1] (ans := []) (vs := [(18, .int .i64 ((i1 + 1 : Nat) : Int))]) (l := []) (by kernel_rfl) trivial ?_
            have hS71 := hS70.bring 1 rfl
            have hS72 := hS71.bring 5 rfl
            have hS73 := hS72.bring 5 rfl
            have hS74 := hS73.takeN 4
            obtain rfl := Option.some.inj h
            exact ge_nil fun a hF => hQ _ _ _ (Outs.again ⟨v7, v8, hS74, hF.weaken ⟨by kernel_rfl, by kernel_rfl, by kernel_rfl, by kernel_rfl, by kernel_rfl, by kernel_rfl, by kernel_rfl, trivial⟩⟩)
          · rw [if_neg hc10] at h
            cases h
        · rw [if_neg hc9] at h
          cases h
  · rw [if_neg hc2] at h
    refine we_known (t := 19) (b := decide ((i1 : Int) < (l0.length : Int))) (v := false) (by kernel_rfl) (decide_eq_false hc2) ?_
    refine we_false (by kernel_rfl) ?_
    have hS75 := hS.bring 3 rfl
    have hS76 := hS75.bring 3 rfl
    have hS77 := hS76.bring 2 rfl
    have hS78 := hS77.takeN 3
    obtain rfl := Option.some.inj h
    exact we_exit fun a hF => hQ _ _ _ (Outs.out nofun (Exits.here ⟨v1, v2, hS78, hF.weaken ⟨by kernel_rfl, by kernel_rfl, by kernel_rfl, trivial⟩⟩))
theorem pr_TwoResponses_ok (K : Nat) (l0 : List SCrit) (A0 : Option Addr) (c0 : Nat) (w0 : World) (hR0 : RdL w0 A0 l0) (hL0 : l0.length ≤ c0) (r : (List Int) × (List Int) × SFault) (h : pr_TwoResponses.f K l0 = some r) :
    Calls Tryd.prog 11 #[.slice A0 l0.length c0] w0 (pr_TwoResponses.Post w0 r) := by
  have hS := St.start w0
  unfold pr_TwoResponses.f at h
  refine calls_enter (n := 57) (args := [.slice A0 l0.length c0]) (fn := Tryd.f11) rfl rfl rfl rfl ?_
  show WE _ _ _ _ [(0, .slice A0 l0.length c0)] _
  refine we_seq fun K1 hK1 => ?_
  refine we_region [(0, 1), (1, 0), (2, 0), (3, 1)] rfl ?_
  refine ge_new (d := some 1) (o := .cells #[.slice A0 l0.length c0] 22) (v := fun b => .pointer (some ⟨b, 0, none⟩)) hS (fun b => by kernel_rfl) fun b1 w1 hx1 hS1 => ?_
  refine ge_batch [1, 2] (ans := []) (vs := [(3, .slice none 0 0), (2, .slice none 0 0)]) (l := []) (by kernel_rfl) trivial ?_
  refine ge_new (d := some 4) (o := .cells #[.int .i64 0, .int .i64 0] 31) (v := fun b => .pointer (some ⟨b, 0, none⟩)) hS1 (fun b => by kernel_rfl) fun b2 w2 hx2 hS2 => ?_
  refine ge_nil fun a hF => hK1 _ _ ?_ a hF
  refine we_seq fun K2 hK2 => ?_
  refine we_seq fun K3 hK3 => ?_
  refine we_region [(0, 0), (1, 1), (2, 1), (3, 2)] rfl ?_
  rcases hq1 : pr_CheckCrit.f K l0 with _ | r1
  · rw [hq1] at h; cases h
  rw [hq1] at h
  simp only [] at h
  refine ge_batch [0] (ans := [.val (.slice A0 l0.length c0)]) (vs := [(10, .slice A0 l0.length c0)]) (l := [.loaded ⟨b1, 0, none⟩ (.slice A0 l0.length c0)]) (by kernel_rfl) ⟨hS2.cell 1 rfl rfl, trivial⟩ ?_
  refine ge_call (d := some 11) (f := 13) (args := #[.slice A0 l0.length c0]) (by kernel_rfl) (pr_CheckCrit_ok K l0 A0 c0 _ (hS2.rd hR0) hL0 _ hq1) ?_
  rintro _ w3 ⟨rfl, hS3⟩
  refine ⟨_, rfl, hS3.below, ?_⟩
  have hS4 := hS2.call hS3
  refine ge_new (d := some 5) (o := .cells #[.int .i64 0, .int .i64 0] 31) (v := fun b => .pointer (some ⟨b, 0, none⟩)) hS4 (fun b => by kernel_rfl) fun b3 w4 hx3 hS5 => ?_
  refine ge_set (b := b3) (j := 0) (cs := #[.int .i64 0, .int .i64 0]) (t := 31) (vs := [.int .i64 r1.Code, .int .i64 r1.At]) hS5 (by kernel_rfl) rfl rfl fun w5 hS6 => ?_
  have hS7 := hS6.nc #[.int .i64 r1.Code, .int .i64 r1.At] (by kernel_rfl)
  refine ge_nil fun a hF => hK3 _ _ ?_ a hF
  refine we_seq fun K4 hK4 => ?_
  refine we_region [(0, 0), (1, 0), (2, 0)] rfl ?_
  refine ge_batch [0, 1, 2] (ans := [.val (.int .i64 r1.Code)]) (vs := [(14, .bool (r1.Code != 0)), (13, .int .i64 r1.Code), (12, .pointer (some ⟨b3, 0, none⟩))]) (l := [.loaded ⟨b3, 0, none⟩ (.int .i64 r1.Code)]) (by kernel_rfl) ⟨hS7.cell 0 rfl rfl, trivial⟩ ?_
  refine ge_nil fun a hF => hK4 _ _ ?_ a hF
  by_cases hc1 : r1.Code = 0
  · rw [if_pos hc1] at h
    refine we_known (t := 14) (b := (r1.Code != 0)) (v := false) (by kernel_rfl) (bne_eq_false_iff_eq.2 hc1) ?_
    refine we_false (by kernel_rfl) ?_
    refine we_skip fun a hF => hK2 _ _ ?_ a hF
    refine we_seq fun K5 hK5 => ?_
    refine we_seq fun K6 hK6 => ?_
    refine we_region [(0, 0), (1, 0), (2, 0)] rfl ?_
    refine ge_batch [0, 1, 2] (ans := [.val (.slice A0 l0.length c0)]) (vs := [(18, .int .i64 0), (17, .int .i64 (l0.length : Int)), (16, .slice A0 l0.length c0)]) (l := [.loaded ⟨b1, 0, none⟩ (.slice A0 l0.length c0)]) (by kernel_rfl) ⟨hS7.cell 2 rfl rfl, trivial⟩ ?_
    refine ge_nil fun a hF => hK6 _ _ ?_ a hF
    refine we_block ?_
    have hS8 := hS7.nil (α := Int) 3
    have hS9 := hS8.nil (α := Int) 3
    have hS10 := hS9.bring 1 rfl
    have hS11 := hS10.bring 1 rfl
    have hS12 := hS11.bring 4 rfl
    have hS13 := hS12.bring 4 rfl
    have hS14 := hS13.takeN 4
    rcases hq7 : iter (pr_TwoResponses.r0 K l0) K (([] : List Int), ([] : List Int), 0) with _ | (⟨m5, m6⟩ | rr1)
    · rw [hq7] at h; cases h
    · rw [hq7] at h
      simp only [] at h
      refine we_iter (A := pr_TwoResponses.A0 K w0 l0 A0 c0 hR0 hL0 b1 b2 r1 b3 hc1) (B := pr_TwoResponses.B0 K w0 l0 A0 c0 hR0 hL0 b1 b2 r1 b3 hc1) hq7 (fun a hF => ⟨(.slice none 0 0), (.slice none 0 0), hS14, hF.weaken ⟨by kernel_rfl, by kernel_rfl, by kernel_rfl, by kernel_rfl, by kernel_rfl, by kernel_rfl, by kernel_rfl, trivial⟩⟩) (fun s o hf a w hA Q hQ => pr_TwoResponses_r0 K w0 l0 A0 c0 hR0 hL0 b1 b2 r1 b3 hc1 s o hf a w hA Q hQ) ?_
      rintro _ a w26 _ ⟨rfl, v9, v10, hS79, hF⟩
      replace hS79 : St w0 w26 [Own.blk b2 (.cells #[.int .i64 0, .int .i64 0] 31 (0, 0)), Own.of v9 3 m5, Own.of v10 3 m6] := hS79
      refine hK5 [(2, v9), (3, v10), (4, .pointer (some ⟨b2, 0, none⟩))] w26 ?_ a hF
      refine we_seq fun K22 hK22 => ?_
      refine we_region [(0, 0), (1, 0), (2, 0), (3, 0), (4, 0), (5, 2)] rfl ?_
      refine ge_batch [0, 1, 2, 3, 4] (ans := []) (vs := [(3, v10), (2, v9), (56, .agg #[.int .i64 0, .int .i64 0]), (55, v10), (54, v9)]) (l := []) (by kernel_rfl) trivial ?_
      refine ge_set (b := b2) (j := 0) (cs := #[.int .i64 0, .int .i64 0]) (t := 31) (vs := [.int .i64 0, .int .i64 0]) hS79 (by kernel_rfl) rfl rfl fun w27 hS80 => ?_
      have hS81 := hS80.nc #[.int .i64 0, .int .i64 0] (by kernel_rfl)
      refine ge_nil fun a hF => hK22 _ _ ?_ a hF
      have hS82 := hS81.bring 2 rfl
      have hS83 := hS82.bring 2 rfl
      have hS84 := hS83.takeN 2
      obtain rfl := Option.some.inj h
      exact we_ret (post_ret (rs := [.tmp 2, .tmp 3, .cell 4 31]) (ans := [.val (.int .i64 0), .val (.int .i64 0)]) (vs := [v9, v10, .agg #[.int .i64 0, .int .i64 0]]) (l := [.loaded ⟨b2, 0, none⟩ (.int .i64 0), .loaded ⟨b2, 1, none⟩ (.int .i64 0)]) rfl (by kernel_rfl) ⟨hS81.cell 0 rfl rfl, hS81.cell 0 rfl rfl, trivial⟩ ⟨v9, v10, rfl, hS84⟩)
    · rw [hq7] at h
      simp only [] at h
      refine we_iter (A := pr_TwoResponses.A0 K w0 l0 A0 c0 hR0 hL0 b1 b2 r1 b3 hc1) (B := pr_TwoResponses.B0 K w0 l0 A0 c0 hR0 hL0 b1 b2 r1 b3 hc1) hq7 (fun a hF => ⟨(.slice none 0 0), (.slice none 0 0), hS14, hF.weaken ⟨by kernel_rfl, by kernel_rfl, by kernel_rfl, by kernel_rfl, by kernel_rfl, by kernel_rfl, by kernel_rfl, trivial⟩⟩) (fun s o hf a w hA Q hQ => pr_TwoResponses_r0 K w0 l0 A0 c0 hR0 hL0 b1 b2 r1 b3 hc1 s o hf a w hA Q hQ) ?_
      rintro _ a w1 _ ⟨rfl, hb⟩
      obtain rfl := Option.some.inj h
      exact hb
  · rw [if_neg hc1] at h
    refine we_known (t := 14) (b := (r1.Code != 0)) (v := true) (by kernel_rfl) (bne_iff_ne.2 hc1) ?_
    refine we_true (by kernel_rfl) ?_
    refine we_seq fun K23 hK23 => ?_
    refine we_draws (by kernel_rfl) [(0, 0), (1, 0), (2, 0), (3, 2)] (by kernel_rfl) ?_
    have hS85 := hS7.drew
    refine ge_batch [0, 1, 2] (ans := [.val (.int .i64 r1.Code), .val (.int .i64 r1.At)]) (vs := [(3, .slice none 0 0), (2, .slice none 0 0), (15, .agg #[.int .i64 r1.Code, .int .i64 r1.At])]) (l := [.loaded ⟨b3, 0, none⟩ (.int .i64 r1.Code), .loaded ⟨b3, 1, none⟩ (.int .i64 r1.At)]) (by kernel_rfl) ⟨hS85.cell 0 rfl rfl, hS85.cell 0 rfl rfl, trivial⟩ ?_
    have hS86 := hS85.bring 1 rfl
    refine ge_set (b := b2) (j := 0) (cs := #[.int .i64 0, .int .i64 0]) (t := 31) (vs := [.int .i64 r1.Code, .int .i64 r1.At]) hS86 (by kernel_rfl) rfl rfl fun w28 hS87 => ?_
    have hS88 := hS87.nc #[.int .i64 r1.Code, .int .i64 r1.At] (by kernel_rfl)
    refine ge_nil fun a hF => hK23 _ _ ?_ a hF
    have hS89 := hS88.nil (α := Int) 3
    have hS90 := hS89.nil (α := Int) 3
    have hS91 := hS90.bring 1 rfl
    have hS92 := hS91.bring 1 rfl
    have hS93 := hS92.takeN 2
    obtain rfl := Option.some.inj h
    exact we_ret (post_ret (rs := [.tmp 2, .tmp 3, .cell 4 31]) (ans := [.val (.int .i64 r1.Code), .val (.int .i64 r1.At)]) (vs := [(.slice none 0 0), (.slice none 0 0), .agg #[.int .i64 r1.Code, .int .i64 r1.At]]) (l := [.loaded ⟨b2, 0, none⟩ (.int .i64 r1.Code), .loaded ⟨b2, 1, none⟩ (.int .i64 r1.At)]) rfl (by kernel_rfl) ⟨hS90.cell 2 rfl rfl, hS90.cell 2 rfl rfl, trivial⟩ ⟨(.slice none 0 0), (.slice none 0 0), rfl, hS93⟩)
end Go.Proofs.YtchcdadpahakfaaDoor.GV
