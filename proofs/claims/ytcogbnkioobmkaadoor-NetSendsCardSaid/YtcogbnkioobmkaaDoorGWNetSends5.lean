/- Walks of single functions, written by a program of this work. -/
import Derived.Test.YtcogbnkioobmkaaDoorGWNetSends4
namespace Go.Proofs.YtcogbnkioobmkaaDoor.GV
open Go Go.RowKit
set_option linter.unusedVariables false
set_option linter.unusedSimpArgs false
set_option maxRecDepth 100000

/-! punctual/punctualref.PlayJobs -/
abbrev punctualref_PlayJobs.Post (w0 : World) (r : SPlayed × SFault) (e : Ending) (w : World) : Prop := ∃ (v0 : Value) (v1 : Value), e = .returned (.tuple #[.agg #[v0, v1], .agg #[.int .i64 r.2.Code, .int .i64 r.2.At]]) ∧ St w0 w [Own.of v0 3 r.1.Runs, Own.of v1 3 r.1.Ends]
def punctualref_PlayJobs.p0 (r1 : SFault) : Option ((Int × Int × (List Int) × (List Int)) ⊕ (SPlayed × SFault)) :=
    some (.inl (r1.Code, r1.At, ([] : List Int), ([] : List Int)))
def punctualref_PlayJobs.f (K : Nat) (l0 : List SJob) (x1 : Int) (x2 : Bool) (x3 : Int) : Option (SPlayed × SFault) :=
  match punctualref_CheckJobs.f K l0 with
  | none => none
  | some r1 =>
    if r1.Code = 0 then
      if x1 = 1 then
        if x3 < 0 then
          some ((⟨([] : List Int), ([] : List Int)⟩ : SPlayed), (punctualref_F.f 3 0))
        else
          if x3 > 20000 then
            some ((⟨([] : List Int), ([] : List Int)⟩ : SPlayed), (punctualref_F.f 3 0))
          else
            match punctualref_Played.f K l0 x1 x2 1 x3 with
            | none => none
            | some r2 =>
              match punctualref_One.f K r2.1 with
              | none => none
              | some r3 =>
                some ((⟨r3, r2.2⟩ : SPlayed), (⟨0, 0⟩ : SFault))
      else
        if x1 = 2 then
          if x3 < 0 then
            some ((⟨([] : List Int), ([] : List Int)⟩ : SPlayed), (punctualref_F.f 3 0))
          else
            if x3 > 20000 then
              some ((⟨([] : List Int), ([] : List Int)⟩ : SPlayed), (punctualref_F.f 3 0))
            else
              match punctualref_Played.f K l0 x1 x2 1 x3 with
              | none => none
              | some r4 =>
                match punctualref_One.f K r4.1 with
                | none => none
                | some r5 =>
                  some ((⟨r5, r4.2⟩ : SPlayed), (⟨0, 0⟩ : SFault))
        else
          some ((⟨([] : List Int), ([] : List Int)⟩ : SPlayed), (punctualref_F.f 6 0))
    else
      match punctualref_PlayJobs.p0 r1 with
      | none => none
      | some (.inl (z3, z4, m3, m4)) =>
        some ((⟨m3, m4⟩ : SPlayed), (⟨z3, z4⟩ : SFault))
      | some (.inr rr1) =>
        some rr1
abbrev punctualref_PlayJobs.A0 (K : Nat) (w0 : World) (l0 : List SJob) (A0 : Option Addr) (c0 : Nat) (x1 : Int) (x2 : Bool) (x3 : Int) (hR0 : RdL w0 A0 l0) (hL0 : l0.length ≤ c0) (b1 : Nat) (b2 : Nat) (r1 : SFault) (b3 : Nat) (hc1 : ¬ (r1.Code = 0)) : (Int × Int × (List Int) × (List Int)) → Act → World → Prop := fun (s : Int × Int × (List Int) × (List Int)) a w => ∃ (v5 : Value) (v6 : Value), St w0 w [Own.blk b2 (.cells #[.int .i64 s.1, .int .i64 s.2.1] 39 (0, 0)), Own.blk b1 (.cells #[v5, v6] 36 (0, 0)), Own.of v5 3 s.2.2.1, Own.of v6 3 s.2.2.2] ∧ Frm 49 a [(8, .pointer (some ⟨b1, 0, none⟩)), (9, .pointer (some ⟨b2, 0, none⟩))]
abbrev punctualref_PlayJobs.B0 (K : Nat) (w0 : World) (l0 : List SJob) (A0 : Option Addr) (c0 : Nat) (x1 : Int) (x2 : Bool) (x3 : Int) (hR0 : RdL w0 A0 l0) (hL0 : l0.length ≤ c0) (b1 : Nat) (b2 : Nat) (r1 : SFault) (b3 : Nat) (hc1 : ¬ (r1.Code = 0)) : (SPlayed × SFault) → Exit → Act → World → Prop := Rets Tryd.prog Tryd.f75 (punctualref_PlayJobs.Post w0)
theorem punctualref_PlayJobs_p0 (K : Nat) (w0 : World) (l0 : List SJob) (A0 : Option Addr) (c0 : Nat) (x1 : Int) (x2 : Bool) (x3 : Int) (hR0 : RdL w0 A0 l0) (hL0 : l0.length ≤ c0) (b1 : Nat) (b2 : Nat) (r1 : SFault) (b3 : Nat) (hc1 : ¬ (r1.Code = 0)) (o : (Int × Int × (List Int) × (List Int)) ⊕ (SPlayed × SFault)) (h : punctualref_PlayJobs.p0 r1 = some o) (w : World) (hS : St w0 w [Own.blk b3 (.cells #[.int .i64 r1.Code, .int .i64 r1.At] 39 (0, 0)), Own.blk b2 (.cells #[.int .i64 0, .int .i64 0] 39 (0, 0)), Own.blk b1 (.cells #[.slice none 0 0, .slice none 0 0] 36 (0, 0))]) (Q : Exit → Act → World → Prop) (hQ : ∀ x a w, Outs (punctualref_PlayJobs.A0 K w0 l0 A0 c0 x1 x2 x3 hR0 hL0 b1 b2 r1 b3 hc1) (punctualref_PlayJobs.B0 K w0 l0 A0 c0 x1 x2 x3 hR0 hL0 b1 b2 r1 b3 hc1) o x a w → Q x a w) : WE Tryd.prog 49 (subF Tryd.f75 [1, 0, 1, 1, 0, 0]) Q [(0, .slice A0 l0.length c0), (1, .int .i64 x1), (2, .bool x2), (3, .int .i64 x3), (8, .pointer (some ⟨b1, 0, none⟩)), (9, .pointer (some ⟨b2, 0, none⟩)), (10, .pointer (some ⟨b3, 0, none⟩)), (13, .slice A0 l0.length c0), (14, .agg #[.int .i64 r1.Code, .int .i64 r1.At]), (15, .pointer (some ⟨b3, 0, none⟩)), (16, .int .i64 r1.Code), (17, .bool true)] w := by
  simp only [punctualref_PlayJobs.p0] at h
  refine we_orders2 (by kernel_rfl) [(1, [⟨b3, 0, none⟩, ⟨b3, 1, none⟩])] (.vals [0] (.vals [1] (.alt 2 2 (.alt 3 2 .fin .nomore) .nomore))) (by kernel_rfl) ?_
  have hS99 := hS.drew
  refine go2_batch [0] (ans := []) (vs := [(18, .agg #[.slice none 0 0, .slice none 0 0])]) (l := []) (by kernel_rfl) trivial mem_nil ?_
  refine go2_batch [1] (ans := [.val (.int .i64 r1.Code), .val (.int .i64 r1.At)]) (vs := [(19, .agg #[.int .i64 r1.Code, .int .i64 r1.At])]) (l := [.loaded ⟨b3, 0, none⟩ (.int .i64 r1.Code), .loaded ⟨b3, 1, none⟩ (.int .i64 r1.At)]) (by kernel_rfl) ⟨hS99.cell 0 rfl rfl, hS99.cell 0 rfl rfl, trivial⟩ (mem_one (by kernel_rfl)) ?_
  refine go_alt2 (fun KK hKK => ?_) ?_
  · have hS100 := hS99.bring 2 rfl
    refine ge_set (b := b1) (j := 0) (cs := #[.slice none 0 0, .slice none 0 0]) (t := 36) (vs := [.slice none 0 0, .slice none 0 0]) hS100 (by kernel_rfl) rfl rfl fun w29 hS101 => ?_
    have hS102 : St w0 w29 [Own.blk b1 (.cells #[.slice none 0 0, .slice none 0 0] 36 (0, 0)), Own.blk b3 (.cells #[.int .i64 r1.Code, .int .i64 r1.At] 39 (0, 0)), Own.blk b2 (.cells #[.int .i64 0, .int .i64 0] 39 (0, 0))] := hS101
    refine ge_nil fun a hF => hKK _ _ (RS.of2 (l := [.loaded ⟨b3, 0, none⟩ (.int .i64 r1.Code), .loaded ⟨b3, 1, none⟩ (.int .i64 r1.At)]) (by kernel_rfl) ⟨hS99.cell 0 rfl rfl, hS99.cell 0 rfl rfl, trivial⟩ ⟨hS102.cell 1 rfl rfl, hS102.cell 1 rfl rfl, trivial⟩) ?_ a hF
    refine go_alt2 (fun KK hKK => ?_) ?_
    · have hS103 := hS102.bring 2 rfl
      refine ge_set (b := b2) (j := 0) (cs := #[.int .i64 0, .int .i64 0]) (t := 39) (vs := [.int .i64 r1.Code, .int .i64 r1.At]) hS103 (by kernel_rfl) rfl rfl fun w30 hS104 => ?_
      have hS105 : St w0 w30 [Own.blk b2 (.cells #[.int .i64 r1.Code, .int .i64 r1.At] 39 (0, 0)), Own.blk b1 (.cells #[.slice none 0 0, .slice none 0 0] 36 (0, 0)), Own.blk b3 (.cells #[.int .i64 r1.Code, .int .i64 r1.At] 39 (0, 0))] := hS104
      refine ge_nil fun a hF => hKK _ _ (RS.of2 (l := []) (by kernel_rfl) trivial trivial) ?_ a hF
      have hS106 := hS105.nil (α := Int) 3
      have hS107 := hS106.nil (α := Int) 3
      have hS108 := hS107.bring 1 rfl
      have hS109 := hS108.bring 1 rfl
      have hS110 := hS109.bring 3 rfl
      have hS111 := hS110.bring 3 rfl
      have hS112 := hS111.takeN 4
      obtain rfl := Option.some.inj h
      exact go_fin2 fun a hF => hQ _ _ _ (Outs.again ⟨(.slice none 0 0), (.slice none 0 0), hS112, hF.weaken ⟨by kernel_rfl, by kernel_rfl, trivial⟩⟩)
    exact go_nomore2
  exact go_nomore2
theorem punctualref_PlayJobs_ok (K : Nat) (l0 : List SJob) (A0 : Option Addr) (c0 : Nat) (x1 : Int) (x2 : Bool) (x3 : Int) (w0 : World) (hR0 : RdL w0 A0 l0) (hL0 : l0.length ≤ c0) (r : SPlayed × SFault) (h : punctualref_PlayJobs.f K l0 x1 x2 x3 = some r) :
    Calls Tryd.prog 75 #[.slice A0 l0.length c0, .int .i64 x1, .bool x2, .int .i64 x3] w0 (punctualref_PlayJobs.Post w0 r) := by
  have hS := St.start w0
  unfold punctualref_PlayJobs.f at h
  refine calls_enter (n := 49) (args := [.slice A0 l0.length c0, .int .i64 x1, .bool x2, .int .i64 x3]) (fn := Tryd.f75) rfl rfl rfl rfl ?_
  show WE _ _ _ _ [(0, .slice A0 l0.length c0), (1, .int .i64 x1), (2, .bool x2), (3, .int .i64 x3)] _
  refine we_seq fun K1 hK1 => ?_
  refine we_region [(0, 1), (1, 1)] rfl ?_
  refine ge_new (d := some 8) (o := .cells #[.slice none 0 0, .slice none 0 0] 36) (v := fun b => .pointer (some ⟨b, 0, none⟩)) hS (fun b => by kernel_rfl) fun b1 w1 hx1 hS1 => ?_
  refine ge_new (d := some 9) (o := .cells #[.int .i64 0, .int .i64 0] 39) (v := fun b => .pointer (some ⟨b, 0, none⟩)) hS1 (fun b => by kernel_rfl) fun b2 w2 hx2 hS2 => ?_
  refine ge_nil fun a hF => hK1 _ _ ?_ a hF
  refine we_seq fun K2 hK2 => ?_
  refine we_seq fun K3 hK3 => ?_
  refine we_region [(0, 0), (1, 1), (2, 1), (3, 2)] rfl ?_
  rcases hq1 : punctualref_CheckJobs.f K l0 with _ | r1
  · rw [hq1] at h; cases h
  rw [hq1] at h
  simp only [] at h
  refine ge_batch [0] (ans := []) (vs := [(13, .slice A0 l0.length c0)]) (l := []) (by kernel_rfl) trivial ?_
  refine ge_call (d := some 14) (f := 87) (args := #[.slice A0 l0.length c0]) (by kernel_rfl) (punctualref_CheckJobs_ok K l0 A0 c0 _ (hS2.rd hR0) hL0 _ hq1) ?_
  rintro _ w3 ⟨rfl, hS3⟩
  refine ⟨_, rfl, hS3.below, ?_⟩
  have hS4 := hS2.call hS3
  refine ge_new (d := some 10) (o := .cells #[.int .i64 0, .int .i64 0] 39) (v := fun b => .pointer (some ⟨b, 0, none⟩)) hS4 (fun b => by kernel_rfl) fun b3 w4 hx3 hS5 => ?_
  refine ge_set (b := b3) (j := 0) (cs := #[.int .i64 0, .int .i64 0]) (t := 39) (vs := [.int .i64 r1.Code, .int .i64 r1.At]) hS5 (by kernel_rfl) rfl rfl fun w5 hS6 => ?_
  have hS7 : St w0 w5 [Own.blk b3 (.cells #[.int .i64 r1.Code, .int .i64 r1.At] 39 (0, 0)), Own.blk b2 (.cells #[.int .i64 0, .int .i64 0] 39 (0, 0)), Own.blk b1 (.cells #[.slice none 0 0, .slice none 0 0] 36 (0, 0))] := hS6
  refine ge_nil fun a hF => hK3 _ _ ?_ a hF
  refine we_seq fun K4 hK4 => ?_
  refine we_region [(0, 0), (1, 0), (2, 0)] rfl ?_
  refine ge_batch [0, 1, 2] (ans := [.val (.int .i64 r1.Code)]) (vs := [(17, .bool (r1.Code != 0)), (16, .int .i64 r1.Code), (15, .pointer (some ⟨b3, 0, none⟩))]) (l := [.loaded ⟨b3, 0, none⟩ (.int .i64 r1.Code)]) (by kernel_rfl) ⟨hS7.cell 0 rfl rfl, trivial⟩ ?_
  refine ge_nil fun a hF => hK4 _ _ ?_ a hF
  by_cases hc1 : r1.Code = 0
  · rw [if_pos hc1] at h
    refine we_known (t := 17) (b := (r1.Code != 0)) (v := false) (by kernel_rfl) (bne_eq_false_iff_eq.2 hc1) ?_
    refine we_false (by kernel_rfl) ?_
    refine we_skip fun a hF => hK2 _ _ ?_ a hF
    refine we_seq fun K5 hK5 => ?_
    refine we_seq fun K6 hK6 => ?_
    refine we_region [(0, 0), (1, 0), (2, 0), (3, 0), (4, 0), (5, 0)] rfl ?_
    refine ge_batch [0, 1, 2] (ans := []) (vs := [(22, .bool (x1 != 1)), (21, .bool (x1 != 1)), (20, .int .i64 x1)]) (l := []) (by kernel_rfl) trivial ?_
    by_cases hc2 : x1 = 1
    · rw [if_pos hc2] at h
      refine ge_known (t := 22) (b := (x1 != 1)) (c := false) (by kernel_rfl) (bne_eq_false_iff_eq.2 hc2) ?_
      refine ge_batch [3, 4, 5] (ans := []) (vs := [(25, .bool false), (24, undef), (23, undef)]) (l := []) (by kernel_rfl) trivial ?_
      refine ge_nil fun a hF => hK6 _ _ ?_ a hF
      refine we_false (by kernel_rfl) ?_
      refine we_skip fun a hF => hK5 _ _ ?_ a hF
      refine we_seq fun K7 hK7 => ?_
      refine we_seq fun K8 hK8 => ?_
      refine we_region [(0, 0), (1, 0), (2, 0), (3, 0), (4, 0), (5, 0)] rfl ?_
      refine ge_batch [0, 1, 2] (ans := []) (vs := [(30, .bool (decide (x3 < 0))), (29, .bool (decide (x3 < 0))), (28, .int .i64 x3)]) (l := []) (by kernel_rfl) trivial ?_
      by_cases hc3 : x3 < 0
      · rw [if_pos hc3] at h
        refine ge_known (t := 30) (b := decide (x3 < 0)) (c := true) (by kernel_rfl) (decide_eq_true hc3) ?_
        refine ge_batch [3, 4, 5] (ans := []) (vs := [(33, .bool true), (32, undef), (31, undef)]) (l := []) (by kernel_rfl) trivial ?_
        refine ge_nil fun a hF => hK8 _ _ ?_ a hF
        refine we_true (by kernel_rfl) ?_
        refine we_seq fun K9 hK9 => ?_
        refine we_region [(0, 0), (1, 1), (2, 2), (3, 2)] rfl ?_
        refine ge_batch [0] (ans := []) (vs := [(34, .agg #[.slice none 0 0, .slice none 0 0])]) (l := []) (by kernel_rfl) trivial ?_
        refine ge_call (d := some 35) (f := 74) (args := #[.int .i64 3, .int .i64 0]) (by kernel_rfl) (punctualref_F_ok 3 0 _ _ rfl) ?_
        rintro _ w6 ⟨rfl, hS8⟩
        refine ⟨_, rfl, hS8.below, ?_⟩
        have hS9 := hS7.call hS8
        have hS10 := hS9.bring 2 rfl
        refine ge_set (b := b1) (j := 0) (cs := #[.slice none 0 0, .slice none 0 0]) (t := 36) (vs := [.slice none 0 0, .slice none 0 0]) hS10 (by kernel_rfl) rfl rfl fun w7 hS11 => ?_
        have hS12 : St w0 w7 [Own.blk b1 (.cells #[.slice none 0 0, .slice none 0 0] 36 (0, 0)), Own.blk b3 (.cells #[.int .i64 r1.Code, .int .i64 r1.At] 39 (0, 0)), Own.blk b2 (.cells #[.int .i64 0, .int .i64 0] 39 (0, 0))] := hS11
        have hS13 := hS12.bring 2 rfl
        refine ge_set (b := b2) (j := 0) (cs := #[.int .i64 0, .int .i64 0]) (t := 39) (vs := [.int .i64 ((punctualref_F.f 3 0).Code), .int .i64 ((punctualref_F.f 3 0).At)]) hS13 (by kernel_rfl) rfl rfl fun w8 hS14 => ?_
        have hS15 : St w0 w8 [Own.blk b2 (.cells #[.int .i64 ((punctualref_F.f 3 0).Code), .int .i64 ((punctualref_F.f 3 0).At)] 39 (0, 0)), Own.blk b1 (.cells #[.slice none 0 0, .slice none 0 0] 36 (0, 0)), Own.blk b3 (.cells #[.int .i64 r1.Code, .int .i64 r1.At] 39 (0, 0))] := hS14
        refine ge_nil fun a hF => hK9 _ _ ?_ a hF
        have hS16 := hS15.nil (α := Int) 3
        have hS17 := hS16.nil (α := Int) 3
        have hS18 := hS17.bring 1 rfl
        have hS19 := hS18.bring 1 rfl
        have hS20 := hS19.takeN 2
        obtain rfl := Option.some.inj h
        exact we_ret (post_ret (rs := [.cell 8 36, .cell 9 39]) (ans := [.val ((.slice none 0 0)), .val ((.slice none 0 0)), .val (.int .i64 ((punctualref_F.f 3 0).Code)), .val (.int .i64 ((punctualref_F.f 3 0).At))]) (vs := [.agg #[(.slice none 0 0), (.slice none 0 0)], .agg #[.int .i64 ((punctualref_F.f 3 0).Code), .int .i64 ((punctualref_F.f 3 0).At)]]) (l := [.loaded ⟨b1, 0, none⟩ ((.slice none 0 0)), .loaded ⟨b1, 1, none⟩ ((.slice none 0 0)), .loaded ⟨b2, 0, none⟩ (.int .i64 ((punctualref_F.f 3 0).Code)), .loaded ⟨b2, 1, none⟩ (.int .i64 ((punctualref_F.f 3 0).At))]) rfl (by kernel_rfl) ⟨hS17.cell 3 rfl rfl, hS17.cell 3 rfl rfl, hS17.cell 2 rfl rfl, hS17.cell 2 rfl rfl, trivial⟩ ⟨(.slice none 0 0), (.slice none 0 0), rfl, hS20⟩)
      · rw [if_neg hc3] at h
        refine ge_known (t := 30) (b := decide (x3 < 0)) (c := false) (by kernel_rfl) (decide_eq_false hc3) ?_
        refine ge_batch [3, 4, 5] (ans := []) (vs := [(33, .bool (decide (x3 > 20000))), (32, .bool (decide (x3 > 20000))), (31, .int .i64 x3)]) (l := []) (by kernel_rfl) trivial ?_
        refine ge_nil fun a hF => hK8 _ _ ?_ a hF
        by_cases hc4 : x3 > 20000
        · rw [if_pos hc4] at h
          refine we_known (t := 33) (b := decide (x3 > 20000)) (v := true) (by kernel_rfl) (decide_eq_true hc4) ?_
          refine we_true (by kernel_rfl) ?_
          refine we_seq fun K10 hK10 => ?_
          refine we_region [(0, 0), (1, 1), (2, 2), (3, 2)] rfl ?_
          refine ge_batch [0] (ans := []) (vs := [(34, .agg #[.slice none 0 0, .slice none 0 0])]) (l := []) (by kernel_rfl) trivial ?_
          refine ge_call (d := some 35) (f := 74) (args := #[.int .i64 3, .int .i64 0]) (by kernel_rfl) (punctualref_F_ok 3 0 _ _ rfl) ?_
          rintro _ w9 ⟨rfl, hS21⟩
          refine ⟨_, rfl, hS21.below, ?_⟩
          have hS22 := hS7.call hS21
          have hS23 := hS22.bring 2 rfl
          refine ge_set (b := b1) (j := 0) (cs := #[.slice none 0 0, .slice none 0 0]) (t := 36) (vs := [.slice none 0 0, .slice none 0 0]) hS23 (by kernel_rfl) rfl rfl fun w10 hS24 => ?_
          have hS25 : St w0 w10 [Own.blk b1 (.cells #[.slice none 0 0, .slice none 0 0] 36 (0, 0)), Own.blk b3 (.cells #[.int .i64 r1.Code, .int .i64 r1.At] 39 (0, 0)), Own.blk b2 (.cells #[.int .i64 0, .int .i64 0] 39 (0, 0))] := hS24
          have hS26 := hS25.bring 2 rfl
          refine ge_set (b := b2) (j := 0) (cs := #[.int .i64 0, .int .i64 0]) (t := 39) (vs := [.int .i64 ((punctualref_F.f 3 0).Code), .int .i64 ((punctualref_F.f 3 0).At)]) hS26 (by kernel_rfl) rfl rfl fun w11 hS27 => ?_
          have hS28 : St w0 w11 [Own.blk b2 (.cells #[.int .i64 ((punctualref_F.f 3 0).Code), .int .i64 ((punctualref_F.f 3 0).At)] 39 (0, 0)), Own.blk b1 (.cells #[.slice none 0 0, .slice none 0 0] 36 (0, 0)), Own.blk b3 (.cells #[.int .i64 r1.Code, .int .i64 r1.At] 39 (0, 0))] := hS27
          refine ge_nil fun a hF => hK10 _ _ ?_ a hF
          have hS29 := hS28.nil (α := Int) 3
          have hS30 := hS29.nil (α := Int) 3
          have hS31 := hS30.bring 1 rfl
          have hS32 := hS31.bring 1 rfl
          have hS33 := hS32.takeN 2
          obtain rfl := Option.some.inj h
          exact we_ret (post_ret (rs := [.cell 8 36, .cell 9 39]) (ans := [.val ((.slice none 0 0)), .val ((.slice none 0 0)), .val (.int .i64 ((punctualref_F.f 3 0).Code)), .val (.int .i64 ((punctualref_F.f 3 0).At))]) (vs := [.agg #[(.slice none 0 0), (.slice none 0 0)], .agg #[.int .i64 ((punctualref_F.f 3 0).Code), .int .i64 ((punctualref_F.f 3 0).At)]]) (l := [.loaded ⟨b1, 0, none⟩ ((.slice none 0 0)), .loaded ⟨b1, 1, none⟩ ((.slice none 0 0)), .loaded ⟨b2, 0, none⟩ (.int .i64 ((punctualref_F.f 3 0).Code)), .loaded ⟨b2, 1, none⟩ (.int .i64 ((punctualref_F.f 3 0).At))]) rfl (by kernel_rfl) ⟨hS30.cell 3 rfl rfl, hS30.cell 3 rfl rfl, hS30.cell 2 rfl rfl, hS30.cell 2 rfl rfl, trivial⟩ ⟨(.slice none 0 0), (.slice none 0 0), rfl, hS33⟩)
        · rw [if_neg hc4] at h
          refine we_known (t := 33) (b := decide (x3 > 20000)) (v := false) (by kernel_rfl) (decide_eq_false hc4) ?_
          refine we_false (by kernel_rfl) ?_
          refine we_skip fun a hF => hK7 _ _ ?_ a hF
          refine we_seq fun K11 hK11 => ?_
          refine we_region [(0, 0), (1, 0), (2, 0), (3, 0), (4, 1), (5, 0), (6, 0), (7, 0), (8, 0), (9, 0)] rfl ?_
          rcases hq4 : punctualref_Played.f K l0 x1 x2 1 x3 with _ | r2
          · rw [hq4] at h; cases h
          rw [hq4] at h
          simp only [] at h
          refine ge_batch [0, 1, 2, 3] (ans := []) (vs := [(40, .int .i64 x3), (39, .bool x2), (38, .int .i64 x1), (37, .slice A0 l0.length c0)]) (l := []) (by kernel_rfl) trivial ?_
          refine ge_call (d := some 41) (f := 88) (args := #[.slice A0 l0.length c0, .int .i64 x1, .bool x2, .int .i64 1, .int .i64 x3, .func (.func 135) #[] #[]]) (by kernel_rfl) (punctualref_Played_ok K l0 A0 c0 x1 x2 1 x3 _ (hS7.rd hR0) hL0 _ hq4) ?_
          rintro _ w12 ⟨y1, v1, rfl, hS34⟩
          refine ⟨_, rfl, hS34.below, ?_⟩
          have hS35 := hS7.call hS34
          refine ge_batch [5, 6, 7, 8, 9] (ans := []) (vs := [(12, v1), (11, (Rows.val y1)), (43, v1), (42, (Rows.val y1)), (36, .tuple #[(Rows.val y1), v1])]) (l := []) (by kernel_rfl) trivial ?_
          refine ge_nil fun a hF => hK11 _ _ ?_ a hF
          refine we_seq fun K12 hK12 => ?_
          refine we_region [(0, 0), (1, 1), (2, 0), (3, 0), (4, 0), (5, 2), (6, 2)] rfl ?_
          refine ge_batch [0] (ans := []) (vs := [(44, (Rows.val y1))]) (l := []) (by kernel_rfl) trivial ?_
          refine ge_same (t := 44) (v := (Rows.val y1)) (v' := .slice y1.A r2.1.length y1.c) (by kernel_rfl) (congrArg (fun z => Value.slice y1.A z y1.c) (hS35.nestAt 0 rfl).n) ?_
          rcases hq5 : punctualref_One.f K r2.1 with _ | r3
          · rw [hq5] at h; cases h
          rw [hq5] at h
          simp only [] at h
          refine ge_call (d := some 45) (f := 91) (args := #[.slice y1.A r2.1.length y1.c]) (by kernel_rfl) (punctualref_One_ok K r2.1 y1.hs y1.A y1.c _ (hS35.nestAt 0 rfl).rd (hS35.nestAt 0 rfl).cap (hS35.nestAt 0 rfl).nl _ hq5) ?_
          rintro _ w13 ⟨v2, rfl, hS36⟩
          refine ⟨_, rfl, hS36.below, ?_⟩
          have hS37 := hS35.call hS36
          refine ge_batch [2] (ans := []) (vs := [(46, v1)]) (l := []) (by kernel_rfl) trivial ?_
          obtain ⟨Z1, cz1, rfl⟩ := hS37.open 0 rfl
          obtain ⟨Z2, cz2, rfl⟩ := hS37.open 2 rfl
          refine ge_batch [3, 4] (ans := []) (vs := [(48, .agg #[.int .i64 0, .int .i64 0]), (47, .agg #[(.slice Z1 r3.length cz1), (.slice Z2 r2.2.length cz2)])]) (l := []) (by kernel_rfl) trivial ?_
          have hS38 := hS37.bring 5 rfl
          refine ge_set (b := b1) (j := 0) (cs := #[.slice none 0 0, .slice none 0 0]) (t := 36) (vs := [(.slice Z1 r3.length cz1), (.slice Z2 r2.2.length cz2)]) hS38 (by kernel_rfl) rfl rfl fun w14 hS39 => ?_
          have hS40 : St w0 w14 [Own.blk b1 (.cells #[(.slice Z1 r3.length cz1), (.slice Z2 r2.2.length cz2)] 36 (0, 0)), Own.of (.slice Z1 r3.length cz1) 3 r3, Own.nest y1 24 3 r2.1, Own.of (.slice Z2 r2.2.length cz2) 3 r2.2, Own.blk b3 (.cells #[.int .i64 r1.Code, .int .i64 r1.At] 39 (0, 0)), Own.blk b2 (.cells #[.int .i64 0, .int .i64 0] 39 (0, 0))] := hS39
          have hS41 := hS40.bring 5 rfl
          refine ge_set (b := b2) (j := 0) (cs := #[.int .i64 0, .int .i64 0]) (t := 39) (vs := [.int .i64 0, .int .i64 0]) hS41 (by kernel_rfl) rfl rfl fun w15 hS42 => ?_
          have hS43 : St w0 w15 [Own.blk b2 (.cells #[.int .i64 0, .int .i64 0] 39 (0, 0)), Own.blk b1 (.cells #[(.slice Z1 r3.length cz1), (.slice Z2 r2.2.length cz2)] 36 (0, 0)), Own.of (.slice Z1 r3.length cz1) 3 r3, Own.nest y1 24 3 r2.1, Own.of (.slice Z2 r2.2.length cz2) 3 r2.2, Own.blk b3 (.cells #[.int .i64 r1.Code, .int .i64 r1.At] 39 (0, 0))] := hS42
          refine ge_nil fun a hF => hK12 _ _ ?_ a hF
          have hS44 := hS43.bring 4 rfl
          have hS45 := hS44.bring 3 rfl
          have hS46 := hS45.takeN 2
          obtain rfl := Option.some.inj h
          exact we_ret (post_ret (rs := [.cell 8 36, .cell 9 39]) (ans := [.val ((.slice Z1 r3.length cz1)), .val ((.slice Z2 r2.2.length cz2)), .val (.int .i64 0), .val (.int .i64 0)]) (vs := [.agg #[(.slice Z1 r3.length cz1), (.slice Z2 r2.2.length cz2)], .agg #[.int .i64 0, .int .i64 0]]) (l := [.loaded ⟨b1, 0, none⟩ ((.slice Z1 r3.length cz1)), .loaded ⟨b1, 1, none⟩ ((.slice Z2 r2.2.length cz2)), .loaded ⟨b2, 0, none⟩ (.int .i64 0), .loaded ⟨b2, 1, none⟩ (.int .i64 0)]) rfl (by kernel_rfl) ⟨hS43.cell 1 rfl rfl, hS43.cell 1 rfl rfl, hS43.cell 0 rfl rfl, hS43.cell 0 rfl rfl, trivial⟩ ⟨(.slice Z1 r3.length cz1), (.slice Z2 r2.2.length cz2), rfl, hS46⟩)
    · rw [if_neg hc2] at h
      refine ge_known (t := 22) (b := (x1 != 1)) (c := true) (by kernel_rfl) (bne_iff_ne.2 hc2) ?_
      refine ge_batch [3, 4, 5] (ans := []) (vs := [(25, .bool (x1 != 2)), (24, .bool (x1 != 2)), (23, .int .i64 x1)]) (l := []) (by kernel_rfl) trivial ?_
      refine ge_nil fun a hF => hK6 _ _ ?_ a hF
      by_cases hc5 : x1 = 2
      · rw [if_pos hc5] at h
        refine we_known (t := 25) (b := (x1 != 2)) (v := false) (by kernel_rfl) (bne_eq_false_iff_eq.2 hc5) ?_
        refine we_false (by kernel_rfl) ?_
        refine we_skip fun a hF => hK5 _ _ ?_ a hF
        refine we_seq fun K13 hK13 => ?_
        refine we_seq fun K14 hK14 => ?_
        refine we_region [(0, 0), (1, 0), (2, 0), (3, 0), (4, 0), (5, 0)] rfl ?_
        refine ge_batch [0, 1, 2] (ans := []) (vs := [(30, .bool (decide (x3 < 0))), (29, .bool (decide (x3 < 0))), (28, .int .i64 x3)]) (l := []) (by kernel_rfl) trivial ?_
        by_cases hc6 : x3 < 0
        · rw [if_pos hc6] at h
          refine ge_known (t := 30) (b := decide (x3 < 0)) (c := true) (by kernel_rfl) (decide_eq_true hc6) ?_
          refine ge_batch [3, 4, 5] (ans := []) (vs := [(33, .bool true), (32, undef), (31, undef)]) (l := []) (by kernel_rfl) trivial ?_
          refine ge_nil fun a hF => hK14 _ _ ?_ a hF
          refine we_true (by kernel_rfl) ?_
          refine we_seq fun K15 hK15 => ?_
          refine we_region [(0, 0), (1, 1), (2, 2), (3, 2)] rfl ?_
          refine ge_batch [0] (ans := []) (vs := [(34, .agg #[.slice none 0 0, .slice none 0 0])]) (l := []) (by kernel_rfl) trivial ?_
          refine ge_call (d := some 35) (f := 74) (args := #[.int .i64 3, .int .i64 0]) (by kernel_rfl) (punctualref_F_ok 3 0 _ _ rfl) ?_
          rintro _ w16 ⟨rfl, hS47⟩
          refine ⟨_, rfl, hS47.below, ?_⟩
          have hS48 := hS7.call hS47
          have hS49 := hS48.bring 2 rfl
          refine ge_set (b := b1) (j := 0) (cs := #[.slice none 0 0, .slice none 0 0]) (t := 36) (vs := [.slice none 0 0, .slice none 0 0]) hS49 (by kernel_rfl) rfl rfl fun w17 hS50 => ?_
          have hS51 : St w0 w17 [Own.blk b1 (.cells #[.slice none 0 0, .slice none 0 0] 36 (0, 0)), Own.blk b3 (.cells #[.int .i64 r1.Code, .int .i64 r1.At] 39 (0, 0)), Own.blk b2 (.cells #[.int .i64 0, .int .i64 0] 39 (0, 0))] := hS50
          have hS52 := hS51.bring 2 rfl
          refine ge_set (b := b2) (j := 0) (cs := #[.int .i64 0, .int .i64 0]) (t := 39) (vs := [.int .i64 ((punctualref_F.f 3 0).Code), .int .i64 ((punctualref_F.f 3 0).At)]) hS52 (by kernel_rfl) rfl rfl fun w18 hS53 => ?_
          have hS54 : St w0 w18 [Own.blk b2 (.cells #[.int .i64 ((punctualref_F.f 3 0).Code), .int .i64 ((punctualref_F.f 3 0).At)] 39 (0, 0)), Own.blk b1 (.cells #[.slice none 0 0, .slice none 0 0] 36 (0, 0)), Own.blk b3 (.cells #[.int .i64 r1.Code, .int .i64 r1.At] 39 (0, 0))] := hS53
          refine ge_nil fun a hF => hK15 _ _ ?_ a hF
          have hS55 := hS54.nil (α := Int) 3
          have hS56 := hS55.nil (α := Int) 3
          have hS57 := hS56.bring 1 rfl
          have hS58 := hS57.bring 1 rfl
          have hS59 := hS58.takeN 2
          obtain rfl := Option.some.inj h
          exact we_ret (post_ret (rs := [.cell 8 36, .cell 9 39]) (ans := [.val ((.slice none 0 0)), .val ((.slice none 0 0)), .val (.int .i64 ((punctualref_F.f 3 0).Code)), .val (.int .i64 ((punctualref_F.f 3 0).At))]) (vs := [.agg #[(.slice none 0 0), (.slice none 0 0)], .agg #[.int .i64 ((punctualref_F.f 3 0).Code), .int .i64 ((punctualref_F.f 3 0).At)]]) (l := [.loaded ⟨b1, 0, none⟩ ((.slice none 0 0)), .loaded ⟨b1, 1, none⟩ ((.slice none 0 0)), .loaded ⟨b2, 0, none⟩ (.int .i64 ((punctualref_F.f 3 0).Code)), .loaded ⟨b2, 1, none⟩ (.int .i64 ((punctualref_F.f 3 0).At))]) rfl (by kernel_rfl) ⟨hS56.cell 3 rfl rfl, hS56.cell 3 rfl rfl, hS56.cell 2 rfl rfl, hS56.cell 2 rfl rfl, trivial⟩ ⟨(.slice none 0 0), (.slice none 0 0), rfl, hS59⟩)
        · rw [if_neg hc6] at h
          refine ge_known (t := 30) (b := decide (x3 < 0)) (c := false) (by kernel_rfl) (decide_eq_false hc6) ?_
          refine ge_batch [3, 4, 5] (ans := []) (vs := [(33, .bool (decide (x3 > 20000))), (32, .bool (decide (x3 > 20000))), (31, .int .i64 x3)]) (l := []) (by kernel_rfl) trivial ?_
          refine ge_nil fun a hF => hK14 _ _ ?_ a hF
          by_cases hc7 : x3 > 20000
          · rw [if_pos hc7] at h
            refine we_known (t := 33) (b := decide (x3 > 20000)) (v := true) (by kernel_rfl) (decide_eq_true hc7) ?_
            refine we_true (by kernel_rfl) ?_
            refine we_seq fun K16 hK16 => ?_
            refine we_region [(0, 0), (1, 1), (2, 2), (3, 2)] rfl ?_
            refine ge_batch [0] (ans := []) (vs := [(34, .agg #[.slice none 0 0, .slice none 0 0])]) (l := []) (by kernel_rfl) trivial ?_
            refine ge_call (d := some 35) (f := 74) (args := #[.int .i64 3, .int .i64 0]) (by kernel_rfl) (punctualref_F_ok 3 0 _ _ rfl) ?_
            rintro _ w19 ⟨rfl, hS60⟩
            refine ⟨_, rfl, hS60.below, ?_⟩
            have hS61 := hS7.call hS60
            have hS62 := hS61.bring 2 rfl
            refine ge_set (b := b1) (j := 0) (cs := #[.slice none 0 0, .slice none 0 0]) (t := 36) (vs := [.slice none 0 0, .slice none 0 0]) hS62 (by kernel_rfl) rfl rfl fun w20 hS63 => ?_
            have hS64 : St w0 w20 [Own.blk b1 (.cells #[.slice none 0 0, .slice none 0 0] 36 (0, 0)), Own.blk b3 (.cells #[.int .i64 r1.Code, .int .i64 r1.At] 39 (0, 0)), Own.blk b2 (.cells #[.int .i64 0, .int .i64 0] 39 (0, 0))] := hS63
            have hS65 := hS64.bring 2 rfl
            refine ge_set (b := b2) (j := 0) (cs := #[.int .i64 0, .int .i64 0]) (t := 39) (vs := [.int .i64 ((punctualref_F.f 3 0).Code), .int .i64 ((punctualref_F.f 3 0).At)]) hS65 (by kernel_rfl) rfl rfl fun w21 hS66 => ?_
            have hS67 : St w0 w21 [Own.blk b2 (.cells #[.int .i64 ((punctualref_F.f 3 0).Code), .int .i64 ((punctualref_F.f 3 0).At)] 39 (0, 0)), Own.blk b1 (.cells #[.slice none 0 0, .slice none 0 0] 36 (0, 0)), Own.blk b3 (.cells #[.int .i64 r1.Code, .int .i64 r1.At] 39 (0, 0))] := hS66
            refine ge_nil fun a hF => hK16 _ _ ?_ a hF
            have hS68 := hS67.nil (α := Int) 3
            have hS69 := hS68.nil (α := Int) 3
            have hS70 := hS69.bring 1 rfl
            have hS71 := hS70.bring 1 rfl
            have hS72 := hS71.takeN 2
            obtain rfl := Option.some.inj h
            exact we_ret (post_ret (rs := [.cell 8 36, .cell 9 39]) (ans := [.val ((.slice none 0 0)), .val ((.slice none 0 0)), .val (.int .i64 ((punctualref_F.f 3 0).Code)), .val (.int .i64 ((punctualref_F.f 3 0).At))]) (vs := [.agg #[(.slice none 0 0), (.slice none 0 0)], .agg #[.int .i64 ((punctualref_F.f 3 0).Code), .int .i64 ((punctualref_F.f 3 0).At)]]) (l := [.loaded ⟨b1, 0, none⟩ ((.slice none 0 0)), .loaded ⟨b1, 1, none⟩ ((.slice none 0 0)), .loaded ⟨b2, 0, none⟩ (.int .i64 ((punctualref_F.f 3 0).Code)), .loaded ⟨b2, 1, none⟩ (.int .i64 ((punctualref_F.f 3 0).At))]) rfl (by kernel_rfl) ⟨hS69.cell 3 rfl rfl, hS69.cell 3 rfl rfl, hS69.cell 2 rfl rfl, hS69.cell 2 rfl rfl, trivial⟩ ⟨(.slice none 0 0), (.slice none 0 0), rfl, hS72⟩)
          · rw [if_neg hc7] at h
            refine we_known (t := 33) (b := decide (x3 > 20000)) (v := false) (by kernel_rfl) (decide_eq_false hc7) ?_
            refine we_false (by kernel_rfl) ?_
            refine we_skip fun a hF => hK13 _ _ ?_ a hF
            refine we_seq fun K17 hK17 => ?_
            refine we_region [(0, 0), (1, 0), (2, 0), (3, 0), (4, 1), (5, 0), (6, 0), (7, 0), (8, 0), (9, 0)] rfl ?_
            rcases hq8 : punctualref_Played.f K l0 x1 x2 1 x3 with _ | r4
            · rw [hq8] at h; cases h
            rw [hq8] at h
            simp only [] at h
            refine ge_batch [0, 1, 2, 3] (ans := []) (vs := [(40, .int .i64 x3), (39, .bool x2), (38, .int .i64 x1), (37, .slice A0 l0.length c0)]) (l := []) (by kernel_rfl) trivial ?_
            refine ge_call (d := some 41) (f := 88) (args := #[.slice A0 l0.length c0, .int .i64 x1, .bool x2, .int .i64 1, .int .i64 x3, .func (.func 135) #[] #[]]) (by kernel_rfl) (punctualref_Played_ok K l0 A0 c0 x1 x2 1 x3 _ (hS7.rd hR0) hL0 _ hq8) ?_
            rintro _ w22 ⟨y2, v3, rfl, hS73⟩
            refine ⟨_, rfl, hS73.below, ?_⟩
            have hS74 := hS7.call hS73
            refine ge_batch [5, 6, 7, 8, 9] (ans := []) (vs := [(12, v3), (11, (Rows.val y2)), (43, v3), (42, (Rows.val y2)), (36, .tuple #[(Rows.val y2), v3])]) (l := []) (by kernel_rfl) trivial ?_
            refine ge_nil fun a hF => hK17 _ _ ?_ a hF
            refine we_seq fun K18 hK18 => ?_
            refine we_region [(0, 0), (1, 1), (2, 0), (3, 0), (4, 0), (5, 2), (6, 2)] rfl ?_
            refine ge_batch [0] (ans := []) (vs := [(44, (Rows.val y2))]) (l := []) (by kernel_rfl) trivial ?_
            refine ge_same (t := 44) (v := (Rows.val y2)) (v' := .slice y2.A r4.1.length y2.c) (by kernel_rfl) (congrArg (fun z => Value.slice y2.A z y2.c) (hS74.nestAt 0 rfl).n) ?_
            rcases hq9 : punctualref_One.f K r4.1 with _ | r5
            · rw [hq9] at h; cases h
            rw [hq9] at h
            simp only [] at h
            refine ge_call (d := some 45) (f := 91) (args := #[.slice y2.A r4.1.length y2.c]) (by kernel_rfl) (punctualref_One_ok K r4.1 y2.hs y2.A y2.c _ (hS74.nestAt 0 rfl).rd (hS74.nestAt 0 rfl).cap (hS74.nestAt 0 rfl).nl _ hq9) ?_
            rintro _ w23 ⟨v4, rfl, hS75⟩
            refine ⟨_, rfl, hS75.below, ?_⟩
            have hS76 := hS74.call hS75
            refine ge_batch [2] (ans := []) (vs := [(46, v3)]) (l := []) (by kernel_rfl) trivial ?_
            obtain ⟨Z3, cz3, rfl⟩ := hS76.open 0 rfl
            obtain ⟨Z4, cz4, rfl⟩ := hS76.open 2 rfl
            refine ge_batch [3, 4] (ans := []) (vs := [(48, .agg #[.int .i64 0, .int .i64 0]), (47, .agg #[(.slice Z3 r5.length cz3), (.slice Z4 r4.2.length cz4)])]) (l := []) (by kernel_rfl) trivial ?_
            have hS77 := hS76.bring 5 rfl
            refine ge_set (b := b1) (j := 0) (cs := #[.slice none 0 0, .slice none 0 0]) (t := 36) (vs := [(.slice Z3 r5.length cz3), (.slice Z4 r4.2.length cz4)]) hS77 (by kernel_rfl) rfl rfl fun w24 hS78 => ?_
            have hS79 : St w0 w24 [Own.blk b1 (.cells #[(.slice Z3 r5.length cz3), (.slice Z4 r4.2.length cz4)] 36 (0, 0)), Own.of (.slice Z3 r5.length cz3) 3 r5, Own.nest y2 24 3 r4.1, Own.of (.slice Z4 r4.2.length cz4) 3 r4.2, Own.blk b3 (.cells #[.int .i64 r1.Code, .int .i64 r1.At] 39 (0, 0)), Own.blk b2 (.cells #[.int .i64 0, .int .i64 0] 39 (0, 0))] := hS78
            have hS80 := hS79.bring 5 rfl
            refine ge_set (b := b2) (j := 0) (cs := #[.int .i64 0, .int .i64 0]) (t := 39) (vs := [.int .i64 0, .int .i64 0]) hS80 (by kernel_rfl) rfl rfl fun w25 hS81 => ?_
            have hS82 : St w0 w25 [Own.blk b2 (.cells #[.int .i64 0, .int .i64 0] 39 (0, 0)), Own.blk b1 (.cells #[(.slice Z3 r5.length cz3), (.slice Z4 r4.2.length cz4)] 36 (0, 0)), Own.of (.slice Z3 r5.length cz3) 3 r5, Own.nest y2 24 3 r4.1, Own.of (.slice Z4 r4.2.length cz4) 3 r4.2, Own.blk b3 (.cells #[.int .i64 r1.Code, .int .i64 r1.At] 39 (0, 0))] := hS81
            refine ge_nil fun a hF => hK18 _ _ ?_ a hF
            have hS83 := hS82.bring 4 rfl
            have hS84 := hS83.bring 3 rfl
            have hS85 := hS84.takeN 2
            obtain rfl := Option.some.inj h
            exact we_ret (post_ret (rs := [.cell 8 36, .cell 9 39]) (ans := [.val ((.slice Z3 r5.length cz3)), .val ((.slice Z4 r4.2.length cz4)), .val (.int .i64 0), .val (.int .i64 0)]) (vs := [.agg #[(.slice Z3 r5.length cz3), (.slice Z4 r4.2.length cz4)], .agg #[.int .i64 0, .int .i64 0]]) (l := [.loaded ⟨b1, 0, none⟩ ((.slice Z3 r5.length cz3)), .loaded ⟨b1, 1, none⟩ ((.slice Z4 r4.2.length cz4)), .loaded ⟨b2, 0, none⟩ (.int .i64 0), .loaded ⟨b2, 1, none⟩ (.int .i64 0)]) rfl (by kernel_rfl) ⟨hS82.cell 1 rfl rfl, hS82.cell 1 rfl rfl, hS82.cell 0 rfl rfl, hS82.cell 0 rfl rfl, trivial⟩ ⟨(.slice Z3 r5.length cz3), (.slice Z4 r4.2.length cz4), rfl, hS85⟩)
      · rw [if_neg hc5] at h
        refine we_known (t := 25) (b := (x1 != 2)) (v := true) (by kernel_rfl) (bne_iff_ne.2 hc5) ?_
        refine we_true (by kernel_rfl) ?_
        refine we_seq fun K19 hK19 => ?_
        refine we_region [(0, 0), (1, 1), (2, 2), (3, 2)] rfl ?_
        refine ge_batch [0] (ans := []) (vs := [(26, .agg #[.slice none 0 0, .slice none 0 0])]) (l := []) (by kernel_rfl) trivial ?_
        refine ge_call (d := some 27) (f := 74) (args := #[.int .i64 6, .int .i64 0]) (by kernel_rfl) (punctualref_F_ok 6 0 _ _ rfl) ?_
        rintro _ w26 ⟨rfl, hS86⟩
        refine ⟨_, rfl, hS86.below, ?_⟩
        have hS87 := hS7.call hS86
        have hS88 := hS87.bring 2 rfl
        refine ge_set (b := b1) (j := 0) (cs := #[.slice none 0 0, .slice none 0 0]) (t := 36) (vs := [.slice none 0 0, .slice none 0 0]) hS88 (by kernel_rfl) rfl rfl fun w27 hS89 => ?_
        have hS90 : St w0 w27 [Own.blk b1 (.cells #[.slice none 0 0, .slice none 0 0] 36 (0, 0)), Own.blk b3 (.cells #[.int .i64 r1.Code, .int .i64 r1.At] 39 (0, 0)), Own.blk b2 (.cells #[.int .i64 0, .int .i64 0] 39 (0, 0))] := hS89
        have hS91 := hS90.bring 2 rfl
        refine ge_set (b := b2) (j := 0) (cs := #[.int .i64 0, .int .i64 0]) (t := 39) (vs := [.int .i64 ((punctualref_F.f 6 0).Code), .int .i64 ((punctualref_F.f 6 0).At)]) hS91 (by kernel_rfl) rfl rfl fun w28 hS92 => ?_
        have hS93 : St w0 w28 [Own.blk b2 (.cells #[.int .i64 ((punctualref_F.f 6 0).Code), .int .i64 ((punctualref_F.f 6 0).At)] 39 (0, 0)), Own.blk b1 (.cells #[.slice none 0 0, .slice none 0 0] 36 (0, 0)), Own.blk b3 (.cells #[.int .i64 r1.Code, .int .i64 r1.At] 39 (0, 0))] := hS92
        refine ge_nil fun a hF => hK19 _ _ ?_ a hF
        have hS94 := hS93.nil (α := Int) 3
        have hS95 := hS94.nil (α := Int) 3
        have hS96 := hS95.bring 1 rfl
        have hS97 := hS96.bring 1 rfl
        have hS98 := hS97.takeN 2
        obtain rfl := Option.some.inj h
        exact we_ret (post_ret (rs := [.cell 8 36, .cell 9 39]) (ans := [.val ((.slice none 0 0)), .val ((.slice none 0 0)), .val (.int .i64 ((punctualref_F.f 6 0).Code)), .val (.int .i64 ((punctualref_F.f 6 0).At))]) (vs := [.agg #[(.slice none 0 0), (.slice none 0 0)], .agg #[.int .i64 ((punctualref_F.f 6 0).Code), .int .i64 ((punctualref_F.f 6 0).At)]]) (l := [.loaded ⟨b1, 0, none⟩ ((.slice none 0 0)), .loaded ⟨b1, 1, none⟩ ((.slice none 0 0)), .loaded ⟨b2, 0, none⟩ (.int .i64 ((punctualref_F.f 6 0).Code)), .loaded ⟨b2, 1, none⟩ (.int .i64 ((punctualref_F.f 6 0).At))]) rfl (by kernel_rfl) ⟨hS95.cell 3 rfl rfl, hS95.cell 3 rfl rfl, hS95.cell 2 rfl rfl, hS95.cell 2 rfl rfl, trivial⟩ ⟨(.slice none 0 0), (.slice none 0 0), rfl, hS98⟩)
  · rw [if_neg hc1] at h
    refine we_known (t := 17) (b := (r1.Code != 0)) (v := true) (by kernel_rfl) (bne_iff_ne.2 hc1) ?_
    refine we_true (by kernel_rfl) ?_
    refine we_seq fun K20 hK20 => ?_
    rcases hq11 : punctualref_PlayJobs.p0 r1 with _ | (⟨z3, z4, m3, m4⟩ | rr1)
    · rw [hq11] at h; cases h
    · rw [hq11] at h
      simp only [] at h
      refine we_keep (e' := [(0, .slice A0 l0.length c0), (1, .int .i64 x1), (2, .bool x2), (3, .int .i64 x3), (8, .pointer (some ⟨b1, 0, none⟩)), (9, .pointer (some ⟨b2, 0, none⟩)), (10, .pointer (some ⟨b3, 0, none⟩)), (13, .slice A0 l0.length c0), (14, .agg #[.int .i64 r1.Code, .int .i64 r1.At]), (15, .pointer (some ⟨b3, 0, none⟩)), (16, .int .i64 r1.Code), (17, .bool true)]) ⟨by kernel_rfl, by kernel_rfl, by kernel_rfl, by kernel_rfl, by kernel_rfl, by kernel_rfl, by kernel_rfl, by kernel_rfl, by kernel_rfl, by kernel_rfl, by kernel_rfl, by kernel_rfl, trivial⟩ (punctualref_PlayJobs_p0 K w0 l0 A0 c0 x1 x2 x3 hR0 hL0 b1 b2 r1 b3 hc1 _ hq11 _ hS7 _ ?_)
      rintro _ a w31 ⟨rfl, v7, v8, hS113, hF⟩
      replace hS113 : St w0 w31 [Own.blk b2 (.cells #[.int .i64 z3, .int .i64 z4] 39 (0, 0)), Own.blk b1 (.cells #[v7, v8] 36 (0, 0)), Own.of v7 3 m3, Own.of v8 3 m4] := hS113
      refine hK20 [(8, .pointer (some ⟨b1, 0, none⟩)), (9, .pointer (some ⟨b2, 0, none⟩))] w31 ?_ a hF
      have hS114 := hS113.bring 3 rfl
      have hS115 := hS114.bring 3 rfl
      have hS116 := hS115.takeN 2
      obtain rfl := Option.some.inj h
      exact we_ret (post_ret (rs := [.cell 8 36, .cell 9 39]) (ans := [.val (v7), .val (v8), .val (.int .i64 z3), .val (.int .i64 z4)]) (vs := [.agg #[v7, v8], .agg #[.int .i64 z3, .int .i64 z4]]) (l := [.loaded ⟨b1, 0, none⟩ (v7), .loaded ⟨b1, 1, none⟩ (v8), .loaded ⟨b2, 0, none⟩ (.int .i64 z3), .loaded ⟨b2, 1, none⟩ (.int .i64 z4)]) rfl (by kernel_rfl) ⟨hS113.cell 1 rfl rfl, hS113.cell 1 rfl rfl, hS113.cell 0 rfl rfl, hS113.cell 0 rfl rfl, trivial⟩ ⟨v7, v8, rfl, hS116⟩)
    · rw [hq11] at h
      simp only [] at h
      refine we_keep (e' := [(0, .slice A0 l0.length c0), (1, .int .i64 x1), (2, .bool x2), (3, .int .i64 x3), (8, .pointer (some ⟨b1, 0, none⟩)), (9, .pointer (some ⟨b2, 0, none⟩)), (10, .pointer (some ⟨b3, 0, none⟩)), (13, .slice A0 l0.length c0), (14, .agg #[.int .i64 r1.Code, .int .i64 r1.At]), (15, .pointer (some ⟨b3, 0, none⟩)), (16, .int .i64 r1.Code), (17, .bool true)]) ⟨by kernel_rfl, by kernel_rfl, by kernel_rfl, by kernel_rfl, by kernel_rfl, by kernel_rfl, by kernel_rfl, by kernel_rfl, by kernel_rfl, by kernel_rfl, by kernel_rfl, by kernel_rfl, trivial⟩ (punctualref_PlayJobs_p0 K w0 l0 A0 c0 x1 x2 x3 hR0 hL0 b1 b2 r1 b3 hc1 _ hq11 _ hS7 _ ?_)
      rintro _ a w1 ⟨_, rfl, hb⟩
      obtain rfl := Option.some.inj h
      exact hb

/-! punctual/punctualref.SendOf -/
abbrev punctualref_SendOf.Post (w0 : World) (r : SPlayed × SFault) (e : Ending) (w : World) : Prop := ∃ (v0 : Value) (v1 : Value), e = .returned (.tuple #[.agg #[v0, v1], .agg #[.int .i64 r.2.Code, .int .i64 r.2.At]]) ∧ St w0 w [Own.of v0 3 r.1.Runs, Own.of v1 3 r.1.Ends]
def punctualref_SendOf.p0 (l1 : List SCome) (l2 : List Int) : Option (Unit ⊕ (SPlayed × SFault)) :=
    if (l1.length : Int) > 4000 then
      some (.inr ((⟨([] : List Int), ([] : List Int)⟩ : SPlayed), (punctualref_F.f 2 0)))
    else
      if (l2.length : Int) = (l1.length : Int) then
        some (.inl ())
      else
        some (.inr ((⟨([] : List Int), ([] : List Int)⟩ : SPlayed), (punctualref_F.f 2 0)))
def punctualref_SendOf.p2 (l0 : List SFrame) (i1 : Nat) (e1 : SCome) : Option (Unit ⊕ (SPlayed × SFault)) :=
    if e1.Task < 0 then
      some (.inr ((⟨([] : List Int), ([] : List Int)⟩ : SPlayed), (punctualref_F.f 4 (i1 : Int))))
    else
      if e1.Task ≥ (l0.length : Int) then
        some (.inr ((⟨([] : List Int), ([] : List Int)⟩ : SPlayed), (punctualref_F.f 4 (i1 : Int))))
      else
        some (.inl ())
def punctualref_SendOf.p3 (l0 : List SFrame) (l2 : List Int) (i1 : Nat) (e1 : SCome) : Option (Unit ⊕ (SPlayed × SFault)) :=
    if e1.At < 0 then
      some (.inr ((⟨([] : List Int), ([] : List Int)⟩ : SPlayed), (punctualref_F.f 3 (i1 : Int))))
    else
      if e1.At > 20000 then
        some (.inr ((⟨([] : List Int), ([] : List Int)⟩ : SPlayed), (punctualref_F.f 3 (i1 : Int))))
      else
        match l2[i1]? with
        | none => none
        | some e2 =>
          if e2 < 0 then
            some (.inr ((⟨([] : List Int), ([] : List Int)⟩ : SPlayed), (punctualref_F.f 3 (i1 : Int))))
          else
            if 0 ≤ e1.Task then
              match l0[(e1.Task).toNat]? with
              | none => none
              | some e3 =>
                if e2 > e3.J then
                  some (.inr ((⟨([] : List Int), ([] : List Int)⟩ : SPlayed), (punctualref_F.f 3 (i1 : Int))))
                else
                  some (.inl ())
            else
              none
def punctualref_SendOf.r1 (l0 : List SFrame) (l1 : List SCome) (l2 : List Int) : (List SJob) × Nat → Option (((List SJob) × Nat) ⊕ ((List SJob) ⊕ (SPlayed × SFault)))
  | (m1, i1) =>
    if (i1 : Int) < (l1.length : Int) then
      match l1[i1]? with
      | none => none
      | some e1 =>
        match punctualref_SendOf.p2 l0 i1 e1 with
        | none => none
        | some (.inl _) =>
          match punctualref_SendOf.p3 l0 l2 i1 e1 with
          | none => none
          | some (.inl _) =>
            match l2[i1]? with
            | none => none
            | some e4 =>
              if 0 ≤ e1.Task then
                match l0[(e1.Task).toNat]? with
                | none => none
                | some e5 =>
                  if m1.length < 3518437208883 then
                    some (.inl ((m1 ++ [(⟨e1.Task, IntKind.i64.wrap (e1.At + e4), e5.C, IntKind.i64.wrap (e1.At + e5.D), IntKind.i64.wrap ((l0.length : Int) - e1.Task)⟩ : SJob)]), (i1 + 1)))
                  else
                    none
              else
                none
          | some (.inr rr1) =>
            some (.inr (.inr rr1))
        | some (.inr rr2) =>
          some (.inr (.inr rr2))
    else
      some (.inr (.inl m1))
def punctualref_SendOf.p4 (r1 : SFault) : Option ((Int × Int × (List Int) × (List Int)) ⊕ (SPlayed × SFault)) :=
    some (.inl (r1.Code, r1.At, ([] : List Int), ([] : List Int)))
def punctualref_SendOf.f (K : Nat) (l0 : List SFrame) (l1 : List SCome) (l2 : List Int) (x3 : Int) : Option (SPlayed × SFault) :=
  match punctualref_CheckBus.f K l0 with
  | none => none
  | some r1 =>
    if r1.Code = 0 then
      match punctualref_SendOf.p0 l1 l2 with
      | none => none
      | some (.inl _) =>
        match iter (punctualref_SendOf.r1 l0 l1 l2) K (([] : List SJob), 0) with
        | none => none
        | some (.inl m3) =>
          match punctualref_PlayJobs.f K m3 1 false x3 with
          | none => none
          | some r2 =>
            some (r2.1, r2.2)
        | some (.inr rr3) =>
          some rr3
      | some (.inr rr4) =>
        some rr4
    else
      match punctualref_SendOf.p4 r1 with
      | none => none
      | some (.inl (z3, z4, m6, m7)) =>
        some ((⟨m6, m7⟩ : SPlayed), (⟨z3, z4⟩ : SFault))
      | some (.inr rr5) =>
        some rr5
abbrev punctualref_SendOf.A0 (K : Nat) (w0 : World) (l0 : List SFrame) (A0 : Option Addr) (c0 : Nat) (l1 : List SCome) (A1 : Option Addr) (c1 : Nat) (l2 : List Int) (A2 : Option Addr) (c2 : Nat) (x3 : Int) (hR0 : RdL w0 A0 l0) (hL0 : l0.length ≤ c0) (hR1 : RdL w0 A1 l1) (hL1 : l1.length ≤ c1) (hR2 : RdL w0 A2 l2) (hL2 : l2.length ≤ c2) (b1 : Nat) (b2 : Nat) (r1 : SFault) (b3 : Nat) (hc1 : r1.Code = 0) : Unit → Act → World → Prop := fun (s : Unit) a w => St w0 w [Own.blk b2 (.cells #[.int .i64 0, .int .i64 0] 39 (0, 0)), Own.blk b1 (.cells #[.slice none 0 0, .slice none 0 0] 36 (0, 0))] ∧ Frm 123 a [(0, .slice A0 l0.length c0), (1, .slice A1 l1.length c1), (2, .slice A2 l2.length c2), (3, .int .i64 x3), (8, .pointer (some ⟨b1, 0, none⟩)), (9, .pointer (some ⟨b2, 0, none⟩))]
abbrev punctualref_SendOf.B0 (K : Nat) (w0 : World) (l0 : List SFrame) (A0 : Option Addr) (c0 : Nat) (l1 : List SCome) (A1 : Option Addr) (c1 : Nat) (l2 : List Int) (A2 : Option Addr) (c2 : Nat) (x3 : Int) (hR0 : RdL w0 A0 l0) (hL0 : l0.length ≤ c0) (hR1 : RdL w0 A1 l1) (hL1 : l1.length ≤ c1) (hR2 : RdL w0 A2 l2) (hL2 : l2.length ≤ c2) (b1 : Nat) (b2 : Nat) (r1 : SFault) (b3 : Nat) (hc1 : r1.Code = 0) : (SPlayed × SFault) → Exit → Act → World → Prop := Rets Tryd.prog Tryd.f17 (punctualref_SendOf.Post w0)
theorem punctualref_SendOf_p0 (K : Nat) (w0 : World) (l0 : List SFrame) (A0 : Option Addr) (c0 : Nat) (l1 : List SCome) (A1 : Option Addr) (c1 : Nat) (l2 : List Int) (A2 : Option Addr) (c2 : Nat) (x3 : Int) (hR0 : RdL w0 A0 l0) (hL0 : l0.length ≤ c0) (hR1 : RdL w0 A1 l1) (hL1 : l1.length ≤ c1) (hR2 : RdL w0 A2 l2) (hL2 : l2.length ≤ c2) (b1 : Nat) (b2 : Nat) (r1 : SFault) (b3 : Nat) (hc1 : r1.Code = 0) (o : Unit ⊕ (SPlayed × SFault)) (h : punctualref_SendOf.p0 l1 l2 = some o) (w : World) (hS : St w0 w [Own.blk b3 (.cells #[.int .i64 r1.Code, .int .i64 r1.At] 39 (0, 0)), Own.blk b2 (.cells #[.int .i64 0, .int .i64 0] 39 (0, 0)), Own.blk b1 (.cells #[.slice none 0 0, .slice none 0 0] 36 (0, 0))]) (Q : Exit → Act → World → Prop) (hQ : ∀ x a w, Outs (punctualref_SendOf.A0 K w0 l0 A0 c0 l1 A1 c1 l2 A2 c2 x3 hR0 hL0 hR1 hL1 hR2 hL2 b1 b2 r1 b3 hc1) (punctualref_SendOf.B0 K w0 l0 A0 c0 l1 A1 c1 l2 A2 c2 x3 hR0 hL0 hR1 hL1 hR2 hL2 b1 b2 r1 b3 hc1) o x a w → Q x a w) : WE Tryd.prog 123 (subF Tryd.f17 [1, 1, 0]) Q [(0, .slice A0 l0.length c0), (1, .slice A1 l1.length c1), (2, .slice A2 l2.length c2), (3, .int .i64 x3), (8, .pointer (some ⟨b1, 0, none⟩)), (9, .pointer (some ⟨b2, 0, none⟩)), (10, .pointer (some ⟨b3, 0, none⟩)), (14, .slice A0 l0.length c0), (15, .agg #[.int .i64 r1.Code, .int .i64 r1.At]), (16, .pointer (some ⟨b3, 0, none⟩)), (17, .int .i64 r1.Code), (18, .bool false)] w := by
  simp only [punctualref_SendOf.p0] at h
  refine we_seq fun K6 hK6 => ?_
  refine we_region [(0, 0), (1, 0), (2, 0), (3, 0), (4, 0), (5, 0), (6, 0), (7, 0), (8, 0), (9, 0)] rfl ?_
  refine ge_batch [0, 1, 2, 3] (ans := []) (vs := [(24, .bool (decide ((l1.length : Int) > 4000))), (23, .bool (decide ((l1.length : Int) > 4000))), (22, .int .i64 (l1.length : Int)), (21, .slice A1 l1.length c1)]) (l := []) (by kernel_rfl) trivial ?_
  by_cases hc2 : (l1.length : Int) > 4000
  · rw [if_pos hc2] at h
    refine ge_known (t := 24) (b := decide ((l1.length : Int) > 4000)) (c := true) (by kernel_rfl) (decide_eq_true hc2) ?_
    refine ge_batch [4, 5, 6, 7, 8, 9] (ans := []) (vs := [(30, .bool true), (29, undef), (28, undef), (27, undef), (26, undef), (25, undef)]) (l := []) (by kernel_rfl) trivial ?_
    refine ge_nil fun a hF => hK6 _ _ ?_ a hF
    refine we_true (by kernel_rfl) ?_
    refine we_seq fun K7 hK7 => ?_
    refine we_region [(0, 0), (1, 1), (2, 2), (3, 2)] rfl ?_
    refine ge_batch [0] (ans := []) (vs := [(31, .agg #[.slice none 0 0, .slice none 0 0])]) (l := []) (by kernel_rfl) trivial ?_
    refine ge_call (d := some 32) (f := 74) (args := #[.int .i64 2, .int .i64 0]) (by kernel_rfl) (punctualref_F_ok 2 0 _ _ rfl) ?_
    rintro _ w6 ⟨rfl, hS8⟩
    refine ⟨_, rfl, hS8.below, ?_⟩
    have hS9 := hS.call hS8
    have hS10 := hS9.bring 2 rfl
    refine ge_set (b := b1) (j := 0) (cs := #[.slice none 0 0, .slice none 0 0]) (t := 36) (vs := [.slice none 0 0, .slice none 0 0]) hS10 (by kernel_rfl) rfl rfl fun w7 hS11 => ?_
    have hS12 : St w0 w7 [Own.blk b1 (.cells #[.slice none 0 0, .slice none 0 0] 36 (0, 0)), Own.blk b3 (.cells #[.int .i64 r1.Code, .int .i64 r1.At] 39 (0, 0)), Own.blk b2 (.cells #[.int .i64 0, .int .i64 0] 39 (0, 0))] := hS11
    have hS13 := hS12.bring 2 rfl
    refine ge_set (b := b2) (j := 0) (cs := #[.int .i64 0, .int .i64 0]) (t := 39) (vs := [.int .i64 ((punctualref_F.f 2 0).Code), .int .i64 ((punctualref_F.f 2 0).At)]) hS13 (by kernel_rfl) rfl rfl fun w8 hS14 => ?_
    have hS15 : St w0 w8 [Own.blk b2 (.cells #[.int .i64 ((punctualref_F.f 2 0).Code), .int .i64 ((punctualref_F.f 2 0).At)] 39 (0, 0)), Own.blk b1 (.cells #[.slice none 0 0, .slice none 0 0] 36 (0, 0)), Own.blk b3 (.cells #[.int .i64 r1.Code, .int .i64 r1.At] 39 (0, 0))] := hS14
    refine ge_nil fun a hF => hK7 _ _ ?_ a hF
    have hS16 := hS15.nil (α := Int) 3
    have hS17 := hS16.nil (α := Int) 3
    have hS18 := hS17.bring 1 rfl
    have hS19 := hS18.bring 1 rfl
    have hS20 := hS19.takeN 2
    obtain rfl := Option.some.inj h
    exact we_ret fun a hF => hQ _ _ _ (Outs.out nofun ⟨rfl, (post_ret (rs := [.cell 8 36, .cell 9 39]) (ans := [.val ((.slice none 0 0)), .val ((.slice none 0 0)), .val (.int .i64 ((punctualref_F.f 2 0).Code)), .val (.int .i64 ((punctualref_F.f 2 0).At))]) (vs := [.agg #[(.slice none 0 0), (.slice none 0 0)], .agg #[.int .i64 ((punctualref_F.f 2 0).Code), .int .i64 ((punctualref_F.f 2 0).At)]]) (l := [.loaded ⟨b1, 0, none⟩ ((.slice none 0 0)), .loaded ⟨b1, 1, none⟩ ((.slice none 0 0)), .loaded ⟨b2, 0, none⟩ (.int .i64 ((punctualref_F.f 2 0).Code)), .loaded ⟨b2, 1, none⟩ (.int .i64 ((punctualref_F.f 2 0).At))]) rfl (by kernel_rfl) ⟨hS17.cell 3 rfl rfl, hS17.cell 3 rfl rfl, hS17.cell 2 rfl rfl, hS17.cell 2 rfl rfl, trivial⟩ ⟨(.slice none 0 0), (.slice none 0 0), rfl, hS20⟩) a hF⟩)
  · rw [if_neg hc2] at h
    refine ge_known (t := 24) (b := decide ((l1.length : Int) > 4000)) (c := false) (by kernel_rfl) (decide_eq_false hc2) ?_
    refine ge_batch [4, 5, 6, 7, 8, 9] (ans := []) (vs := [(30, .bool ((l2.length : Int) != (l1.length : Int))), (29, .bool ((l2.length : Int) != (l1.length : Int))), (28, .int .i64 (l1.length : Int)), (27, .slice A1 l1.length c1), (26, .int .i64 (l2.length : Int)), (25, .slice A2 l2.length c2)]) (l := []) (by kernel_rfl) trivial ?_
    refine ge_nil fun a hF => hK6 _ _ ?_ a hF
    by_cases hc3 : (l2.length : Int) = (l1.length : Int)
    · rw [if_pos hc3] at h
      refine we_known (t := 30) (b := ((l2.length : Int) != (l1.length : Int))) (v := false) (by kernel_rfl) (bne_eq_false_iff_eq.2 hc3) ?_
      refine we_false (by kernel_rfl) ?_
      have hS21 := hS.bring 2 rfl
      have hS22 := hS21.bring 2 rfl
      have hS23 := hS22.takeN 2
      obtain rfl := Option.some.inj h
      exact we_skip fun a hF => hQ _ _ _ (Outs.again ⟨hS23, hF.weaken ⟨by kernel_rfl, by kernel_rfl, by kernel_rfl, by kernel_rfl, by kernel_rfl, by kernel_rfl, trivial⟩⟩)
    · rw [if_neg hc3] at h
      refine we_known (t := 30) (b := ((l2.length : Int) != (l1.length : Int))) (v := true) (by kernel_rfl) (bne_iff_ne.2 hc3) ?_
      refine we_true (by kernel_rfl) ?_
      refine we_seq fun K8 hK8 => ?_
      refine we_region [(0, 0), (1, 1), (2, 2), (3, 2)] rfl ?_
      refine ge_batch [0] (ans := []) (vs := [(31, .agg #[.slice none 0 0, .slice none 0 0])]) (l := []) (by kernel_rfl) trivial ?_
      refine ge_call (d := some 32) (f := 74) (args := #[.int .i64 2, .int .i64 0]) (by kernel_rfl) (punctualref_F_ok 2 0 _ _ rfl) ?_
      rintro _ w9 ⟨rfl, hS24⟩
      refine ⟨_, rfl, hS24.below, ?_⟩
      have hS25 := hS.call hS24
      have hS26 := hS25.bring 2 rfl
      refine ge_set (b := b1) (j := 0) (cs := #[.slice none 0 0, .slice none 0 0]) (t := 36) (vs := [.slice none 0 0, .slice none 0 0]) hS26 (by kernel_rfl) rfl rfl fun w10 hS27 => ?_
      have hS28 : St w0 w10 [Own.blk b1 (.cells #[.slice none 0 0, .slice none 0 0] 36 (0, 0)), Own.blk b3 (.cells #[.int .i64 r1.Code, .int .i64 r1.At] 39 (0, 0)), Own.blk b2 (.cells #[.int .i64 0, .int .i64 0] 39 (0, 0))] := hS27
      have hS29 := hS28.bring 2 rfl
      refine ge_set (b := b2) (j := 0) (cs := #[.int .i64 0, .int .i64 0]) (t := 39) (vs := [.int .i64 ((punctualref_F.f 2 0).Code), .int .i64 ((punctualref_F.f 2 0).At)]) hS29 (by kernel_rfl) rfl rfl fun w11 hS30 => ?_
      have hS31 : St w0 w11 [Own.blk b2 (.cells #[.int .i64 ((punctualref_F.f 2 0).Code), .int .i64 ((punctualref_F.f 2 0).At)] 39 (0, 0)), Own.blk b1 (.cells #[.slice none 0 0, .slice none 0 0] 36 (0, 0)), Own.blk b3 (.cells #[.int .i64 r1.Code, .int .i64 r1.At] 39 (0, 0))] := hS30
      refine ge_nil fun a hF => hK8 _ _ ?_ a hF
      have hS32 := hS31.nil (α := Int) 3
      have hS33 := hS32.nil (α := Int) 3
      have hS34 := hS33.bring 1 rfl
      have hS35 := hS34.bring 1 rfl
      have hS36 := hS35.takeN 2
      obtain rfl := Option.some.inj h
      exact we_ret fun a hF => hQ _ _ _ (Outs.out nofun ⟨rfl, (post_ret (rs := [.cell 8 36, .cell 9 39]) (ans := [.val ((.slice none 0 0)), .val ((.slice none 0 0)), .val (.int .i64 ((punctualref_F.f 2 0).Code)), .val (.int .i64 ((punctualref_F.f 2 0).At))]) (vs := [.agg #[(.slice none 0 0), (.slice none 0 0)], .agg #[.int .i64 ((punctualref_F.f 2 0).Code), .int .i64 ((punctualref_F.f 2 0).At)]]) (l := [.loaded ⟨b1, 0, none⟩ ((.slice none 0 0)), .loaded ⟨b1, 1, none⟩ ((.slice none 0 0)), .loaded ⟨b2, 0, none⟩ (.int .i64 ((punctualref_F.f 2 0).Code)), .loaded ⟨b2, 1, none⟩ (.int .i64 ((punctualref_F.f 2 0).At))]) rfl (by kernel_rfl) ⟨hS33.cell 3 rfl rfl, hS33.cell 3 rfl rfl, hS33.cell 2 rfl rfl, hS33.cell 2 rfl rfl, trivial⟩ ⟨(.slice none 0 0), (.slice none 0 0), rfl, hS36⟩) a hF⟩)
abbrev punctualref_SendOf.A2 (K : Nat) (w0 : World) (l0 : List SFrame) (A0 : Option Addr) (c0 : Nat) (l1 : List SCome) (A1 : Option Addr) (c1 : Nat) (l2 : List Int) (A2 : Option Addr) (c2 : Nat) (x3 : Int) (hR0 : RdL w0 A0 l0) (hL0 : l0.length ≤ c0) (hR1 : RdL w0 A1 l1) (hL1 : l1.length ≤ c1) (hR2 : RdL w0 A2 l2) (hL2 : l2.length ≤ c2) (b1 : Nat) (b2 : Nat) (r1 : SFault) (b3 : Nat) (hc1 : r1.Code = 0) (m1 : List SJob) (i1 : Nat) (hc4 : (i1 : Int) < (l1.length : Int)) (e1 : SCome) (hx4 : l1[i1]? = some e1) (b4 : Nat) (Z1 : Option Addr) (cz1 : Nat) : Unit → Act → World → Prop := fun (s : Unit) a w => St w0 w [Own.blk b4 (.cells #[.int .i64 e1.Task, .int .i64 e1.At] 33 (0, 0)), Own.blk b2 (.cells #[.int .i64 0, .int .i64 0] 39 (0, 0)), Own.blk b1 (.cells #[.slice none 0 0, .slice none 0 0] 36 (0, 0)), Own.of (.slice Z1 m1.length cz1) 58 m1] ∧ Frm 123 a [(0, .slice A0 l0.length c0), (2, .slice A2 l2.length c2), (3, .int .i64 x3), (8, .pointer (some ⟨b1, 0, none⟩)), (9, .pointer (some ⟨b2, 0, none⟩)), (11, (.slice Z1 m1.length cz1)), (12, .int .i64 (i1 : Int)), (13, .pointer (some ⟨b4, 0, none⟩)), (33, .slice A1 l1.length c1), (34, .int .i64 (l1.length : Int)), (35, .int .i64 (i1 : Int))]
abbrev punctualref_SendOf.B2 (K : Nat) (w0 : World) (l0 : List SFrame) (A0 : Option Addr) (c0 : Nat) (l1 : List SCome) (A1 : Option Addr) (c1 : Nat) (l2 : List Int) (A2 : Option Addr) (c2 : Nat) (x3 : Int) (hR0 : RdL w0 A0 l0) (hL0 : l0.length ≤ c0) (hR1 : RdL w0 A1 l1) (hL1 : l1.length ≤ c1) (hR2 : RdL w0 A2 l2) (hL2 : l2.length ≤ c2) (b1 : Nat) (b2 : Nat) (r1 : SFault) (b3 : Nat) (hc1 : r1.Code = 0) (m1 : List SJob) (i1 : Nat) (hc4 : (i1 : Int) < (l1.length : Int)) (e1 : SCome) (hx4 : l1[i1]? = some e1) (b4 : Nat) (Z1 : Option Addr) (cz1 : Nat) : (SPlayed × SFault) → Exit → Act → World → Prop := Rets Tryd.prog Tryd.f17 (punctualref_SendOf.Post w0)
theorem punctualref_SendOf_p2 (K : Nat) (w0 : World) (l0 : List SFrame) (A0 : Option Addr) (c0 : Nat) (l1 : List SCome) (A1 : Option Addr) (c1 : Nat) (l2 : List Int) (A2 : Option Addr) (c2 : Nat) (x3 : Int) (hR0 : RdL w0 A0 l0) (hL0 : l0.length ≤ c0) (hR1 : RdL w0 A1 l1) (hL1 : l1.length ≤ c1) (hR2 : RdL w0 A2 l2) (hL2 : l2.length ≤ c2) (b1 : Nat) (b2 : Nat) (r1 : SFault) (b3 : Nat) (hc1 : r1.Code = 0) (m1 : List SJob) (i1 : Nat) (hc4 : (i1 : Int) < (l1.length : Int)) (e1 : SCome) (hx4 : l1[i1]? = some e1) (b4 : Nat) (Z1 : Option Addr) (cz1 : Nat) (o : Unit ⊕ (SPlayed × SFault)) (h : punctualref_SendOf.p2 l0 i1 e1 = some o) (w : World) (hS : St w0 w [Own.blk b4 (.cells #[.int .i64 e1.Task, .int .i64 e1.At] 33 (0, 0)), Own.blk b2 (.cells #[.int .i64 0, .int .i64 0] 39 (0, 0)), Own.blk b1 (.cells #[.slice none 0 0, .slice none 0 0] 36 (0, 0)), Own.of (.slice Z1 m1.length cz1) 58 m1]) (Q : Exit → Act → World → Prop) (hQ : ∀ x a w, Outs (punctualref_SendOf.A2 K w0 l0 A0 c0 l1 A1 c1 l2 A2 c2 x3 hR0 hL0 hR1 hL1 hR2 hL2 b1 b2 r1 b3 hc1 m1 i1 hc4 e1 hx4 b4 Z1 cz1) (punctualref_SendOf.B2 K w0 l0 A0 c0 l1 A1 c1 l2 A2 c2 x3 hR0 hL0 hR1 hL1 hR2 hL2 b1 b2 r1 b3 hc1 m1 i1 hc4 e1 hx4 b4 Z1 cz1) o x a w → Q x a w) : WE Tryd.prog 123 (subF Tryd.f17 [1, 1, 1, 1, 0, 1, 0, 0, 1, 1, 0, 0, 1, 0]) Q [(0, .slice A0 l0.length c0), (2, .slice A2 l2.length c2), (3, .int .i64 x3), (8, .pointer (some ⟨b1, 0, none⟩)), (9, .pointer (some ⟨b2, 0, none⟩)), (11, (.slice Z1 m1.length cz1)), (12, .int .i64 (i1 : Int)), (13, .pointer (some ⟨b4, 0, none⟩)), (33, .slice A1 l1.length c1), (34, .int .i64 (l1.length : Int)), (35, .int .i64 (i1 : Int)), (36, .bool true), (37, .int .i64 (i1 : Int)), (38, .pointer (some ⟨blkOf A1, offOf A1 + i1 * 2, none⟩)), (39, .agg #[.int .i64 e1.Task, .int .i64 e1.At])] w := by
  simp only [punctualref_SendOf.p2] at h
  refine we_seq fun K17 hK17 => ?_
  refine we_region [(0, 0), (1, 0), (2, 0), (3, 0), (4, 0), (5, 0), (6, 0), (7, 0), (8, 0), (9, 0)] rfl ?_
  refine ge_batch [0, 1, 2, 3] (ans := [.val (.int .i64 e1.Task)]) (vs := [(43, .bool (decide (e1.Task < 0))), (42, .bool (decide (e1.Task < 0))), (41, .int .i64 e1.Task), (40, .pointer (some ⟨b4, 0, none⟩))]) (l := [.loaded ⟨b4, 0, none⟩ (.int .i64 e1.Task)]) (by kernel_rfl) ⟨hS.cell 0 rfl rfl, trivial⟩ ?_
  by_cases hc5 : e1.Task < 0
  · rw [if_pos hc5] at h
    refine ge_known (t := 43) (b := decide (e1.Task < 0)) (c := true) (by kernel_rfl) (decide_eq_true hc5) ?_
    refine ge_batch [4, 5, 6, 7, 8, 9] (ans := []) (vs := [(49, .bool true), (48, undef), (47, undef), (46, undef), (45, undef), (44, undef)]) (l := []) (by kernel_rfl) trivial ?_
    refine ge_nil fun a hF => hK17 _ _ ?_ a hF
    refine we_true (by kernel_rfl) ?_
    refine we_seq fun K18 hK18 => ?_
    refine we_region [(0, 0), (1, 0), (2, 1), (3, 2), (4, 2)] rfl ?_
    refine ge_batch [0, 1] (ans := []) (vs := [(51, .int .i64 (i1 : Int)), (50, .agg #[.slice none 0 0, .slice none 0 0])]) (l := []) (by kernel_rfl) trivial ?_
    refine ge_call (d := some 52) (f := 74) (args := #[.int .i64 4, .int .i64 (i1 : Int)]) (by kernel_rfl) (punctualref_F_ok 4 (i1 : Int) _ _ rfl) ?_
    rintro _ w15 ⟨rfl, hS44⟩
    refine ⟨_, rfl, hS44.below, ?_⟩
    have hS45 := hS.call hS44
    have hS46 := hS45.bring 2 rfl
    refine ge_set (b := b1) (j := 0) (cs := #[.slice none 0 0, .slice none 0 0]) (t := 36) (vs := [.slice none 0 0, .slice none 0 0]) hS46 (by kernel_rfl) rfl rfl fun w16 hS47 => ?_
    have hS48 : St w0 w16 [Own.blk b1 (.cells #[.slice none 0 0, .slice none 0 0] 36 (0, 0)), Own.blk b4 (.cells #[.int .i64 e1.Task, .int .i64 e1.At] 33 (0, 0)), Own.blk b2 (.cells #[.int .i64 0, .int .i64 0] 39 (0, 0)), Own.of (.slice Z1 m1.length cz1) 58 m1] := hS47
    have hS49 := hS48.bring 2 rfl
    refine ge_set (b := b2) (j := 0) (cs := #[.int .i64 0, .int .i64 0]) (t := 39) (vs := [.int .i64 ((punctualref_F.f 4 (i1 : Int)).Code), .int .i64 ((punctualref_F.f 4 (i1 : Int)).At)]) hS49 (by kernel_rfl) rfl rfl fun w17 hS50 => ?_
    have hS51 : St w0 w17 [Own.blk b2 (.cells #[.int .i64 ((punctualref_F.f 4 (i1 : Int)).Code), .int .i64 ((punctualref_F.f 4 (i1 : Int)).At)] 39 (0, 0)), Own.blk b1 (.cells #[.slice none 0 0, .slice none 0 0] 36 (0, 0)), Own.blk b4 (.cells #[.int .i64 e1.Task, .int .i64 e1.At] 33 (0, 0)), Own.of (.slice Z1 m1.length cz1) 58 m1] := hS50
    refine ge_nil fun a hF => hK18 _ _ ?_ a hF
    have hS52 := hS51.nil (α := Int) 3
    have hS53 := hS52.nil (α := Int) 3
    have hS54 := hS53.bring 1 rfl
    have hS55 := hS54.bring 1 rfl
    have hS56 := hS55.takeN 2
    obtain rfl := Option.some.inj h
    exact we_ret fun a hF => hQ _ _ _ (Outs.out nofun ⟨rfl, (post_ret (rs := [.cell 8 36, .cell 9 39]) (ans := [.val ((.slice none 0 0)), .val ((.slice none 0 0)), .val (.int .i64 ((punctualref_F.f 4 (i1 : Int)).Code)), .val (.int .i64 ((punctualref_F.f 4 (i1 : Int)).At))]) (vs := [.agg #[(.slice none 0 0), (.slice none 0 0)], .agg #[.int .i64 ((punctualref_F.f 4 (i1 : Int)).Code), .int .i64 ((punctualref_F.f 4 (i1 : Int)).At)]]) (l := [.loaded ⟨b1, 0, none⟩ ((.slice none 0 0)), .loaded ⟨b1, 1, none⟩ ((.slice none 0 0)), .loaded ⟨b2, 0, none⟩ (.int .i64 ((punctualref_F.f 4 (i1 : Int)).Code)), .loaded ⟨b2, 1, none⟩ (.int .i64 ((punctualref_F.f 4 (i1 : Int)).At))]) rfl (by kernel_rfl) ⟨hS53.cell 3 rfl rfl, hS53.cell 3 rfl rfl, hS53.cell 2 rfl rfl, hS53.cell 2 rfl rfl, trivial⟩ ⟨(.slice none 0 0), (.slice none 0 0), rfl, hS56⟩) a hF⟩)
  · rw [if_neg hc5] at h
    refine ge_known (t := 43) (b := decide (e1.Task < 0)) (c := false) (by kernel_rfl) (decide_eq_false hc5) ?_
    refine ge_batch [4, 5, 6, 7, 8, 9] (ans := [.val (.int .i64 e1.Task)]) (vs := [(49, .bool (decide (e1.Task ≥ (l0.length : Int)))), (48, .bool (decide (e1.Task ≥ (l0.length : Int)))), (47, .int .i64 (l0.length : Int)), (46, .slice A0 l0.length c0), (45, .int .i64 e1.Task), (44, .pointer (some ⟨b4, 0, none⟩))]) (l := [.loaded ⟨b4, 0, none⟩ (.int .i64 e1.Task)]) (by kernel_rfl) ⟨hS.cell 0 rfl rfl, trivial⟩ ?_
    refine ge_nil fun a hF => hK17 _ _ ?_ a hF
    by_cases hc6 : e1.Task ≥ (l0.length : Int)
    · rw [if_pos hc6] at h
      refine we_known (t := 49) (b := decide (e1.Task ≥ (l0.length : Int))) (v := true) (by kernel_rfl) (decide_eq_true hc6) ?_
      refine we_true (by kernel_rfl) ?_
      refine we_seq fun K19 hK19 => ?_
      refine we_region [(0, 0), (1, 0), (2, 1), (3, 2), (4, 2)] rfl ?_
      refine ge_batch [0, 1] (ans := []) (vs := [(51, .int .i64 (i1 : Int)), (50, .agg #[.slice none 0 0, .slice none 0 0])]) (l := []) (by kernel_rfl) trivial ?_
      refine ge_call (d := some 52) (f := 74) (args := #[.int .i64 4, .int .i64 (i1 : Int)]) (by kernel_rfl) (punctualref_F_ok 4 (i1 : Int) _ _ rfl) ?_
      rintro _ w18 ⟨rfl, hS57⟩
      refine ⟨_, rfl, hS57.below, ?_⟩
      have hS58 := hS.call hS57
      have hS59 := hS58.bring 2 rfl
      refine ge_set (b := b1) (j := 0) (cs := #[.slice none 0 0, .slice none 0 0]) (t := 36) (vs := [.slice none 0 0, .slice none 0 0]) hS59 (by kernel_rfl) rfl rfl fun w19 hS60 => ?_
      have hS61 : St w0 w19 [Own.blk b1 (.cells #[.slice none 0 0, .slice none 0 0] 36 (0, 0)), Own.blk b4 (.cells #[.int .i64 e1.Task, .int .i64 e1.At] 33 (0, 0)), Own.blk b2 (.cells #[.int .i64 0, .int .i64 0] 39 (0, 0)), Own.of (.slice Z1 m1.length cz1) 58 m1] := hS60
      have hS62 := hS61.bring 2 rfl
      refine ge_set (b := b2) (j := 0) (cs := #[.int .i64 0, .int .i64 0]) (t := 39) (vs := [.int .i64 ((punctualref_F.f 4 (i1 : Int)).Code), .int .i64 ((punctualref_F.f 4 (i1 : Int)).At)]) hS62 (by kernel_rfl) rfl rfl fun w20 hS63 => ?_
      have hS64 : St w0 w20 [Own.blk b2 (.cells #[.int .i64 ((punctualref_F.f 4 (i1 : Int)).Code), .int .i64 ((punctualref_F.f 4 (i1 : Int)).At)] 39 (0, 0)), Own.blk b1 (.cells #[.slice none 0 0, .slice none 0 0] 36 (0, 0)), Own.blk b4 (.cells #[.int .i64 e1.Task, .int .i64 e1.At] 33 (0, 0)), Own.of (.slice Z1 m1.length cz1) 58 m1] := hS63
      refine ge_nil fun a hF => hK19 _ _ ?_ a hF
      have hS65 := hS64.nil (α := Int) 3
      have hS66 := hS65.nil (α := Int) 3
      have hS67 := hS66.bring 1 rfl
      have hS68 := hS67.bring 1 rfl
      have hS69 := hS68.takeN 2
      obtain rfl := Option.some.inj h
      exact we_ret fun a hF => hQ _ _ _ (Outs.out nofun ⟨rfl, (post_ret (rs := [.cell 8 36, .cell 9 39]) (ans := [.val ((.slice none 0 0)), .val ((.slice none 0 0)), .val (.int .i64 ((punctualref_F.f 4 (i1 : Int)).Code)), .val (.int .i64 ((punctualref_F.f 4 (i1 : Int)).At))]) (vs := [.agg #[(.slice none 0 0), (.slice none 0 0)], .agg #[.int .i64 ((punctualref_F.f 4 (i1 : Int)).Code), .int .i64 ((punctualref_F.f 4 (i1 : Int)).At)]]) (l := [.loaded ⟨b1, 0, none⟩ ((.slice none 0 0)), .loaded ⟨b1, 1, none⟩ ((.slice none 0 0)), .loaded ⟨b2, 0, none⟩ (.int .i64 ((punctualref_F.f 4 (i1 : Int)).Code)), .loaded ⟨b2, 1, none⟩ (.int .i64 ((punctualref_F.f 4 (i1 : Int)).At))]) rfl (by kernel_rfl) ⟨hS66.cell 3 rfl rfl, hS66.cell 3 rfl rfl, hS66.cell 2 rfl rfl, hS66.cell 2 rfl rfl, trivial⟩ ⟨(.slice none 0 0), (.slice none 0 0), rfl, hS69⟩) a hF⟩)
    · rw [if_neg hc6] at h
      refine we_known (t := 49) (b := decide (e1.Task ≥ (l0.length : Int))) (v := false) (by kernel_rfl) (decide_eq_false hc6) ?_
      refine we_false (by kernel_rfl) ?_
      have hS70 := hS.bring 3 rfl
      have hS71 := hS70.bring 3 rfl
      have hS72 := hS71.bring 3 rfl
      have hS73 := hS72.bring 3 rfl
      obtain rfl := Option.some.inj h
      exact we_skip fun a hF => hQ _ _ _ (Outs.again ⟨hS73, hF.weaken ⟨by kernel_rfl, by kernel_rfl, by kernel_rfl, by kernel_rfl, by kernel_rfl, by kernel_rfl, by kernel_rfl, by kernel_rfl, by kernel_rfl, by kernel_rfl, by kernel_rfl, trivial⟩⟩)
abbrev punctualref_SendOf.A3 (K : Nat) (w0 : World) (l0 : List SFrame) (A0 : Option Addr) (c0 : Nat) (l1 : List SCome) (A1 : Option Addr) (c1 : Nat) (l2 : List Int) (A2 : Option Addr) (c2 : Nat) (x3 : Int) (hR0 : RdL w0 A0 l0) (hL0 : l0.length ≤ c0) (hR1 : RdL w0 A1 l1) (hL1 : l1.length ≤ c1) (hR2 : RdL w0 A2 l2) (hL2 : l2.length ≤ c2) (b1 : Nat) (b2 : Nat) (r1 : SFault) (b3 : Nat) (hc1 : r1.Code = 0) (m1 : List SJob) (i1 : Nat) (hc4 : (i1 : Int) < (l1.length : Int)) (e1 : SCome) (hx4 : l1[i1]? = some e1) (b4 : Nat) (Z1 : Option Addr) (cz1 : Nat) : Unit → Act → World → Prop := fun (s : Unit) a w => St w0 w [Own.blk b4 (.cells #[.int .i64 e1.Task, .int .i64 e1.At] 33 (0, 0)), Own.blk b2 (.cells #[.int .i64 0, .int .i64 0] 39 (0, 0)), Own.blk b1 (.cells #[.slice none 0 0, .slice none 0 0] 36 (0, 0)), Own.of (.slice Z1 m1.length cz1) 58 m1] ∧ Frm 123 a [(0, .slice A0 l0.length c0), (2, .slice A2 l2.length c2), (3, .int .i64 x3), (8, .pointer (some ⟨b1, 0, none⟩)), (9, .pointer (some ⟨b2, 0, none⟩)), (11, (.slice Z1 m1.length cz1)), (12, .int .i64 (i1 : Int)), (13, .pointer (some ⟨b4, 0, none⟩)), (33, .slice A1 l1.length c1), (34, .int .i64 (l1.length : Int)), (35, .int .i64 (i1 : Int))]
abbrev punctualref_SendOf.B3 (K : Nat) (w0 : World) (l0 : List SFrame) (A0 : Option Addr) (c0 : Nat) (l1 : List SCome) (A1 : Option Addr) (c1 : Nat) (l2 : List Int) (A2 : Option Addr) (c2 : Nat) (x3 : Int) (hR0 : RdL w0 A0 l0) (hL0 : l0.length ≤ c0) (hR1 : RdL w0 A1 l1) (hL1 : l1.length ≤ c1) (hR2 : RdL w0 A2 l2) (hL2 : l2.length ≤ c2) (b1 : Nat) (b2 : Nat) (r1 : SFault) (b3 : Nat) (hc1 : r1.Code = 0) (m1 : List SJob) (i1 : Nat) (hc4 : (i1 : Int) < (l1.length : Int)) (e1 : SCome) (hx4 : l1[i1]? = some e1) (b4 : Nat) (Z1 : Option Addr) (cz1 : Nat) : (SPlayed × SFault) → Exit → Act → World → Prop := Rets Tryd.prog Tryd.f17 (punctualref_SendOf.Post w0)
theorem punctualref_SendOf_p3 (K : Nat) (w0 : World) (l0 : List SFrame) (A0 : Option Addr) (c0 : Nat) (l1 : List SCome) (A1 : Option Addr) (c1 : Nat) (l2 : List Int) (A2 : Option Addr) (c2 : Nat) (x3 : Int) (hR0 : RdL w0 A0 l0) (hL0 : l0.length ≤ c0) (hR1 : RdL w0 A1 l1) (hL1 : l1.length ≤ c1) (hR2 : RdL w0 A2 l2) (hL2 : l2.length ≤ c2) (b1 : Nat) (b2 : Nat) (r1 : SFault) (b3 : Nat) (hc1 : r1.Code = 0) (m1 : List SJob) (i1 : Nat) (hc4 : (i1 : Int) < (l1.length : Int)) (e1 : SCome) (hx4 : l1[i1]? = some e1) (b4 : Nat) (Z1 : Option Addr) (cz1 : Nat) (o : Unit ⊕ (SPlayed × SFault)) (h : punctualref_SendOf.p3 l0 l2 i1 e1 = some o) (w : World) (hS : St w0 w [Own.blk b4 (.cells #[.int .i64 e1.Task, .int .i64 e1.At] 33 (0, 0)), Own.blk b2 (.cells #[.int .i64 0, .int .i64 0] 39 (0, 0)), Own.blk b1 (.cells #[.slice none 0 0, .slice none 0 0] 36 (0, 0)), Own.of (.slice Z1 m1.length cz1) 58 m1]) (Q : Exit → Act → World → Prop) (hQ : ∀ x a w, Outs (punctualref_SendOf.A3 K w0 l0 A0 c0 l1 A1 c1 l2 A2 c2 x3 hR0 hL0 hR1 hL1 hR2 hL2 b1 b2 r1 b3 hc1 m1 i1 hc4 e1 hx4 b4 Z1 cz1) (punctualref_SendOf.B3 K w0 l0 A0 c0 l1 A1 c1 l2 A2 c2 x3 hR0 hL0 hR1 hL1 hR2 hL2 b1 b2 r1 b3 hc1 m1 i1 hc4 e1 hx4 b4 Z1 cz1) o x a w → Q x a w) : WE Tryd.prog 123 (subF Tryd.f17 [1, 1, 1, 1, 0, 1, 0, 0, 1, 1, 0, 0, 1, 1, 0]) Q [(0, .slice A0 l0.length c0), (2, .slice A2 l2.length c2), (3, .int .i64 x3), (8, .pointer (some ⟨b1, 0, none⟩)), (9, .pointer (some ⟨b2, 0, none⟩)), (11, (.slice Z1 m1.length cz1)), (12, .int .i64 (i1 : Int)), (13, .pointer (some ⟨b4, 0, none⟩)), (33, .slice A1 l1.length c1), (34, .int .i64 (l1.length : Int)), (35, .int .i64 (i1 : Int))] w := by
  simp only [punctualref_SendOf.p3] at h
  refine we_seq fun K21 hK21 => ?_
  refine we_draws (by kernel_rfl) [(0, 0), (1, 0), (2, 0), (3, 0), (4, 0), (5, 0), (6, 0), (7, 0), (8, 0), (9, 0), (10, 0), (11, 0), (12, 0), (13, 0), (14, 0), (15, 0), (16, 0), (17, 0), (18, 0), (19, 0), (20, 0), (21, 0), (22, 0), (23, 0), (24, 0), (25, 0), (26, 0), (27, 0)] (by kernel_rfl) ?_
  have hS75 := hS.drew
  refine ge_batch [0, 1, 2, 3] (ans := [.val (.int .i64 e1.At)]) (vs := [(56, .bool (decide (e1.At < 0))), (55, .bool (decide (e1.At < 0))), (54, .int .i64 e1.At), (53, .pointer (some ⟨b4, 1, none⟩))]) (l := [.loaded ⟨b4, 1, none⟩ (.int .i64 e1.At)]) (by kernel_rfl) ⟨hS75.cell 0 rfl rfl, trivial⟩ ?_
  by_cases hc7 : e1.At < 0
  · rw [if_pos hc7] at h
    refine ge_known (t := 56) (b := decide (e1.At < 0)) (c := true) (by kernel_rfl) (decide_eq_true hc7) ?_
    refine ge_batch [4, 5, 6, 7, 8, 9, 10, 11, 12, 13, 14, 15, 16, 17, 18, 19, 20, 21, 22, 23, 24, 25, 26, 27] (ans := []) (vs := [(80, .bool true), (79, undef), (78, undef), (77, undef), (76, undef), (75, undef), (74, undef), (73, undef), (72, undef), (71, undef), (70, undef), (69, undef), (68, .bool true), (67, .bool true), (66, undef), (65, undef), (64, undef), (63, undef), (62, undef), (61, .bool true), (60, .bool true), (59, undef), (58, undef), (57, undef)]) (l := []) (by kernel_rfl) trivial ?_
    refine ge_nil fun a hF => hK21 _ _ ?_ a hF
    refine we_true (by kernel_rfl) ?_
    refine we_seq fun K22 hK22 => ?_
    refine we_region [(0, 0), (1, 0), (2, 1), (3, 2), (4, 2)] rfl ?_
    refine ge_batch [0, 1] (ans := []) (vs := [(82, .int .i64 (i1 : Int)), (81, .agg #[.slice none 0 0, .slice none 0 0])]) (l := []) (by kernel_rfl) trivial ?_
    refine ge_call (d := some 83) (f := 74) (args := #[.int .i64 3, .int .i64 (i1 : Int)]) (by kernel_rfl) (punctualref_F_ok 3 (i1 : Int) _ _ rfl) ?_
    rintro _ w22 ⟨rfl, hS76⟩
    refine ⟨_, rfl, hS76.below, ?_⟩
    have hS77 := hS75.call hS76
    have hS78 := hS77.bring 2 rfl
    refine ge_set (b := b1) (j := 0) (cs := #[.slice none 0 0, .slice none 0 0]) (t := 36) (vs := [.slice none 0 0, .slice none 0 0]) hS78 (by kernel_rfl) rfl rfl fun w23 hS79 => ?_
    have hS80 : St w0 w23 [Own.blk b1 (.cells #[.slice none 0 0, .slice none 0 0] 36 (0, 0)), Own.blk b4 (.cells #[.int .i64 e1.Task, .int .i64 e1.At] 33 (0, 0)), Own.blk b2 (.cells #[.int .i64 0, .int .i64 0] 39 (0, 0)), Own.of (.slice Z1 m1.length cz1) 58 m1] := hS79
    have hS81 := hS80.bring 2 rfl
    refine ge_set (b := b2) (j := 0) (cs := #[.int .i64 0, .int .i64 0]) (t := 39) (vs := [.int .i64 ((punctualref_F.f 3 (i1 : Int)).Code), .int .i64 ((punctualref_F.f 3 (i1 : Int)).At)]) hS81 (by kernel_rfl) rfl rfl fun w24 hS82 => ?_
    have hS83 : St w0 w24 [Own.blk b2 (.cells #[.int .i64 ((punctualref_F.f 3 (i1 : Int)).Code), .int .i64 ((punctualref_F.f 3 (i1 : Int)).At)] 39 (0, 0)), Own.blk b1 (.cells #[.slice none 0 0, .slice none 0 0] 36 (0, 0)), Own.blk b4 (.cells #[.int .i64 e1.Task, .int .i64 e1.At] 33 (0, 0)), Own.of (.slice Z1 m1.length cz1) 58 m1] := hS82
    refine ge_nil fun a hF => hK22 _ _ ?_ a hF
    have hS84 := hS83.nil (α := Int) 3
    have hS85 := hS84.nil (α := Int) 3
    have hS86 := hS85.bring 1 rfl
    have hS87 := hS86.bring 1 rfl
    have hS88 := hS87.takeN 2
    obtain rfl := Option.some.inj h
    exact we_ret fun a hF => hQ _ _ _ (Outs.out nofun ⟨rfl, (post_ret (rs := [.cell 8 36, .cell 9 39]) (ans := [.val ((.slice none 0 0)), .val ((.slice none 0 0)), .val (.int .i64 ((punctualref_F.f 3 (i1 : Int)).Code)), .val (.int .i64 ((punctualref_F.f 3 (i1 : Int)).At))]) (vs := [.agg #[(.slice none 0 0), (.slice none 0 0)], .agg #[.int .i64 ((punctualref_F.f 3 (i1 : Int)).Code), .int .i64 ((punctualref_F.f 3 (i1 : Int)).At)]]) (l := [.loaded ⟨b1, 0, none⟩ ((.slice none 0 0)), .loaded ⟨b1, 1, none⟩ ((.slice none 0 0)), .loaded ⟨b2, 0, none⟩ (.int .i64 ((punctualref_F.f 3 (i1 : Int)).Code)), .loaded ⟨b2, 1, none⟩ (.int .i64 ((punctualref_F.f 3 (i1 : Int)).At))]) rfl (by kernel_rfl) ⟨hS85.cell 3 rfl rfl, hS85.cell 3 rfl rfl, hS85.cell 2 rfl rfl, hS85.cell 2 rfl rfl, trivial⟩ ⟨(.slice none 0 0), (.slice none 0 0), rfl, hS88⟩) a hF⟩)
  · rw [if_neg hc7] at h
    refine ge_known (t := 56) (b := decide (e1.At < 0)) (c := false) (by kernel_rfl) (decide_eq_false hc7) ?_
    refine ge_batch [4, 5, 6, 7, 8] (ans := [.val (.int .i64 e1.At)]) (vs := [(61, .bool (decide (e1.At > 20000))), (60, .bool (decide (e1.At > 20000))), (59, .bool (decide (e1.At > 20000))), (58, .int .i64 e1.At), (57, .pointer (some ⟨b4, 1, none⟩))]) (l := [.loaded ⟨b4, 1, none⟩ (.int .i64 e1.At)]) (by kernel_rfl) ⟨hS75.cell 0 rfl rfl, trivial⟩ ?_
    by_cases hc8 : e1.At > 20000
    · rw [if_pos hc8] at h
      refine ge_known (t := 61) (b := decide (e1.At > 20000)) (c := true) (by kernel_rfl) (decide_eq_true hc8) ?_
      refine ge_batch [9, 10, 11, 12, 13, 14, 15, 16, 17, 18, 19, 20, 21, 22, 23, 24, 25, 26, 27] (ans := []) (vs := [(80, .bool true), (79, undef), (78, undef), (77, undef), (76, undef), (75, undef), (74, undef), (73, undef), (72, undef), (71, undef), (70, undef), (69, undef), (68, .bool true), (67, .bool true), (66, undef), (65, undef), (64, undef), (63, undef), (62, undef)]) (l := []) (by kernel_rfl) trivial ?_
      refine ge_nil fun a hF => hK21 _ _ ?_ a hF
      refine we_true (by kernel_rfl) ?_
      refine we_seq fun K23 hK23 => ?_
      refine we_region [(0, 0), (1, 0), (2, 1), (3, 2), (4, 2)] rfl ?_
      refine ge_batch [0, 1] (ans := []) (vs := [(82, .int .i64 (i1 : Int)), (81, .agg #[.slice none 0 0, .slice none 0 0])]) (l := []) (by kernel_rfl) trivial ?_
      refine ge_call (d := some 83) (f := 74) (args := #[.int .i64 3, .int .i64 (i1 : Int)]) (by kernel_rfl) (punctualref_F_ok 3 (i1 : Int) _ _ rfl) ?_
      rintro _ w25 ⟨rfl, hS89⟩
      refine ⟨_, rfl, hS89.below, ?_⟩
      have hS90 := hS75.call hS89
      have hS91 := hS90.bring 2 rfl
      refine ge_set (b := b1) (j := 0) (cs := #[.slice none 0 0, .slice none 0 0]) (t := 36) (vs := [.slice none 0 0, .slice none 0 0]) hS91 (by kernel_rfl) rfl rfl fun w26 hS92 => ?_
      have hS93 : St w0 w26 [Own.blk b1 (.cells #[.slice none 0 0, .slice none 0 0] 36 (0, 0)), Own.blk b4 (.cells #[.int .i64 e1.Task, .int .i64 e1.At] 33 (0, 0)), Own.blk b2 (.cells #[.int .i64 0, .int .i64 0] 39 (0, 0)), Own.of (.slice Z1 m1.length cz1) 58 m1] := hS92
      have hS94 := hS93.bring 2 rfl
      refine ge_set (b := b2) (j := 0) (cs := #[.int .i64 0, .int .i64 0]) (t := 39) (vs := [.int .i64 ((punctualref_F.f 3 (i1 : Int)).Code), .int .i64 ((punctualref_F.f 3 (i1 : Int)).At)]) hS94 (by kernel_rfl) rfl rfl fun w27 hS95 => ?_
      have hS96 : St w0 w27 [Own.blk b2 (.cells #[.int .i64 ((punctualref_F.f 3 (i1 : Int)).Code), .int .i64 ((punctualref_F.f 3 (i1 : Int)).At)] 39 (0, 0)), Own.blk b1 (.cells #[.slice none 0 0, .slice none 0 0] 36 (0, 0)), Own.blk b4 (.cells #[.int .i64 e1.Task, .int .i64 e1.At] 33 (0, 0)), Own.of (.slice Z1 m1.length cz1) 58 m1] := hS95
      refine ge_nil fun a hF => hK23 _ _ ?_ a hF
      have hS97 := hS96.nil (α := Int) 3
      have hS98 := hS97.nil (α := Int) 3
      have hS99 := hS98.bring 1 rfl
      have hS100 := hS99.bring 1 rfl
      have hS101 := hS100.takeN 2
      obtain rfl := Option.some.inj h
      exact we_ret fun a hF => hQ _ _ _ (Outs.out nofun ⟨rfl, (post_ret (rs := [.cell 8 36, .cell 9 39]) (ans := [.val ((.slice none 0 0)), .val ((.slice none 0 0)), .val (.int .i64 ((punctualref_F.f 3 (i1 : Int)).Code)), .val (.int .i64 ((punctualref_F.f 3 (i1 : Int)).At))]) (vs := [.agg #[(.slice none 0 0), (.slice none 0 0)], .agg #[.int .i64 ((punctualref_F.f 3 (i1 : Int)).Code), .int .i64 ((punctualref_F.f 3 (i1 : Int)).At)]]) (l := [.loaded ⟨b1, 0, none⟩ ((.slice none 0 0)), .loaded ⟨b1, 1, none⟩ ((.slice none 0 0)), .loaded ⟨b2, 0, none⟩ (.int .i64 ((punctualref_F.f 3 (i1 : Int)).Code)), .loaded ⟨b2, 1, none⟩ (.int .i64 ((punctualref_F.f 3 (i1 : Int)).At))]) rfl (by kernel_rfl) ⟨hS98.cell 3 rfl rfl, hS98.cell 3 rfl rfl, hS98.cell 2 rfl rfl, hS98.cell 2 rfl rfl, trivial⟩ ⟨(.slice none 0 0), (.slice none 0 0), rfl, hS101⟩) a hF⟩)
    · rw [if_neg hc8] at h
      refine ge_known (t := 61) (b := decide (e1.At > 20000)) (c := false) (by kernel_rfl) (decide_eq_false hc8) ?_
      refine ge_batch [9, 10] (ans := []) (vs := [(63, .int .i64 (i1 : Int)), (62, .slice A2 l2.length c2)]) (l := []) (by kernel_rfl) trivial ?_
      rcases hx6 : l2[i1]? with _ | e2
      · rw [hx6] at h; cases h
      rw [hx6] at h
      simp only [] at h
      refine ge_index (d := 64) (ty := 0) (t := 24) (el := 3) (sz := 1) (m := l2.length) (c := c2) (x := (.tmp 62)) (y := (.tmp 63)) (A := A2) (k' := .i64) (j := (i1 : Int)) (jn := i1) (b0 := blkOf A2) (o0 := offOf A2) (by kernel_rfl) (by kernel_rfl) (by kernel_rfl) (by kernel_rfl) (by kernel_rfl) ((hS75.rd hR2).eqSome (pos_of_get hx6)) rfl (lt_of_get hx6) ?_
      refine ge_batch [12, 13, 14, 15] (ans := [.val (.int .i64 e2)]) (vs := [(68, .bool (decide (e2 < 0))), (67, .bool (decide (e2 < 0))), (66, .bool (decide (e2 < 0))), (65, .int .i64 e2)]) (l := [.loaded ⟨blkOf A2, offOf A2 + i1 * 1, none⟩ (.int .i64 e2)]) (by kernel_rfl) ⟨RdL.cell (j := 0) (hS75.rd hR2) hx6 rfl, trivial⟩ ?_
      by_cases hc9 : e2 < 0
      · rw [if_pos hc9] at h
        refine ge_known (t := 68) (b := decide (e2 < 0)) (c := true) (by kernel_rfl) (decide_eq_true hc9) ?_
        refine ge_batch [16, 17, 18, 19, 20, 21, 22, 23, 24, 25, 26, 27] (ans := []) (vs := [(80, .bool true), (79, undef), (78, undef), (77, undef), (76, undef), (75, undef), (74, undef), (73, undef), (72, undef), (71, undef), (70, undef), (69, undef)]) (l := []) (by kernel_rfl) trivial ?_
        refine ge_nil fun a hF => hK21 _ _ ?_ a hF
        refine we_true (by kernel_rfl) ?_
        refine we_seq fun K24 hK24 => ?_
        refine we_region [(0, 0), (1, 0), (2, 1), (3, 2), (4, 2)] rfl ?_
        refine ge_batch [0, 1] (ans := []) (vs := [(82, .int .i64 (i1 : Int)), (81, .agg #[.slice none 0 0, .slice none 0 0])]) (l := []) (by kernel_rfl) trivial ?_
        refine ge_call (d := some 83) (f := 74) (args := #[.int .i64 3, .int .i64 (i1 : Int)]) (by kernel_rfl) (punctualref_F_ok 3 (i1 : Int) _ _ rfl) ?_
        rintro _ w28 ⟨rfl, hS102⟩
        refine ⟨_, rfl, hS102.below, ?_⟩
        have hS103 := hS75.call hS102
        have hS104 := hS103.bring 2 rfl
        refine ge_set (b := b1) (j := 0) (cs := #[.slice none 0 0, .slice none 0 0]) (t := 36) (vs := [.slice none 0 0, .slice none 0 0]) hS104 (by kernel_rfl) rfl rfl fun w29 hS105 => ?_
        have hS106 : St w0 w29 [Own.blk b1 (.cells #[.slice none 0 0, .slice none 0 0] 36 (0, 0)), Own.blk b4 (.cells #[.int .i64 e1.Task, .int .i64 e1.At] 33 (0, 0)), Own.blk b2 (.cells #[.int .i64 0, .int .i64 0] 39 (0, 0)), Own.of (.slice Z1 m1.length cz1) 58 m1] := hS105
        have hS107 := hS106.bring 2 rfl
        refine ge_set (b := b2) (j := 0) (cs := #[.int .i64 0, .int .i64 0]) (t := 39) (vs := [.int .i64 ((punctualref_F.f 3 (i1 : Int)).Code), .int .i64 ((punctualref_F.f 3 (i1 : Int)).At)]) hS107 (by kernel_rfl) rfl rfl fun w30 hS108 => ?_
        have hS109 : St w0 w30 [Own.blk b2 (.cells #[.int .i64 ((punctualref_F.f 3 (i1 : Int)).Code), .int .i64 ((punctualref_F.f 3 (i1 : Int)).At)] 39 (0, 0)), Own.blk b1 (.cells #[.slice none 0 0, .slice none 0 0] 36 (0, 0)), Own.blk b4 (.cells #[.int .i64 e1.Task, .int .i64 e1.At] 33 (0, 0)), Own.of (.slice Z1 m1.length cz1) 58 m1] := hS108
        refine ge_nil fun a hF => hK24 _ _ ?_ a hF
        have hS110 := hS109.nil (α := Int) 3
        have hS111 := hS110.nil (α := Int) 3
        have hS112 := hS111.bring 1 rfl
        have hS113 := hS112.bring 1 rfl
        have hS114 := hS113.takeN 2
        obtain rfl := Option.some.inj h
        exact we_ret fun a hF => hQ _ _ _ (Outs.out nofun ⟨rfl, (post_ret (rs := [.cell 8 36, .cell 9 39]) (ans := [.val ((.slice none 0 0)), .val ((.slice none 0 0)), .val (.int .i64 ((punctualref_F.f 3 (i1 : Int)).Code)), .val (.int .i64 ((punctualref_F.f 3 (i1 : Int)).At))]) (vs := [.agg #[(.slice none 0 0), (.slice none 0 0)], .agg #[.int .i64 ((punctualref_F.f 3 (i1 : Int)).Code), .int .i64 ((punctualref_F.f 3 (i1 : Int)).At)]]) (l := [.loaded ⟨b1, 0, none⟩ ((.slice none 0 0)), .loaded ⟨b1, 1, none⟩ ((.slice none 0 0)), .loaded ⟨b2, 0, none⟩ (.int .i64 ((punctualref_F.f 3 (i1 : Int)).Code)), .loaded ⟨b2, 1, none⟩ (.int .i64 ((punctualref_F.f 3 (i1 : Int)).At))]) rfl (by kernel_rfl) ⟨hS111.cell 3 rfl rfl, hS111.cell 3 rfl rfl, hS111.cell 2 rfl rfl, hS111.cell 2 rfl rfl, trivial⟩ ⟨(.slice none 0 0), (.slice none 0 0), rfl, hS114⟩) a hF⟩)
      · rw [if_neg hc9] at h
        refine ge_known (t := 68) (b := decide (e2 < 0)) (c := false) (by kernel_rfl) (decide_eq_false hc9) ?_
        refine ge_batch [16, 17] (ans := []) (vs := [(70, .int .i64 (i1 : Int)), (69, .slice A2 l2.length c2)]) (l := []) (by kernel_rfl) trivial ?_
        refine ge_index (d := 71) (ty := 0) (t := 24) (el := 3) (sz := 1) (m := l2.length) (c := c2) (x := (.tmp 69)) (y := (.tmp 70)) (A := A2) (k' := .i64) (j := (i1 : Int)) (jn := i1) (b0 := blkOf A2) (o0 := offOf A2) (by kernel_rfl) (by kernel_rfl) (by kernel_rfl) (by kernel_rfl) (by kernel_rfl) ((hS75.rd hR2).eqSome (pos_of_get hx6)) rfl (lt_of_get hx6) ?_
        refine ge_batch [19, 20, 21, 22] (ans := [.val (.int .i64 e2), .val (.int .i64 e1.Task)]) (vs := [(75, .int .i64 e1.Task), (74, .pointer (some ⟨b4, 0, none⟩)), (73, .slice A0 l0.length c0), (72, .int .i64 e2)]) (l := [.loaded ⟨blkOf A2, offOf A2 + i1 * 1, none⟩ (.int .i64 e2), .loaded ⟨b4, 0, none⟩ (.int .i64 e1.Task)]) (by kernel_rfl) ⟨RdL.cell (j := 0) (hS75.rd hR2) hx6 rfl, hS75.cell 0 rfl rfl, trivial⟩ ?_
        by_cases hc10 : 0 ≤ e1.Task
        · rw [if_pos hc10] at h
          rcases hx7 : l0[(e1.Task).toNat]? with _ | e3
          · rw [hx7] at h; cases h
          rw [hx7] at h
          simp only [] at h
          refine ge_index (d := 76) (ty := 0) (t := 22) (el := 30) (sz := 4) (m := l0.length) (c := c0) (x := (.tmp 73)) (y := (.tmp 75)) (A := A0) (k' := .i64) (j := e1.Task) (jn := ((e1.Task).toNat)) (b0 := blkOf A0) (o0 := offOf A0) (by kernel_rfl) (by kernel_rfl) (by kernel_rfl) (by kernel_rfl) (by kernel_rfl) ((hS75.rd hR0).eqSome (pos_of_get hx7)) (Int.toNat_of_nonneg hc10).symm (lt_of_get hx7) ?_
          refine ge_batch [24, 25, 26, 27] (ans := [.val (.int .i64 e3.J)]) (vs := [(80, .bool (decide (e2 > e3.J))), (79, .bool (decide (e2 > e3.J))), (78, .int .i64 e3.J), (77, .pointer (some ⟨blkOf A0, offOf A0 + (e1.Task).toNat * 4 + 3, none⟩))]) (l := [.loaded ⟨blkOf A0, offOf A0 + ((e1.Task).toNat) * 4 + 3, none⟩ (.int .i64 e3.J)]) (by kernel_rfl) ⟨RdL.cell (j := 3) (hS75.rd hR0) hx7 rfl, trivial⟩ ?_
          refine ge_nil fun a hF => hK21 _ _ ?_ a hF
          by_cases hc11 : e2 > e3.J
          · rw [if_pos hc11] at h
            refine we_known (t := 80) (b := decide (e2 > e3.J)) (v := true) (by kernel_rfl) (decide_eq_true hc11) ?_
            refine we_true (by kernel_rfl) ?_
            refine we_seq fun K25 hK25 => ?_
            refine we_region [(0, 0), (1, 0), (2, 1), (3, 2), (4, 2)] rfl ?_
            refine ge_batch [0, 1] (ans := []) (vs := [(82, .int .i64 (i1 : Int)), (81, .agg #[.slice none 0 0, .slice none 0 0])]) (l := []) (by kernel_rfl) trivial ?_
            refine ge_call (d := some 83) (f := 74) (args := #[.int .i64 3, .int .i64 (i1 : Int)]) (by kernel_rfl) (punctualref_F_ok 3 (i1 : Int) _ _ rfl) ?_
            rintro _ w31 ⟨rfl, hS115⟩
            refine ⟨_, rfl, hS115.below, ?_⟩
            have hS116 := hS75.call hS115
            have hS117 := hS116.bring 2 rfl
            refine ge_set (b := b1) (j := 0) (cs := #[.slice none 0 0, .slice none 0 0]) (t := 36) (vs := [.slice none 0 0, .slice none 0 0]) hS117 (by kernel_rfl) rfl rfl fun w32 hS118 => ?_
            have hS119 : St w0 w32 [Own.blk b1 (.cells #[.slice none 0 0, .slice none 0 0] 36 (0, 0)), Own.blk b4 (.cells #[.int .i64 e1.Task, .int .i64 e1.At] 33 (0, 0)), Own.blk b2 (.cells #[.int .i64 0, .int .i64 0] 39 (0, 0)), Own.of (.slice Z1 m1.length cz1) 58 m1] := hS118
            have hS120 := hS119.bring 2 rfl
            refine ge_set (b := b2) (j := 0) (cs := #[.int .i64 0, .int .i64 0]) (t := 39) (vs := [.int .i64 ((punctualref_F.f 3 (i1 : Int)).Code), .int .i64 ((punctualref_F.f 3 (i1 : Int)).At)]) hS120 (by kernel_rfl) rfl rfl fun w33 hS121 => ?_
            have hS122 : St w0 w33 [Own.blk b2 (.cells #[.int .i64 ((punctualref_F.f 3 (i1 : Int)).Code), .int .i64 ((punctualref_F.f 3 (i1 : Int)).At)] 39 (0, 0)), Own.blk b1 (.cells #[.slice none 0 0, .slice none 0 0] 36 (0, 0)), Own.blk b4 (.cells #[.int .i64 e1.Task, .int .i64 e1.At] 33 (0, 0)), Own.of (.slice Z1 m1.length cz1) 58 m1] := hS121
            refine ge_nil fun a hF => hK25 _ _ ?_ a hF
            have hS123 := hS122.nil (α := Int) 3
            have hS124 := hS123.nil (α := Int) 3
            have hS125 := hS124.bring 1 rfl
            have hS126 := hS125.bring 1 rfl
            have hS127 := hS126.takeN 2
            obtain rfl := Option.some.inj h
            exact we_ret fun a hF => hQ _ _ _ (Outs.out nofun ⟨rfl, (post_ret (rs := [.cell 8 36, .cell 9 39]) (ans := [.val ((.slice none 0 0)), .val ((.slice none 0 0)), .val (.int .i64 ((punctualref_F.f 3 (i1 : Int)).Code)), .val (.int .i64 ((punctualref_F.f 3 (i1 : Int)).At))]) (vs := [.agg #[(.slice none 0 0), (.slice none 0 0)], .agg #[.int .i64 ((punctualref_F.f 3 (i1 : Int)).Code), .int .i64 ((punctualref_F.f 3 (i1 : Int)).At)]]) (l := [.loaded ⟨b1, 0, none⟩ ((.slice none 0 0)), .loaded ⟨b1, 1, none⟩ ((.slice none 0 0)), .loaded ⟨b2, 0, none⟩ (.int .i64 ((punctualref_F.f 3 (i1 : Int)).Code)), .loaded ⟨b2, 1, none⟩ (.int .i64 ((punctualref_F.f 3 (i1 : Int)).At))]) rfl (by kernel_rfl) ⟨hS124.cell 3 rfl rfl, hS124.cell 3 rfl rfl, hS124.cell 2 rfl rfl, hS124.cell 2 rfl rfl, trivial⟩ ⟨(.slice none 0 0), (.slice none 0 0), rfl, hS127⟩) a hF⟩)
          · rw [if_neg hc11] at h
            refine we_known (t := 80) (b := decide (e2 > e3.J)) (v := false) (by kernel_rfl) (decide_eq_false hc11) ?_
            refine we_false (by kernel_rfl) ?_
            have hS128 := hS75.bring 3 rfl
            have hS129 := hS128.bring 3 rfl
            have hS130 := hS129.bring 3 rfl
            have hS131 := hS130.bring 3 rfl
            obtain rfl := Option.some.inj h
            exact we_skip fun a hF => hQ _ _ _ (Outs.again ⟨hS131, hF.weaken ⟨by kernel_rfl, by kernel_rfl, by kernel_rfl, by kernel_rfl, by kernel_rfl, by kernel_rfl, by kernel_rfl, by kernel_rfl, by kernel_rfl, by kernel_rfl, by kernel_rfl, trivial⟩⟩)
        · rw [if_neg hc10] at h
          cases h
abbrev punctualref_SendOf.A1 (K : Nat) (w0 : World) (l0 : List SFrame) (A0 : Option Addr) (c0 : Nat) (l1 : List SCome) (A1 : Option Addr) (c1 : Nat) (l2 : List Int) (A2 : Option Addr) (c2 : Nat) (x3 : Int) (hR0 : RdL w0 A0 l0) (hL0 : l0.length ≤ c0) (hR1 : RdL w0 A1 l1) (hL1 : l1.length ≤ c1) (hR2 : RdL w0 A2 l2) (hL2 : l2.length ≤ c2) (b1 : Nat) (b2 : Nat) (r1 : SFault) (b3 : Nat) (hc1 : r1.Code = 0) : ((List SJob) × Nat) → Act → World → Prop := fun (s : (List SJob) × Nat) a w => ∃ (v1 : Value), St w0 w [Own.blk b2 (.cells #[.int .i64 0, .int .i64 0] 39 (0, 0)), Own.blk b1 (.cells #[.slice none 0 0, .slice none 0 0] 36 (0, 0)), Own.of v1 58 s.1] ∧ Frm 123 a [(0, .slice A0 l0.length c0), (2, .slice A2 l2.length c2), (3, .int .i64 x3), (8, .pointer (some ⟨b1, 0, none⟩)), (9, .pointer (some ⟨b2, 0, none⟩)), (11, v1), (33, .slice A1 l1.length c1), (34, .int .i64 (l1.length : Int)), (35, .int .i64 (s.2 : Int))]
abbrev punctualref_SendOf.B1 (K : Nat) (w0 : World) (l0 : List SFrame) (A0 : Option Addr) (c0 : Nat) (l1 : List SCome) (A1 : Option Addr) (c1 : Nat) (l2 : List Int) (A2 : Option Addr) (c2 : Nat) (x3 : Int) (hR0 : RdL w0 A0 l0) (hL0 : l0.length ≤ c0) (hR1 : RdL w0 A1 l1) (hL1 : l1.length ≤ c1) (hR2 : RdL w0 A2 l2) (hL2 : l2.length ≤ c2) (b1 : Nat) (b2 : Nat) (r1 : SFault) (b3 : Nat) (hc1 : r1.Code = 0) : ((List SJob) ⊕ (SPlayed × SFault)) → Exit → Act → World → Prop := Exits 0 (fun (s : (List SJob)) a w => ∃ (v2 : Value), St w0 w [Own.blk b2 (.cells #[.int .i64 0, .int .i64 0] 39 (0, 0)), Own.blk b1 (.cells #[.slice none 0 0, .slice none 0 0] 36 (0, 0)), Own.of v2 58 s] ∧ Frm 123 a [(3, .int .i64 x3), (8, .pointer (some ⟨b1, 0, none⟩)), (9, .pointer (some ⟨b2, 0, none⟩)), (11, v2)]) (Rets Tryd.prog Tryd.f17 (punctualref_SendOf.Post w0))
theorem punctualref_SendOf_r1 (K : Nat) (w0 : World) (l0 : List SFrame) (A0 : Option Addr) (c0 : Nat) (l1 : List SCome) (A1 : Option Addr) (c1 : Nat) (l2 : List Int) (A2 : Option Addr) (c2 : Nat) (x3 : Int) (hR0 : RdL w0 A0 l0) (hL0 : l0.length ≤ c0) (hR1 : RdL w0 A1 l1) (hL1 : l1.length ≤ c1) (hR2 : RdL w0 A2 l2) (hL2 : l2.length ≤ c2) (b1 : Nat) (b2 : Nat) (r1 : SFault) (b3 : Nat) (hc1 : r1.Code = 0) (s : (List SJob) × Nat) (o : ((List SJob) × Nat) ⊕ ((List SJob) ⊕ (SPlayed × SFault))) (h : punctualref_SendOf.r1 l0 l1 l2 s = some o) (a : Act) (w : World) (hA : punctualref_SendOf.A1 K w0 l0 A0 c0 l1 A1 c1 l2 A2 c2 x3 hR0 hL0 hR1 hL1 hR2 hL2 b1 b2 r1 b3 hc1 s a w) (Q : Exit → Act → World → Prop) (hQ : ∀ x a w, Outs (punctualref_SendOf.A1 K w0 l0 A0 c0 l1 A1 c1 l2 A2 c2 x3 hR0 hL0 hR1 hL1 hR2 hL2 b1 b2 r1 b3 hc1) (punctualref_SendOf.B1 K w0 l0 A0 c0 l1 A1 c1 l2 A2 c2 x3 hR0 hL0 hR1 hL1 hR2 hL2 b1 b2 r1 b3 hc1) o x a w → Q x a w) : (subF Tryd.f17 [1, 1, 1, 1, 0, 1, 0, 0]).wp Tryd.prog Q a w := by
  obtain ⟨m1, i1⟩ := s
  obtain ⟨v1, hS, hF⟩ := hA
  replace hS : St w0 w [Own.blk b2 (.cells #[.int .i64 0, .int .i64 0] 39 (0, 0)), Own.blk b1 (.cells #[.slice none 0 0, .slice none 0 0] 36 (0, 0)), Own.of v1 58 m1] := hS
  simp only [punctualref_SendOf.r1] at h
  refine (?_ : WE Tryd.prog 123 (subF Tryd.f17 [1, 1, 1, 1, 0, 1, 0, 0]) Q [(0, .slice A0 l0.length c0), (2, .slice A2 l2.length c2), (3, .int .i64 x3), (8, .pointer (some ⟨b1, 0, none⟩)), (9, .pointer (some ⟨b2, 0, none⟩)), (11, v1), (33, .slice A1 l1.length c1), (34, .int .i64 (l1.length : Int)), (35, .int .i64 (i1 : Int))] w) a hF
  clear hF a
  refine we_seq fun K12 hK12 => ?_
  refine we_region [(0, 0)] rfl ?_
  refine ge_batch [0] (ans := []) (vs := [(36, .bool (decide ((i1 : Int) < (l1.length : Int))))]) (l := []) (by kernel_rfl) trivial ?_
  refine ge_nil fun a hF => hK12 _ _ ?_ a hF
  refine we_seq fun K13 hK13 => ?_
  by_cases hc4 : (i1 : Int) < (l1.length : Int)
  · rw [if_pos hc4] at h
    refine we_known (t := 36) (b := decide ((i1 : Int) < (l1.length : Int))) (v := true) (by kernel_rfl) (decide_eq_true hc4) ?_
    refine we_true (by kernel_rfl) ?_
    refine we_skip fun a hF => hK13 _ _ ?_ a hF
    refine we_seq fun K14 hK14 => ?_
    refine we_block ?_
    refine we_seq fun K15 hK15 => ?_
    refine we_region [(0, 0), (1, 0), (2, 0), (3, 1), (4, 0), (5, 2)] rfl ?_
    refine ge_batch [0] (ans := []) (vs := [(37, .int .i64 (i1 : Int))]) (l := []) (by kernel_rfl) trivial ?_
    rcases hx4 : l1[i1]? with _ | e1
    · rw [hx4] at h; cases h
    rw [hx4] at h
    simp only [] at h
    refine ge_index (d := 38) (ty := 0) (t := 23) (el := 33) (sz := 2) (m := l1.length) (c := c1) (x := (.tmp 33)) (y := (.tmp 35)) (A := A1) (k' := .i64) (j := (i1 : Int)) (jn := i1) (b0 := blkOf A1) (o0 := offOf A1) (by kernel_rfl) (by kernel_rfl) (by kernel_rfl) (by kernel_rfl) (by kernel_rfl) ((hS.rd hR1).eqSome (pos_of_get hx4)) rfl (lt_of_get hx4) ?_
    refine ge_batch [2] (ans := [.val (.int .i64 e1.Task), .val (.int .i64 e1.At)]) (vs := [(39, .agg #[.int .i64 e1.Task, .int .i64 e1.At])]) (l := [.loaded ⟨blkOf A1, offOf A1 + i1 * 2, none⟩ (.int .i64 e1.Task), .loaded ⟨blkOf A1, offOf A1 + i1 * 2 + 1, none⟩ (.int .i64 e1.At)]) (by kernel_rfl) ⟨RdL.cell (j := 0) (hS.rd hR1) hx4 rfl, RdL.cell (j := 1) (hS.rd hR1) hx4 rfl, trivial⟩ ?_
    refine ge_new (d := some 13) (o := .cells #[.int .i64 0, .int .i64 0] 33) (v := fun b => .pointer (some ⟨b, 0, none⟩)) hS (fun b => by kernel_rfl) fun b4 w13 hx5 hS41 => ?_
    refine ge_batch [4] (ans := []) (vs := [(12, .int .i64 (i1 : Int))]) (l := []) (by kernel_rfl) trivial ?_
    refine ge_set (b := b4) (j := 0) (cs := #[.int .i64 0, .int .i64 0]) (t := 33) (vs := [.int .i64 e1.Task, .int .i64 e1.At]) hS41 (by kernel_rfl) rfl rfl fun w14 hS42 => ?_
    have hS43 : St w0 w14 [Own.blk b4 (.cells #[.int .i64 e1.Task, .int .i64 e1.At] 33 (0, 0)), Own.blk b2 (.cells #[.int .i64 0, .int .i64 0] 39 (0, 0)), Own.blk b1 (.cells #[.slice none 0 0, .slice none 0 0] 36 (0, 0)), Own.of v1 58 m1] := hS42
    refine ge_nil fun a hF => hK15 _ _ ?_ a hF
    refine we_seq fun K16 hK16 => ?_
    obtain ⟨Z1, cz1, rfl⟩ := hS43.open 3 rfl
    rcases hq7 : punctualref_SendOf.p2 l0 i1 e1 with _ | (_ | rr2)
    · rw [hq7] at h; cases h
    · rw [hq7] at h
      simp only [] at h
      refine we_keep (e' := [(0, .slice A0 l0.length c0), (2, .slice A2 l2.length c2), (3, .int .i64 x3), (8, .pointer (some ⟨b1, 0, none⟩)), (9, .pointer (some ⟨b2, 0, none⟩)), (11, (.slice Z1 m1.length cz1)), (12, .int .i64 (i1 : Int)), (13, .pointer (some ⟨b4, 0, none⟩)), (33, .slice A1 l1.length c1), (34, .int .i64 (l1.length : Int)), (35, .int .i64 (i1 : Int)), (36, .bool true), (37, .int .i64 (i1 : Int)), (38, .pointer (some ⟨blkOf A1, offOf A1 + i1 * 2, none⟩)), (39, .agg #[.int .i64 e1.Task, .int .i64 e1.At])]) ⟨by kernel_rfl, by kernel_rfl, by kernel_rfl, by kernel_rfl, by kernel_rfl, by kernel_rfl, by kernel_rfl, by kernel_rfl, by kernel_rfl, by kernel_rfl, by kernel_rfl, by kernel_rfl, by kernel_rfl, by kernel_rfl, by kernel_rfl, trivial⟩ (punctualref_SendOf_p2 K w0 l0 A0 c0 l1 A1 c1 l2 A2 c2 x3 hR0 hL0 hR1 hL1 hR2 hL2 b1 b2 r1 b3 hc1 m1 i1 hc4 e1 hx4 b4 Z1 cz1 _ hq7 _ hS43 _ ?_)
      rintro _ a w21 ⟨rfl, hS74, hF⟩
      replace hS74 : St w0 w21 [Own.blk b4 (.cells #[.int .i64 e1.Task, .int .i64 e1.At] 33 (0, 0)), Own.blk b2 (.cells #[.int .i64 0, .int .i64 0] 39 (0, 0)), Own.blk b1 (.cells #[.slice none 0 0, .slice none 0 0] 36 (0, 0)), Own.of (.slice Z1 m1.length cz1) 58 m1] := hS74
      refine hK16 [(0, .slice A0 l0.length c0), (2, .slice A2 l2.length c2), (3, .int .i64 x3), (8, .pointer (some ⟨b1, 0, none⟩)), (9, .pointer (some ⟨b2, 0, none⟩)), (11, (.slice Z1 m1.length cz1)), (12, .int .i64 (i1 : Int)), (13, .pointer (some ⟨b4, 0, none⟩)), (33, .slice A1 l1.length c1), (34, .int .i64 (l1.length : Int)), (35, .int .i64 (i1 : Int))] w21 ?_ a hF
      refine we_seq fun K20 hK20 => ?_
      rcases hq12 : punctualref_SendOf.p3 l0 l2 i1 e1 with _ | (_ | rr1)
      · rw [hq12] at h; cases h
      · rw [hq12] at h
        simp only [] at h
        refine we_keep (e' := [(0, .slice A0 l0.length c0), (2, .slice A2 l2.length c2), (3, .int .i64 x3), (8, .pointer (some ⟨b1, 0, none⟩)), (9, .pointer (some ⟨b2, 0, none⟩)), (11, (.slice Z1 m1.length cz1)), (12, .int .i64 (i1 : Int)), (13, .pointer (some ⟨b4, 0, none⟩)), (33, .slice A1 l1.length c1), (34, .int .i64 (l1.length : Int)), (35, .int .i64 (i1 : Int))]) ⟨by kernel_rfl, by kernel_rfl, by kernel_rfl, by kernel_rfl, by kernel_rfl, by kernel_rfl, by kernel_rfl, by kernel_rfl, by kernel_rfl, by kernel_rfl, by kernel_rfl, trivial⟩ (punctualref_SendOf_p3 K w0 l0 A0 c0 l1 A1 c1 l2 A2 c2 x3 hR0 hL0 hR1 hL1 hR2 hL2 b1 b2 r1 b3 hc1 m1 i1 hc4 e1 hx4 b4 Z1 cz1 _ hq12 _ hS74 _ ?_)
        rintro _ a w34 ⟨rfl, hS132, hF⟩
        replace hS132 : St w0 w34 [Own.blk b4 (.cells #[.int .i64 e1.Task, .int .i64 e1.At] 33 (0, 0)), Own.blk b2 (.cells #[.int .i64 0, .int .i64 0] 39 (0, 0)), Own.blk b1 (.cells #[.slice none 0 0, .slice none 0 0] 36 (0, 0)), Own.of (.slice Z1 m1.length cz1) 58 m1] := hS132
        refine hK20 [(0, .slice A0 l0.length c0), (2, .slice A2 l2.length c2), (3, .int .i64 x3), (8, .pointer (some ⟨b1, 0, none⟩)), (9, .pointer (some ⟨b2, 0, none⟩)), (11, (.slice Z1 m1.length cz1)), (12, .int .i64 (i1 : Int)), (13, .pointer (some ⟨b4, 0, none⟩)), (33, .slice A1 l1.length c1), (34, .int .i64 (l1.length : Int)), (35, .int .i64 (i1 : Int))] w34 ?_ a hF
        refine we_orders2 (by kernel_rfl) [(2, [⟨b4, 0, none⟩]), (4, [⟨b4, 1, none⟩]), (8, [⟨blkOf A2, offOf A2 + i1 * 1, none⟩]), (12, [⟨b4, 0, none⟩]), (15, [⟨blkOf A0, offOf A0 + ((e1.Task).toNat) * 4, none⟩]), (17, [⟨b4, 1, none⟩]), (20, [⟨b4, 0, none⟩]), (23, [⟨blkOf A0, offOf A0 + ((e1.Task).toNat) * 4 + 2, none⟩]), (28, [⟨b4, 0, none⟩])] (.vals [0] (.vals [1] (.vals [2] (.vals [3] (.vals [4] (.vals [5] (.vals [6] (.vals [7] (.vals [8] (.vals [9] (.vals [10] (.vals [11] (.vals [12] (.vals [13] (.vals [14] (.vals [15] (.vals [16] (.vals [17] (.vals [18] (.vals [19] (.vals [20] (.vals [21] (.vals [22] (.vals [23] (.vals [24] (.vals [25] (.vals [26] (.vals [27] (.vals [28] (.vals [29] (.vals [30] (.alt 31 1 (.alt 32 2 (.vals [33] .fin) .nomore) .nomore)))))))))))))))))))))))))))))))) (by kernel_rfl) ?_
        have hS133 := hS132.drew
        refine go2_batch [0, 1] (ans := []) (vs := [(85, .pointer (some ⟨b4, 0, none⟩)), (84, (.slice Z1 m1.length cz1))]) (l := []) (by kernel_rfl) trivial mem_nil ?_
        refine go2_batch [2] (ans := [.val (.int .i64 e1.Task)]) (vs := [(86, .int .i64 e1.Task)]) (l := [.loaded ⟨b4, 0, none⟩ (.int .i64 e1.Task)]) (by kernel_rfl) ⟨hS133.cell 0 rfl rfl, trivial⟩ (mem_one (by kernel_rfl)) ?_
        refine go2_batch [3] (ans := []) (vs := [(87, .pointer (some ⟨b4, 1, none⟩))]) (l := []) (by kernel_rfl) trivial mem_nil ?_
        refine go2_batch [4] (ans := [.val (.int .i64 e1.At)]) (vs := [(88, .int .i64 e1.At)]) (l := [.loaded ⟨b4, 1, none⟩ (.int .i64 e1.At)]) (by kernel_rfl) ⟨hS133.cell 0 rfl rfl, trivial⟩ (mem_one (by kernel_rfl)) ?_
        refine go2_batch [5, 6] (ans := []) (vs := [(90, .int .i64 (i1 : Int)), (89, .slice A2 l2.length c2)]) (l := []) (by kernel_rfl) trivial mem_nil ?_
        rcases hx8 : l2[i1]? with _ | e4
        · rw [hx8] at h; cases h
        rw [hx8] at h
        simp only [] at h
        refine go2_index (d := 91) (ty := 0) (t := 24) (el := 3) (sz := 1) (m := l2.length) (c := c2) (x := (.tmp 89)) (y := (.tmp 90)) (A := A2) (k' := .i64) (j := (i1 : Int)) (jn := i1) (b0 := blkOf A2) (o0 := offOf A2) (by kernel_rfl) (by kernel_rfl) (by kernel_rfl) (by kernel_rfl) (by kernel_rfl) ((hS133.rd hR2).eqSome (pos_of_get hx8)) rfl (lt_of_get hx8) ?_
        refine go2_batch [8] (ans := [.val (.int .i64 e4)]) (vs := [(92, .int .i64 e4)]) (l := [.loaded ⟨blkOf A2, offOf A2 + i1 * 1, none⟩ (.int .i64 e4)]) (by kernel_rfl) ⟨RdL.cell (j := 0) (hS133.rd hR2) hx8 rfl, trivial⟩ (mem_one (by kernel_rfl)) ?_
        refine go2_batch [9, 10, 11] (ans := []) (vs := [(95, .pointer (some ⟨b4, 0, none⟩)), (94, .slice A0 l0.length c0), (93, .int .i64 (IntKind.i64.wrap (e1.At + e4)))]) (l := []) (by kernel_rfl) trivial mem_nil ?_
        refine go2_batch [12] (ans := [.val (.int .i64 e1.Task)]) (vs := [(96, .int .i64 e1.Task)]) (l := [.loaded ⟨b4, 0, none⟩ (.int .i64 e1.Task)]) (by kernel_rfl) ⟨hS133.cell 0 rfl rfl, trivial⟩ (mem_one (by kernel_rfl)) ?_
        by_cases hc12 : 0 ≤ e1.Task
        · rw [if_pos hc12] at h
          rcases hx9 : l0[(e1.Task).toNat]? with _ | e5
          · rw [hx9] at h; cases h
          rw [hx9] at h
          simp only [] at h
          refine go2_index (d := 97) (ty := 0) (t := 22) (el := 30) (sz := 4) (m := l0.length) (c := c0) (x := (.tmp 94)) (y := (.tmp 96)) (A := A0) (k' := .i64) (j := e1.Task) (jn := ((e1.Task).toNat)) (b0 := blkOf A0) (o0 := offOf A0) (by kernel_rfl) (by kernel_rfl) (by kernel_rfl) (by kernel_rfl) (by kernel_rfl) ((hS133.rd hR0).eqSome (pos_of_get hx9)) (Int.toNat_of_nonneg hc12).symm (lt_of_get hx9) ?_
          refine go2_batch [14] (ans := []) (vs := [(98, .pointer (some ⟨blkOf A0, offOf A0 + (e1.Task).toNat * 4, none⟩))]) (l := []) (by kernel_rfl) trivial mem_nil ?_
          refine go2_batch [15] (ans := [.val (.int .i64 e5.C)]) (vs := [(99, .int .i64 e5.C)]) (l := [.loaded ⟨blkOf A0, offOf A0 + ((e1.Task).toNat) * 4, none⟩ (.int .i64 e5.C)]) (by kernel_rfl) ⟨RdL.cell (j := 0) (hS133.rd hR0) hx9 rfl, trivial⟩ (mem_one (by kernel_rfl)) ?_
          refine go2_batch [16] (ans := []) (vs := [(100, .pointer (some ⟨b4, 1, none⟩))]) (l := []) (by kernel_rfl) trivial mem_nil ?_
          refine go2_batch [17] (ans := [.val (.int .i64 e1.At)]) (vs := [(101, .int .i64 e1.At)]) (l := [.loaded ⟨b4, 1, none⟩ (.int .i64 e1.At)]) (by kernel_rfl) ⟨hS133.cell 0 rfl rfl, trivial⟩ (mem_one (by kernel_rfl)) ?_
          refine go2_batch [18, 19] (ans := []) (vs := [(103, .pointer (some ⟨b4, 0, none⟩)), (102, .slice A0 l0.length c0)]) (l := []) (by kernel_rfl) trivial mem_nil ?_
          refine go2_batch [20] (ans := [.val (.int .i64 e1.Task)]) (vs := [(104, .int .i64 e1.Task)]) (l := [.loaded ⟨b4, 0, none⟩ (.int .i64 e1.Task)]) (by kernel_rfl) ⟨hS133.cell 0 rfl rfl, trivial⟩ (mem_one (by kernel_rfl)) ?_
          refine go2_index (d := 105) (ty := 0) (t := 22) (el := 30) (sz := 4) (m := l0.length) (c := c0) (x := (.tmp 102)) (y := (.tmp 104)) (A := A0) (k' := .i64) (j := e1.Task) (jn := ((e1.Task).toNat)) (b0 := blkOf A0) (o0 := offOf A0) (by kernel_rfl) (by kernel_rfl) (by kernel_rfl) (by kernel_rfl) (by kernel_rfl) ((hS133.rd hR0).eqSome (pos_of_get hx9)) (Int.toNat_of_nonneg hc12).symm (lt_of_get hx9) ?_
          refine go2_batch [22] (ans := []) (vs := [(106, .pointer (some ⟨blkOf A0, offOf A0 + (e1.Task).toNat * 4 + 2, none⟩))]) (l := []) (by kernel_rfl) trivial mem_nil ?_
          refine go2_batch [23] (ans := [.val (.int .i64 e5.D)]) (vs := [(107, .int .i64 e5.D)]) (l := [.loaded ⟨blkOf A0, offOf A0 + ((e1.Task).toNat) * 4 + 2, none⟩ (.int .i64 e5.D)]) (by kernel_rfl) ⟨RdL.cell (j := 2) (hS133.rd hR0) hx9 rfl, trivial⟩ (mem_one (by kernel_rfl)) ?_
          refine go2_batch [24, 25, 26, 27] (ans := []) (vs := [(111, .pointer (some ⟨b4, 0, none⟩)), (110, .int .i64 (l0.length : Int)), (109, .slice A0 l0.length c0), (108, .int .i64 (IntKind.i64.wrap (e1.At + e5.D)))]) (l := []) (by kernel_rfl) trivial mem_nil ?_
          refine go2_batch [28] (ans := [.val (.int .i64 e1.Task)]) (vs := [(112, .int .i64 e1.Task)]) (l := [.loaded ⟨b4, 0, none⟩ (.int .i64 e1.Task)]) (by kernel_rfl) ⟨hS133.cell 0 rfl rfl, trivial⟩ (mem_one (by kernel_rfl)) ?_
          refine go2_batch [29, 30] (ans := []) (vs := [(114, .agg #[.int .i64 e1.Task, .int .i64 (IntKind.i64.wrap (e1.At + e4)), .int .i64 e5.C, .int .i64 (IntKind.i64.wrap (e1.At + e5.D)), .int .i64 (IntKind.i64.wrap ((l0.length : Int) - e1.Task))]), (113, .int .i64 (IntKind.i64.wrap ((l0.length : Int) - e1.Task)))]) (l := []) (by kernel_rfl) trivial mem_nil ?_
          refine go_alt2 (fun KK hKK => ?_) ?_
          · refine ge_one2 ?_
            refine ge_new (d := some 115) (o := .cells #[.int .i64 e1.Task, .int .i64 (IntKind.i64.wrap (e1.At + e4)), .int .i64 e5.C, .int .i64 (IntKind.i64.wrap (e1.At + e5.D)), .int .i64 (IntKind.i64.wrap ((l0.length : Int) - e1.Task))] 58) (v := fun b => .slice (some ⟨b, 0, none⟩) 1 1) hS133 (fun b => by kernel_rfl) fun b5 w35 hx10 hS134 => ?_
            refine ge_nil fun a hF => hKK _ _ (RS.of2 (l := [.loaded ⟨b4, 0, none⟩ (.int .i64 e1.Task), .loaded ⟨b4, 1, none⟩ (.int .i64 e1.At), .loaded ⟨blkOf A2, offOf A2 + i1 * 1, none⟩ (.int .i64 e4), .loaded ⟨b4, 0, none⟩ (.int .i64 e1.Task), .loaded ⟨blkOf A0, offOf A0 + ((e1.Task).toNat) * 4, none⟩ (.int .i64 e5.C), .loaded ⟨b4, 1, none⟩ (.int .i64 e1.At), .loaded ⟨b4, 0, none⟩ (.int .i64 e1.Task), .loaded ⟨blkOf A0, offOf A0 + ((e1.Task).toNat) * 4 + 2, none⟩ (.int .i64 e5.D), .loaded ⟨b4, 0, none⟩ (.int .i64 e1.Task)]) (by kernel_rfl) ⟨hS133.cell 0 rfl rfl, hS133.cell 0 rfl rfl, RdL.cell (j := 0) (hS133.rd hR2) hx8 rfl, hS133.cell 0 rfl rfl, RdL.cell (j := 0) (hS133.rd hR0) hx9 rfl, hS133.cell 0 rfl rfl, hS133.cell 0 rfl rfl, RdL.cell (j := 2) (hS133.rd hR0) hx9 rfl, hS133.cell 0 rfl rfl, trivial⟩ ⟨hS134.cell 1 rfl rfl, hS134.cell 1 rfl rfl, RdL.cell (j := 0) (hS134.rd hR2) hx8 rfl, hS134.cell 1 rfl rfl, RdL.cell (j := 0) (hS134.rd hR0) hx9 rfl, hS134.cell 1 rfl rfl, hS134.cell 1 rfl rfl, RdL.cell (j := 2) (hS134.rd hR0) hx9 rfl, hS134.cell 1 rfl rfl, trivial⟩) ?_ a hF
            refine go_alt2 (fun KK hKK => ?_) ?_
            · have hS135 := hS134.bring 4 rfl
              by_cases hc13 : m1.length < 3518437208883
              · rw [if_pos hc13] at h
                refine ge_append (α := SJob) (m := 0) (d := 116) (t := 49) (el := 58) (bytes := 40) (c1 := 1) (b1 := b5) (x := (.tmp 84)) (y := (.tmp 115)) (ty := 49) (v := (.slice Z1 m1.length cz1)) (z := .agg #[.int .i64 0, .int .i64 0, .int .i64 0, .int .i64 0, .int .i64 0]) (l := m1) (u := (⟨e1.Task, IntKind.i64.wrap (e1.At + e4), e5.C, IntKind.i64.wrap (e1.At + e5.D), IntKind.i64.wrap ((l0.length : Int) - e1.Task)⟩ : SJob)) (by kernel_rfl) (by kernel_rfl) (by kernel_rfl) (by kernel_rfl) (by kernel_rfl) rfl hS135 rfl (by omega) fun v3 w36 hS136 => ?_
                refine ge_nil fun a hF => hKK _ _ (RS.of2 (l := [.loaded ⟨b4, 0, none⟩ (.int .i64 e1.Task), .loaded ⟨b4, 1, none⟩ (.int .i64 e1.At), .loaded ⟨blkOf A2, offOf A2 + i1 * 1, none⟩ (.int .i64 e4), .loaded ⟨b4, 0, none⟩ (.int .i64 e1.Task), .loaded ⟨blkOf A0, offOf A0 + ((e1.Task).toNat) * 4, none⟩ (.int .i64 e5.C), .loaded ⟨b4, 1, none⟩ (.int .i64 e1.At), .loaded ⟨b4, 0, none⟩ (.int .i64 e1.Task), .loaded ⟨blkOf A0, offOf A0 + ((e1.Task).toNat) * 4 + 2, none⟩ (.int .i64 e5.D), .loaded ⟨b4, 0, none⟩ (.int .i64 e1.Task)]) (by kernel_rfl) ⟨hS134.cell 1 rfl rfl, hS134.cell 1 rfl rfl, RdL.cell (j := 0) (hS134.rd hR2) hx8 rfl, hS134.cell 1 rfl rfl, RdL.cell (j := 0) (hS134.rd hR0) hx9 rfl, hS134.cell 1 rfl rfl, hS134.cell 1 rfl rfl, RdL.cell (j := 2) (hS134.rd hR0) hx9 rfl, hS134.cell 1 rfl rfl, trivial⟩ ⟨hS136.cell 1 rfl rfl, hS136.cell 1 rfl rfl, RdL.cell (j := 0) (hS136.rd hR2) hx8 rfl, hS136.cell 1 rfl rfl, RdL.cell (j := 0) (hS136.rd hR0) hx9 rfl, hS136.cell 1 rfl rfl, hS136.cell 1 rfl rfl, RdL.cell (j := 2) (hS136.rd hR0) hx9 rfl, hS136.cell 1 rfl rfl, trivial⟩) ?_ a hF
                refine go2_batch [33] (ans := []) (vs := [(11, v3)]) (l := []) (by kernel_rfl) trivial mem_nil ?_
                refine go_fin2 fun a hF => hK14 _ _ ?_ a hF
                refine we_region [(0, 0), (1, 0)] rfl ?_
                refine ge_addn (d := 117) (ty := 3) (x := (.tmp 35)) (y := (.const (.int .i64 1))) (t := 3) (t2 := 3) (k := .i64) (m := i1) (by kernel_rfl) (by kernel_rfl) (by kernel_rfl) (by have h0 := hR1.small; omega) ?_
                refine ge_batch [1] (ans := []) (vs := [(35, .int .i64 ((i1 + 1 : Nat) : Int))]) (l := []) (by kernel_rfl) trivial ?_
                have hS137 := hS136.bring 3 rfl
                have hS138 := hS137.bring 3 rfl
                have hS139 := hS138.takeN 3
                obtain rfl := Option.some.inj h
                exact ge_nil fun a hF => hQ _ _ _ (Outs.again ⟨v3, hS139, hF.weaken ⟨by kernel_rfl, by kernel_rfl, by kernel_rfl, by kernel_rfl, by kernel_rfl, by kernel_rfl, by kernel_rfl, by kernel_rfl, by kernel_rfl, trivial⟩⟩)
              · rw [if_neg hc13] at h
                cases h
            exact go_nomore2
          exact go_nomore2
        · rw [if_neg hc12] at h
          cases h
      · rw [hq12] at h
        simp only [] at h
        refine we_keep (e' := [(0, .slice A0 l0.length c0), (2, .slice A2 l2.length c2), (3, .int .i64 x3), (8, .pointer (some ⟨b1, 0, none⟩)), (9, .pointer (some ⟨b2, 0, none⟩)), (11, (.slice Z1 m1.length cz1)), (12, .int .i64 (i1 : Int)), (13, .pointer (some ⟨b4, 0, none⟩)), (33, .slice A1 l1.length c1), (34, .int .i64 (l1.length : Int)), (35, .int .i64 (i1 : Int))]) ⟨by kernel_rfl, by kernel_rfl, by kernel_rfl, by kernel_rfl, by kernel_rfl, by kernel_rfl, by kernel_rfl, by kernel_rfl, by kernel_rfl, by kernel_rfl, by kernel_rfl, trivial⟩ (punctualref_SendOf_p3 K w0 l0 A0 c0 l1 A1 c1 l2 A2 c2 x3 hR0 hL0 hR1 hL1 hR2 hL2 b1 b2 r1 b3 hc1 m1 i1 hc4 e1 hx4 b4 Z1 cz1 _ hq12 _ hS74 _ ?_)
        rintro _ a w1 ⟨_, rfl, hb⟩
        obtain rfl := Option.some.inj h
        exact hQ _ _ _ (Outs.out nofun (Exits.on ⟨rfl, hb⟩))
    · rw [hq7] at h
      simp only [] at h
      refine we_keep (e' := [(0, .slice A0 l0.length c0), (2, .slice A2 l2.length c2), (3, .int .i64 x3), (8, .pointer (some ⟨b1, 0, none⟩)), (9, .pointer (some ⟨b2, 0, none⟩)), (11, (.slice Z1 m1.length cz1)), (12, .int .i64 (i1 : Int)), (13, .pointer (some ⟨b4, 0, none⟩)), (33, .slice A1 l1.length c1), (34, .int .i64 (l1.length : Int)), (35, .int .i64 (i1 : Int)), (36, .bool true), (37, .int .i64 (i1 : Int)), (38, .pointer (some ⟨blkOf A1, offOf A1 + i1 * 2, none⟩)), (39, .agg #[.int .i64 e1.Task, .int .i64 e1.At])]) ⟨by kernel_rfl, by kernel_rfl, by kernel_rfl, by kernel_rfl, by kernel_rfl, by kernel_rfl, by kernel_rfl, by kernel_rfl, by kernel_rfl, by kernel_rfl, by kernel_rfl, by kernel_rfl, by kernel_rfl, by kernel_rfl, by kernel_rfl, trivial⟩ (punctualref_SendOf_p2 K w0 l0 A0 c0 l1 A1 c1 l2 A2 c2 x3 hR0 hL0 hR1 hL1 hR2 hL2 b1 b2 r1 b3 hc1 m1 i1 hc4 e1 hx4 b4 Z1 cz1 _ hq7 _ hS43 _ ?_)
      rintro _ a w1 ⟨_, rfl, hb⟩
      obtain rfl := Option.some.inj h
      exact hQ _ _ _ (Outs.out nofun (Exits.on ⟨rfl, hb⟩))
  · rw [if_neg hc4] at h
    refine we_known (t := 36) (b := decide ((i1 : Int) < (l1.length : Int))) (v := false) (by kernel_rfl) (decide_eq_false hc4) ?_
    refine we_false (by kernel_rfl) ?_
    have hS140 := hS.bring 2 rfl
    have hS141 := hS140.bring 2 rfl
    have hS142 := hS141.bring 2 rfl
    obtain rfl := Option.some.inj h
    exact we_exit fun a hF => hQ _ _ _ (Outs.out nofun (Exits.here ⟨v1, hS142, hF.weaken ⟨by kernel_rfl, by kernel_rfl, by kernel_rfl, by kernel_rfl, trivial⟩⟩))
abbrev punctualref_SendOf.A4 (K : Nat) (w0 : World) (l0 : List SFrame) (A0 : Option Addr) (c0 : Nat) (l1 : List SCome) (A1 : Option Addr) (c1 : Nat) (l2 : List Int) (A2 : Option Addr) (c2 : Nat) (x3 : Int) (hR0 : RdL w0 A0 l0) (hL0 : l0.length ≤ c0) (hR1 : RdL w0 A1 l1) (hL1 : l1.length ≤ c1) (hR2 : RdL w0 A2 l2) (hL2 : l2.length ≤ c2) (b1 : Nat) (b2 : Nat) (r1 : SFault) (b3 : Nat) (hc1 : ¬ (r1.Code = 0)) : (Int × Int × (List Int) × (List Int)) → Act → World → Prop := fun (s : Int × Int × (List Int) × (List Int)) a w => ∃ (v7 : Value) (v8 : Value), St w0 w [Own.blk b2 (.cells #[.int .i64 s.1, .int .i64 s.2.1] 39 (0, 0)), Own.blk b1 (.cells #[v7, v8] 36 (0, 0)), Own.of v7 3 s.2.2.1, Own.of v8 3 s.2.2.2] ∧ Frm 123 a [(8, .pointer (some ⟨b1, 0, none⟩)), (9, .pointer (some ⟨b2, 0, none⟩))]
abbrev punctualref_SendOf.B4 (K : Nat) (w0 : World) (l0 : List SFrame) (A0 : Option Addr) (c0 : Nat) (l1 : List SCome) (A1 : Option Addr) (c1 : Nat) (l2 : List Int) (A2 : Option Addr) (c2 : Nat) (x3 : Int) (hR0 : RdL w0 A0 l0) (hL0 : l0.length ≤ c0) (hR1 : RdL w0 A1 l1) (hL1 : l1.length ≤ c1) (hR2 : RdL w0 A2 l2) (hL2 : l2.length ≤ c2) (b1 : Nat) (b2 : Nat) (r1 : SFault) (b3 : Nat) (hc1 : ¬ (r1.Code = 0)) : (SPlayed × SFault) → Exit → Act → World → Prop := Rets Tryd.prog Tryd.f17 (punctualref_SendOf.Post w0)
theorem punctualref_SendOf_p4 (K : Nat) (w0 : World) (l0 : List SFrame) (A0 : Option Addr) (c0 : Nat) (l1 : List SCome) (A1 : Option Addr) (c1 : Nat) (l2 : List Int) (A2 : Option Addr) (c2 : Nat) (x3 : Int) (hR0 : RdL w0 A0 l0) (hL0 : l0.length ≤ c0) (hR1 : RdL w0 A1 l1) (hL1 : l1.length ≤ c1) (hR2 : RdL w0 A2 l2) (hL2 : l2.length ≤ c2) (b1 : Nat) (b2 : Nat) (r1 : SFault) (b3 : Nat) (hc1 : ¬ (r1.Code = 0)) (o : (Int × Int × (List Int) × (List Int)) ⊕ (SPlayed × SFault)) (h : punctualref_SendOf.p4 r1 = some o) (w : World) (hS : St w0 w [Own.blk b3 (.cells #[.int .i64 r1.Code, .int .i64 r1.At] 39 (0, 0)), Own.blk b2 (.cells #[.int .i64 0, .int .i64 0] 39 (0, 0)), Own.blk b1 (.cells #[.slice none 0 0, .slice none 0 0] 36 (0, 0))]) (Q : Exit → Act → World → Prop) (hQ : ∀ x a w, Outs (punctualref_SendOf.A4 K w0 l0 A0 c0 l1 A1 c1 l2 A2 c2 x3 hR0 hL0 hR1 hL1 hR2 hL2 b1 b2 r1 b3 hc1) (punctualref_SendOf.B4 K w0 l0 A0 c0 l1 A1 c1 l2 A2 c2 x3 hR0 hL0 hR1 hL1 hR2 hL2 b1 b2 r1 b3 hc1) o x a w → Q x a w) : WE Tryd.prog 123 (subF Tryd.f17 [1, 0, 1, 1, 0, 0]) Q [(0, .slice A0 l0.length c0), (1, .slice A1 l1.length c1), (2, .slice A2 l2.length c2), (3, .int .i64 x3), (8, .pointer (some ⟨b1, 0, none⟩)), (9, .pointer (some ⟨b2, 0, none⟩)), (10, .pointer (some ⟨b3, 0, none⟩)), (14, .slice A0 l0.length c0), (15, .agg #[.int .i64 r1.Code, .int .i64 r1.At]), (16, .pointer (some ⟨b3, 0, none⟩)), (17, .int .i64 r1.Code), (18, .bool true)] w := by
  simp only [punctualref_SendOf.p4] at h
  refine we_orders2 (by kernel_rfl) [(1, [⟨b3, 0, none⟩, ⟨b3, 1, none⟩])] (.vals [0] (.vals [1] (.alt 2 2 (.alt 3 2 .fin .nomore) .nomore))) (by kernel_rfl) ?_
  have hS155 := hS.drew
  refine go2_batch [0] (ans := []) (vs := [(19, .agg #[.slice none 0 0, .slice none 0 0])]) (l := []) (by kernel_rfl) trivial mem_nil ?_
  refine go2_batch [1] (ans := [.val (.int .i64 r1.Code), .val (.int .i64 r1.At)]) (vs := [(20, .agg #[.int .i64 r1.Code, .int .i64 r1.At])]) (l := [.loaded ⟨b3, 0, none⟩ (.int .i64 r1.Code), .loaded ⟨b3, 1, none⟩ (.int .i64 r1.At)]) (by kernel_rfl) ⟨hS155.cell 0 rfl rfl, hS155.cell 0 rfl rfl, trivial⟩ (mem_one (by kernel_rfl)) ?_
  refine go_alt2 (fun KK hKK => ?_) ?_
  · have hS156 := hS155.bring 2 rfl
    refine ge_set (b := b1) (j := 0) (cs := #[.slice none 0 0, .slice none 0 0]) (t := 36) (vs := [.slice none 0 0, .slice none 0 0]) hS156 (by kernel_rfl) rfl rfl fun w41 hS157 => ?_
    have hS158 : St w0 w41 [Own.blk b1 (.cells #[.slice none 0 0, .slice none 0 0] 36 (0, 0)), Own.blk b3 (.cells #[.int .i64 r1.Code, .int .i64 r1.At] 39 (0, 0)), Own.blk b2 (.cells #[.int .i64 0, .int .i64 0] 39 (0, 0))] := hS157
    refine ge_nil fun a hF => hKK _ _ (RS.of2 (l := [.loaded ⟨b3, 0, none⟩ (.int .i64 r1.Code), .loaded ⟨b3, 1, none⟩ (.int .i64 r1.At)]) (by kernel_rfl) ⟨hS155.cell 0 rfl rfl, hS155.cell 0 rfl rfl, trivial⟩ ⟨hS158.cell 1 rfl rfl, hS158.cell 1 rfl rfl, trivial⟩) ?_ a hF
    refine go_alt2 (fun KK hKK => ?_) ?_
    · have hS159 := hS158.bring 2 rfl
      refine ge_set (b := b2) (j := 0) (cs := #[.int .i64 0, .int .i64 0]) (t := 39) (vs := [.int .i64 r1.Code, .int .i64 r1.At]) hS159 (by kernel_rfl) rfl rfl fun w42 hS160 => ?_
      have hS161 : St w0 w42 [Own.blk b2 (.cells #[.int .i64 r1.Code, .int .i64 r1.At] 39 (0, 0)), Own.blk b1 (.cells #[.slice none 0 0, .slice none 0 0] 36 (0, 0)), Own.blk b3 (.cells #[.int .i64 r1.Code, .int .i64 r1.At] 39 (0, 0))] := hS160
      refine ge_nil fun a hF => hKK _ _ (RS.of2 (l := []) (by kernel_rfl) trivial trivial) ?_ a hF
      have hS162 := hS161.nil (α := Int) 3
      have hS163 := hS162.nil (α := Int) 3
      have hS164 := hS163.bring 1 rfl
      have hS165 := hS164.bring 1 rfl
      have hS166 := hS165.bring 3 rfl
      have hS167 := hS166.bring 3 rfl
      have hS168 := hS167.takeN 4
      obtain rfl := Option.some.inj h
      exact go_fin2 fun a hF => hQ _ _ _ (Outs.again ⟨(.slice none 0 0), (.slice none 0 0), hS168, hF.weaken ⟨by kernel_rfl, by kernel_rfl, trivial⟩⟩)
    exact go_nomore2
  exact go_nomore2
theorem punctualref_SendOf_ok (K : Nat) (l0 : List SFrame) (A0 : Option Addr) (c0 : Nat) (l1 : List SCome) (A1 : Option Addr) (c1 : Nat) (l2 : List Int) (A2 : Option Addr) (c2 : Nat) (x3 : Int) (w0 : World) (hR0 : RdL w0 A0 l0) (hL0 : l0.length ≤ c0) (hR1 : RdL w0 A1 l1) (hL1 : l1.length ≤ c1) (hR2 : RdL w0 A2 l2) (hL2 : l2.length ≤ c2) (r : SPlayed × SFault) (h : punctualref_SendOf.f K l0 l1 l2 x3 = some r) :
    Calls Tryd.prog 17 #[.slice A0 l0.length c0, .slice A1 l1.length c1, .slice A2 l2.length c2, .int .i64 x3] w0 (punctualref_SendOf.Post w0 r) := by
  have hS := St.start w0
  unfold punctualref_SendOf.f at h
  refine calls_enter (n := 123) (args := [.slice A0 l0.length c0, .slice A1 l1.length c1, .slice A2 l2.length c2, .int .i64 x3]) (fn := Tryd.f17) rfl rfl rfl rfl ?_
  show WE _ _ _ _ [(0, .slice A0 l0.length c0), (1, .slice A1 l1.length c1), (2, .slice A2 l2.length c2), (3, .int .i64 x3)] _
  refine we_seq fun K1 hK1 => ?_
  refine we_region [(0, 1), (1, 1)] rfl ?_
  refine ge_new (d := some 8) (o := .cells #[.slice none 0 0, .slice none 0 0] 36) (v := fun b => .pointer (some ⟨b, 0, none⟩)) hS (fun b => by kernel_rfl) fun b1 w1 hx1 hS1 => ?_
  refine ge_new (d := some 9) (o := .cells #[.int .i64 0, .int .i64 0] 39) (v := fun b => .pointer (some ⟨b, 0, none⟩)) hS1 (fun b => by kernel_rfl) fun b2 w2 hx2 hS2 => ?_
  refine ge_nil fun a hF => hK1 _ _ ?_ a hF
  refine we_seq fun K2 hK2 => ?_
  refine we_seq fun K3 hK3 => ?_
  refine we_region [(0, 0), (1, 1), (2, 1), (3, 2)] rfl ?_
  rcases hq1 : punctualref_CheckBus.f K l0 with _ | r1
  · rw [hq1] at h; cases h
  rw [hq1] at h
  simp only [] at h
  refine ge_batch [0] (ans := []) (vs := [(14, .slice A0 l0.length c0)]) (l := []) (by kernel_rfl) trivial ?_
  refine ge_call (d := some 15) (f := 73) (args := #[.slice A0 l0.length c0]) (by kernel_rfl) (punctualref_CheckBus_ok K l0 A0 c0 _ (hS2.rd hR0) hL0 _ hq1) ?_
  rintro _ w3 ⟨rfl, hS3⟩
  refine ⟨_, rfl, hS3.below, ?_⟩
  have hS4 := hS2.call hS3
  refine ge_new (d := some 10) (o := .cells #[.int .i64 0, .int .i64 0] 39) (v := fun b => .pointer (some ⟨b, 0, none⟩)) hS4 (fun b => by kernel_rfl) fun b3 w4 hx3 hS5 => ?_
  refine ge_set (b := b3) (j := 0) (cs := #[.int .i64 0, .int .i64 0]) (t := 39) (vs := [.int .i64 r1.Code, .int .i64 r1.At]) hS5 (by kernel_rfl) rfl rfl fun w5 hS6 => ?_
  have hS7 : St w0 w5 [Own.blk b3 (.cells #[.int .i64 r1.Code, .int .i64 r1.At] 39 (0, 0)), Own.blk b2 (.cells #[.int .i64 0, .int .i64 0] 39 (0, 0)), Own.blk b1 (.cells #[.slice none 0 0, .slice none 0 0] 36 (0, 0))] := hS6
  refine ge_nil fun a hF => hK3 _ _ ?_ a hF
  refine we_seq fun K4 hK4 => ?_
  refine we_region [(0, 0), (1, 0), (2, 0)] rfl ?_
  refine ge_batch [0, 1, 2] (ans := [.val (.int .i64 r1.Code)]) (vs := [(18, .bool (r1.Code != 0)), (17, .int .i64 r1.Code), (16, .pointer (some ⟨b3, 0, none⟩))]) (l := [.loaded ⟨b3, 0, none⟩ (.int .i64 r1.Code)]) (by kernel_rfl) ⟨hS7.cell 0 rfl rfl, trivial⟩ ?_
  refine ge_nil fun a hF => hK4 _ _ ?_ a hF
  by_cases hc1 : r1.Code = 0
  · rw [if_pos hc1] at h
    refine we_known (t := 18) (b := (r1.Code != 0)) (v := false) (by kernel_rfl) (bne_eq_false_iff_eq.2 hc1) ?_
    refine we_false (by kernel_rfl) ?_
    refine we_skip fun a hF => hK2 _ _ ?_ a hF
    refine we_seq fun K5 hK5 => ?_
    rcases hq4 : punctualref_SendOf.p0 l1 l2 with _ | (_ | rr4)
    · rw [hq4] at h; cases h
    · rw [hq4] at h
      simp only [] at h
      refine we_keep (e' := [(0, .slice A0 l0.length c0), (1, .slice A1 l1.length c1), (2, .slice A2 l2.length c2), (3, .int .i64 x3), (8, .pointer (some ⟨b1, 0, none⟩)), (9, .pointer (some ⟨b2, 0, none⟩)), (10, .pointer (some ⟨b3, 0, none⟩)), (14, .slice A0 l0.length c0), (15, .agg #[.int .i64 r1.Code, .int .i64 r1.At]), (16, .pointer (some ⟨b3, 0, none⟩)), (17, .int .i64 r1.Code), (18, .bool false)]) ⟨by kernel_rfl, by kernel_rfl, by kernel_rfl, by kernel_rfl, by kernel_rfl, by kernel_rfl, by kernel_rfl, by kernel_rfl, by kernel_rfl, by kernel_rfl, by kernel_rfl, by kernel_rfl, trivial⟩ (punctualref_SendOf_p0 K w0 l0 A0 c0 l1 A1 c1 l2 A2 c2 x3 hR0 hL0 hR1 hL1 hR2 hL2 b1 b2 r1 b3 hc1 _ hq4 _ hS7 _ ?_)
      rintro _ a w12 ⟨rfl, hS37, hF⟩
      replace hS37 : St w0 w12 [Own.blk b2 (.cells #[.int .i64 0, .int .i64 0] 39 (0, 0)), Own.blk b1 (.cells #[.slice none 0 0, .slice none 0 0] 36 (0, 0))] := hS37
      refine hK5 [(0, .slice A0 l0.length c0), (1, .slice A1 l1.length c1), (2, .slice A2 l2.length c2), (3, .int .i64 x3), (8, .pointer (some ⟨b1, 0, none⟩)), (9, .pointer (some ⟨b2, 0, none⟩))] w12 ?_ a hF
      refine we_seq fun K9 hK9 => ?_
      refine we_region [(0, 0)] rfl ?_
      refine ge_batch [0] (ans := []) (vs := [(11, .slice none 0 0)]) (l := []) (by kernel_rfl) trivial ?_
      refine ge_nil fun a hF => hK9 _ _ ?_ a hF
      refine we_seq fun K10 hK10 => ?_
      refine we_seq fun K11 hK11 => ?_
      refine we_region [(0, 0), (1, 0), (2, 0)] rfl ?_
      refine ge_batch [0, 1, 2] (ans := []) (vs := [(35, .int .i64 0), (34, .int .i64 (l1.length : Int)), (33, .slice A1 l1.length c1)]) (l := []) (by kernel_rfl) trivial ?_
      refine ge_nil fun a hF => hK11 _ _ ?_ a hF
      refine we_block ?_
      have hS38 := hS37.nil (α := SJob) 58
      have hS39 := hS38.bring 2 rfl
      have hS40 := hS39.bring 2 rfl
      rcases hq13 : iter (punctualref_SendOf.r1 l0 l1 l2) K (([] : List SJob), 0) with _ | (m3 | rr3)
      · rw [hq13] at h; cases h
      · rw [hq13] at h
        simp only [] at h
        refine we_iter (A := punctualref_SendOf.A1 K w0 l0 A0 c0 l1 A1 c1 l2 A2 c2 x3 hR0 hL0 hR1 hL1 hR2 hL2 b1 b2 r1 b3 hc1) (B := punctualref_SendOf.B1 K w0 l0 A0 c0 l1 A1 c1 l2 A2 c2 x3 hR0 hL0 hR1 hL1 hR2 hL2 b1 b2 r1 b3 hc1) hq13 (fun a hF => ⟨(.slice none 0 0), hS40, hF.weaken ⟨by kernel_rfl, by kernel_rfl, by kernel_rfl, by kernel_rfl, by kernel_rfl, by kernel_rfl, by kernel_rfl, by kernel_rfl, by kernel_rfl, trivial⟩⟩) (fun s o hf a w hA Q hQ => punctualref_SendOf_r1 K w0 l0 A0 c0 l1 A1 c1 l2 A2 c2 x3 hR0 hL0 hR1 hL1 hR2 hL2 b1 b2 r1 b3 hc1 s o hf a w hA Q hQ) ?_
        rintro _ a w37 _ ⟨rfl, v4, hS143, hF⟩
        replace hS143 : St w0 w37 [Own.blk b2 (.cells #[.int .i64 0, .int .i64 0] 39 (0, 0)), Own.blk b1 (.cells #[.slice none 0 0, .slice none 0 0] 36 (0, 0)), Own.of v4 58 m3] := hS143
        refine hK10 [(3, .int .i64 x3), (8, .pointer (some ⟨b1, 0, none⟩)), (9, .pointer (some ⟨b2, 0, none⟩)), (11, v4)] w37 ?_ a hF
        refine we_seq fun K26 hK26 => ?_
        refine we_region [(0, 0), (1, 0), (2, 1), (3, 0), (4, 0), (5, 2), (6, 2)] rfl ?_
        refine ge_batch [0, 1] (ans := []) (vs := [(119, .int .i64 x3), (118, v4)]) (l := []) (by kernel_rfl) trivial ?_
        obtain ⟨Z2, cz2, rfl⟩ := hS143.open 2 rfl
        rcases hq14 : punctualref_PlayJobs.f K m3 1 false x3 with _ | r2
        · rw [hq14] at h; cases h
        rw [hq14] at h
        simp only [] at h
        refine ge_call (d := some 120) (f := 75) (args := #[(.slice Z2 m3.length cz2), .int .i64 1, .bool false, .int .i64 x3]) (by kernel_rfl) (punctualref_PlayJobs_ok K m3 Z2 cz2 1 false x3 _ (hS143.rdAt 2 rfl) (hS143.capAt 2 rfl) _ hq14) ?_
        rintro _ w38 ⟨v5, v6, rfl, hS144⟩
        refine ⟨_, rfl, hS144.below, ?_⟩
        have hS145 := hS143.call hS144
        refine ge_batch [3, 4] (ans := []) (vs := [(122, .agg #[.int .i64 r2.2.Code, .int .i64 r2.2.At]), (121, .agg #[v5, v6])]) (l := []) (by kernel_rfl) trivial ?_
        obtain ⟨Z3, cz3, rfl⟩ := hS145.open 0 rfl
        obtain ⟨Z4, cz4, rfl⟩ := hS145.open 1 rfl
        have hS146 := hS145.bring 3 rfl
        refine ge_set (b := b1) (j := 0) (cs := #[.slice none 0 0, .slice none 0 0]) (t := 36) (vs := [(.slice Z3 r2.1.Runs.length cz3), (.slice Z4 r2.1.Ends.length cz4)]) hS146 (by kernel_rfl) rfl rfl fun w39 hS147 => ?_
        have hS148 : St w0 w39 [Own.blk b1 (.cells #[(.slice Z3 r2.1.Runs.length cz3), (.slice Z4 r2.1.Ends.length cz4)] 36 (0, 0)), Own.of (.slice Z3 r2.1.Runs.length cz3) 3 r2.1.Runs, Own.of (.slice Z4 r2.1.Ends.length cz4) 3 r2.1.Ends, Own.blk b2 (.cells #[.int .i64 0, .int .i64 0] 39 (0, 0)), Own.of (.slice Z2 m3.length cz2) 58 m3] := hS147
        have hS149 := hS148.bring 3 rfl
        refine ge_set (b := b2) (j := 0) (cs := #[.int .i64 0, .int .i64 0]) (t := 39) (vs := [.int .i64 r2.2.Code, .int .i64 r2.2.At]) hS149 (by kernel_rfl) rfl rfl fun w40 hS150 => ?_
        have hS151 : St w0 w40 [Own.blk b2 (.cells #[.int .i64 r2.2.Code, .int .i64 r2.2.At] 39 (0, 0)), Own.blk b1 (.cells #[(.slice Z3 r2.1.Runs.length cz3), (.slice Z4 r2.1.Ends.length cz4)] 36 (0, 0)), Own.of (.slice Z3 r2.1.Runs.length cz3) 3 r2.1.Runs, Own.of (.slice Z4 r2.1.Ends.length cz4) 3 r2.1.Ends, Own.of (.slice Z2 m3.length cz2) 58 m3] := hS150
        refine ge_nil fun a hF => hK26 _ _ ?_ a hF
        have hS152 := hS151.bring 3 rfl
        have hS153 := hS152.bring 3 rfl
        have hS154 := hS153.takeN 2
        obtain rfl := Option.some.inj h
        exact we_ret (post_ret (rs := [.cell 8 36, .cell 9 39]) (ans := [.val ((.slice Z3 r2.1.Runs.length cz3)), .val ((.slice Z4 r2.1.Ends.length cz4)), .val (.int .i64 r2.2.Code), .val (.int .i64 r2.2.At)]) (vs := [.agg #[(.slice Z3 r2.1.Runs.length cz3), (.slice Z4 r2.1.Ends.length cz4)], .agg #[.int .i64 r2.2.Code, .int .i64 r2.2.At]]) (l := [.loaded ⟨b1, 0, none⟩ ((.slice Z3 r2.1.Runs.length cz3)), .loaded ⟨b1, 1, none⟩ ((.slice Z4 r2.1.Ends.length cz4)), .loaded ⟨b2, 0, none⟩ (.int .i64 r2.2.Code), .loaded ⟨b2, 1, none⟩ (.int .i64 r2.2.At)]) rfl (by kernel_rfl) ⟨hS151.cell 1 rfl rfl, hS151.cell 1 rfl rfl, hS151.cell 0 rfl rfl, hS151.cell 0 rfl rfl, trivial⟩ ⟨(.slice Z3 r2.1.Runs.length cz3), (.slice Z4 r2.1.Ends.length cz4), rfl, hS154⟩)
      · rw [hq13] at h
        simp only [] at h
        refine we_iter (A := punctualref_SendOf.A1 K w0 l0 A0 c0 l1 A1 c1 l2 A2 c2 x3 hR0 hL0 hR1 hL1 hR2 hL2 b1 b2 r1 b3 hc1) (B := punctualref_SendOf.B1 K w0 l0 A0 c0 l1 A1 c1 l2 A2 c2 x3 hR0 hL0 hR1 hL1 hR2 hL2 b1 b2 r1 b3 hc1) hq13 (fun a hF => ⟨(.slice none 0 0), hS40, hF.weaken ⟨by kernel_rfl, by kernel_rfl, by kernel_rfl, by kernel_rfl, by kernel_rfl, by kernel_rfl, by kernel_rfl, by kernel_rfl, by kernel_rfl, trivial⟩⟩) (fun s o hf a w hA Q hQ => punctualref_SendOf_r1 K w0 l0 A0 c0 l1 A1 c1 l2 A2 c2 x3 hR0 hL0 hR1 hL1 hR2 hL2 b1 b2 r1 b3 hc1 s o hf a w hA Q hQ) ?_
        rintro _ a w1 _ ⟨rfl, hb⟩
        obtain rfl := Option.some.inj h
        exact hb
    · rw [hq4] at h
      simp only [] at h
      refine we_keep (e' := [(0, .slice A0 l0.length c0), (1, .slice A1 l1.length c1), (2, .slice A2 l2.length c2), (3, .int .i64 x3), (8, .pointer (some ⟨b1, 0, none⟩)), (9, .pointer (some ⟨b2, 0, none⟩)), (10, .pointer (some ⟨b3, 0, none⟩)), (14, .slice A0 l0.length c0), (15, .agg #[.int .i64 r1.Code, .int .i64 r1.At]), (16, .pointer (some ⟨b3, 0, none⟩)), (17, .int .i64 r1.Code), (18, .bool false)]) ⟨by kernel_rfl, by kernel_rfl, by kernel_rfl, by kernel_rfl, by kernel_rfl, by kernel_rfl, by kernel_rfl, by kernel_rfl, by kernel_rfl, by kernel_rfl, by kernel_rfl, by kernel_rfl, trivial⟩ (punctualref_SendOf_p0 K w0 l0 A0 c0 l1 A1 c1 l2 A2 c2 x3 hR0 hL0 hR1 hL1 hR2 hL2 b1 b2 r1 b3 hc1 _ hq4 _ hS7 _ ?_)
      rintro _ a w1 ⟨_, rfl, hb⟩
      obtain rfl := Option.some.inj h
      exact hb
  · rw [if_neg hc1] at h
    refine we_known (t := 18) (b := (r1.Code != 0)) (v := true) (by kernel_rfl) (bne_iff_ne.2 hc1) ?_
    refine we_true (by kernel_rfl) ?_
    refine we_seq fun K27 hK27 => ?_
    rcases hq15 : punctualref_SendOf.p4 r1 with _ | (⟨z3, z4, m6, m7⟩ | rr5)
    · rw [hq15] at h; cases h
    · rw [hq15] at h
      simp only [] at h
      refine we_keep (e' := [(0, .slice A0 l0.length c0), (1, .slice A1 l1.length c1), (2, .slice A2 l2.length c2), (3, .int .i64 x3), (8, .pointer (some ⟨b1, 0, none⟩)), (9, .pointer (some ⟨b2, 0, none⟩)), (10, .pointer (some ⟨b3, 0, none⟩)), (14, .slice A0 l0.length c0), (15, .agg #[.int .i64 r1.Code, .int .i64 r1.At]), (16, .pointer (some ⟨b3, 0, none⟩)), (17, .int .i64 r1.Code), (18, .bool true)]) ⟨by kernel_rfl, by kernel_rfl, by kernel_rfl, by kernel_rfl, by kernel_rfl, by kernel_rfl, by kernel_rfl, by kernel_rfl, by kernel_rfl, by kernel_rfl, by kernel_rfl, by kernel_rfl, trivial⟩ (punctualref_SendOf_p4 K w0 l0 A0 c0 l1 A1 c1 l2 A2 c2 x3 hR0 hL0 hR1 hL1 hR2 hL2 b1 b2 r1 b3 hc1 _ hq15 _ hS7 _ ?_)
      rintro _ a w43 ⟨rfl, v9, v10, hS169, hF⟩
      replace hS169 : St w0 w43 [Own.blk b2 (.cells #[.int .i64 z3, .int .i64 z4] 39 (0, 0)), Own.blk b1 (.cells #[v9, v10] 36 (0, 0)), Own.of v9 3 m6, Own.of v10 3 m7] := hS169
      refine hK27 [(8, .pointer (some ⟨b1, 0, none⟩)), (9, .pointer (some ⟨b2, 0, none⟩))] w43 ?_ a hF
      have hS170 := hS169.bring 3 rfl
      have hS171 := hS170.bring 3 rfl
      have hS172 := hS171.takeN 2
      obtain rfl := Option.some.inj h
      exact we_ret (post_ret (rs := [.cell 8 36, .cell 9 39]) (ans := [.val (v9), .val (v10), .val (.int .i64 z3), .val (.int .i64 z4)]) (vs := [.agg #[v9, v10], .agg #[.int .i64 z3, .int .i64 z4]]) (l := [.loaded ⟨b1, 0, none⟩ (v9), .loaded ⟨b1, 1, none⟩ (v10), .loaded ⟨b2, 0, none⟩ (.int .i64 z3), .loaded ⟨b2, 1, none⟩ (.int .i64 z4)]) rfl (by kernel_rfl) ⟨hS169.cell 1 rfl rfl, hS169.cell 1 rfl rfl, hS169.cell 0 rfl rfl, hS169.cell 0 rfl rfl, trivial⟩ ⟨v9, v10, rfl, hS172⟩)
    · rw [hq15] at h
      simp only [] at h
      refine we_keep (e' := [(0, .slice A0 l0.length c0), (1, .slice A1 l1.length c1), (2, .slice A2 l2.length c2), (3, .int .i64 x3), (8, .pointer (some ⟨b1, 0, none⟩)), (9, .pointer (some ⟨b2, 0, none⟩)), (10, .pointer (some ⟨b3, 0, none⟩)), (14, .slice A0 l0.length c0), (15, .agg #[.int .i64 r1.Code, .int .i64 r1.At]), (16, .pointer (some ⟨b3, 0, none⟩)), (17, .int .i64 r1.Code), (18, .bool true)]) ⟨by kernel_rfl, by kernel_rfl, by kernel_rfl, by kernel_rfl, by kernel_rfl, by kernel_rfl, by kernel_rfl, by kernel_rfl, by kernel_rfl, by kernel_rfl, by kernel_rfl, by kernel_rfl, trivial⟩ (punctualref_SendOf_p4 K w0 l0 A0 c0 l1 A1 c1 l2 A2 c2 x3 hR0 hL0 hR1 hL1 hR2 hL2 b1 b2 r1 b3 hc1 _ hq15 _ hS7 _ ?_)
      rintro _ a w1 ⟨_, rfl, hb⟩
      obtain rfl := Option.some.inj h
      exact hb

/-! punctual/punctualsame.Played -/
abbrev punctualsame_Played.Post (w0 : World) (r : Bool) (e : Ending) (w : World) : Prop := e = .returned (.bool r) ∧ St w0 w []
def punctualsame_Played.f (K : Nat) (l0_0 : List Int) (l0_1 : List Int) (l1_0 : List Int) (l1_1 : List Int) : Option Bool :=
  match punctualsame_Same_int.f K l0_0 l1_0 with
  | none => none
  | some r1 =>
    if r1 = true then
      match punctualsame_Same_int.f K l0_1 l1_1 with
      | none => none
      | some r2 =>
        some r2
    else
      some false
theorem punctualsame_Played_ok (K : Nat) (l0_0 : List Int) (A0_0 : Option Addr) (c0_0 : Nat) (l0_1 : List Int) (A0_1 : Option Addr) (c0_1 : Nat) (l1_0 : List Int) (A1_0 : Option Addr) (c1_0 : Nat) (l1_1 : List Int) (A1_1 : Option Addr) (c1_1 : Nat) (w0 : World) (hR0_0 : RdL w0 A0_0 l0_0) (hL0_0 : l0_0.length ≤ c0_0) (hR0_1 : RdL w0 A0_1 l0_1) (hL0_1 : l0_1.length ≤ c0_1) (hR1_0 : RdL w0 A1_0 l1_0) (hL1_0 : l1_0.length ≤ c1_0) (hR1_1 : RdL w0 A1_1 l1_1) (hL1_1 : l1_1.length ≤ c1_1) (r : Bool) (h : punctualsame_Played.f K l0_0 l0_1 l1_0 l1_1 = some r) :
    Calls Tryd.prog 18 #[.agg #[.slice A0_0 l0_0.length c0_0, .slice A0_1 l0_1.length c0_1], .agg #[.slice A1_0 l1_0.length c1_0, .slice A1_1 l1_1.length c1_1]] w0 (punctualsame_Played.Post w0 r) := by
  have hS := St.start w0
  unfold punctualsame_Played.f at h
  refine calls_enter (n := 17) (args := [.agg #[.slice A0_0 l0_0.length c0_0, .slice A0_1 l0_1.length c0_1], .agg #[.slice A1_0 l1_0.length c1_0, .slice A1_1 l1_1.length c1_1]]) (fn := Tryd.f18) rfl rfl rfl rfl ?_
  show WE _ _ _ _ [(0, .agg #[.slice A0_0 l0_0.length c0_0, .slice A0_1 l0_1.length c0_1]), (1, .agg #[.slice A1_0 l1_0.length c1_0, .slice A1_1 l1_1.length c1_1])] _
  refine we_seq fun K1 hK1 => ?_
  refine we_region [(0, 1), (1, 1), (2, 0)] rfl ?_
  refine ge_new (d := some 2) (o := .cells #[.slice A0_0 l0_0.length c0_0, .slice A0_1 l0_1.length c0_1] 36) (v := fun b => .pointer (some ⟨b, 0, none⟩)) hS (fun b => by kernel_rfl) fun b1 w1 hx1 hS1 => ?_
  refine ge_new (d := some 3) (o := .cells #[.slice A1_0 l1_0.length c1_0, .slice A1_1 l1_1.length c1_1] 36) (v := fun b => .pointer (some ⟨b, 0, none⟩)) hS1 (fun b => by kernel_rfl) fun b2 w2 hx2 hS2 => ?_
  refine ge_batch [2] (ans := []) (vs := [(4, .bool false)]) (l := []) (by kernel_rfl) trivial ?_
  refine ge_nil fun a hF => hK1 _ _ ?_ a hF
  refine we_seq fun K2 hK2 => ?_
  refine we_region [(0, 0), (1, 0), (2, 0), (3, 0), (4, 1), (5, 0), (6, 0), (7, 0), (8, 0), (9, 0), (10, 1), (11, 0), (12, 0)] rfl ?_
  rcases hq1 : punctualsame_Same_int.f K l0_0 l1_0 with _ | r1
  · rw [hq1] at h; cases h
  rw [hq1] at h
  simp only [] at h
  refine ge_batch [0, 1, 2, 3] (ans := [.val (.slice A0_0 l0_0.length c0_0), .val (.slice A1_0 l1_0.length c1_0)]) (vs := [(8, .slice A1_0 l1_0.length c1_0), (7, .pointer (some ⟨b2, 0, none⟩)), (6, .slice A0_0 l0_0.length c0_0), (5, .pointer (some ⟨b1, 0, none⟩))]) (l := [.loaded ⟨b1, 0, none⟩ (.slice A0_0 l0_0.length c0_0), .loaded ⟨b2, 0, none⟩ (.slice A1_0 l1_0.length c1_0)]) (by kernel_rfl) ⟨hS2.cell 1 rfl rfl, hS2.cell 0 rfl rfl, trivial⟩ ?_
  refine ge_call (d := some 9) (f := 40) (args := #[.slice A0_0 l0_0.length c0_0, .slice A1_0 l1_0.length c1_0]) (by kernel_rfl) (punctualsame_Same_int_ok K l0_0 A0_0 c0_0 l1_0 A1_0 c1_0 _ (hS2.rd hR0_0) hL0_0 (hS2.rd hR1_0) hL1_0 _ hq1) ?_
  rintro _ w3 ⟨rfl, hS3⟩
  refine ⟨_, rfl, hS3.below, ?_⟩
  have hS4 := hS2.call hS3
  refine ge_batch [5] (ans := []) (vs := [(10, .bool r1)]) (l := []) (by kernel_rfl) trivial ?_
  by_cases hc1 : r1 = true
  · rw [if_pos hc1] at h
    refine ge_known (t := 10) (b := r1) (c := true) (by kernel_rfl) hc1 ?_
    rcases hq2 : punctualsame_Same_int.f K l0_1 l1_1 with _ | r2
    · rw [hq2] at h; cases h
    rw [hq2] at h
    simp only [] at h
    refine ge_batch [6, 7, 8, 9] (ans := [.val (.slice A0_1 l0_1.length c0_1), .val (.slice A1_1 l1_1.length c1_1)]) (vs := [(14, .slice A1_1 l1_1.length c1_1), (13, .pointer (some ⟨b2, 1, none⟩)), (12, .slice A0_1 l0_1.length c0_1), (11, .pointer (some ⟨b1, 1, none⟩))]) (l := [.loaded ⟨b1, 1, none⟩ (.slice A0_1 l0_1.length c0_1), .loaded ⟨b2, 1, none⟩ (.slice A1_1 l1_1.length c1_1)]) (by kernel_rfl) ⟨hS4.cell 1 rfl rfl, hS4.cell 0 rfl rfl, trivial⟩ ?_
    refine ge_call (d := some 15) (f := 40) (args := #[.slice A0_1 l0_1.length c0_1, .slice A1_1 l1_1.length c1_1]) (by kernel_rfl) (punctualsame_Same_int_ok K l0_1 A0_1 c0_1 l1_1 A1_1 c1_1 _ (hS4.rd hR0_1) hL0_1 (hS4.rd hR1_1) hL1_1 _ hq2) ?_
    rintro _ w4 ⟨rfl, hS5⟩
    refine ⟨_, rfl, hS5.below, ?_⟩
    have hS6 := hS4.call hS5
    refine ge_batch [11, 12] (ans := []) (vs := [(4, .bool r2), (16, .bool r2)]) (l := []) (by kernel_rfl) trivial ?_
    refine ge_nil fun a hF => hK2 _ _ ?_ a hF
    have hS7 := hS6.takeN 0
    obtain rfl := Option.some.inj h
    exact we_ret (post_ret (rs := [.tmp 4]) (ans := []) (vs := [.bool r2]) (l := []) rfl (by kernel_rfl) trivial ⟨rfl, hS7⟩)
  · rw [if_neg hc1] at h
    refine ge_known (t := 10) (b := r1) (c := false) (by kernel_rfl) (Bool.eq_false_iff.2 hc1) ?_
    refine ge_batch [6, 7, 8, 9] (ans := []) (vs := [(14, undef), (13, undef), (12, undef), (11, undef)]) (l := []) (by kernel_rfl) trivial ?_
    refine ge_off rfl rfl rfl (by kernel_rfl) ?_
    refine ge_batch [11, 12] (ans := []) (vs := [(4, .bool false), (16, .bool false)]) (l := []) (by kernel_rfl) trivial ?_
    refine ge_nil fun a hF => hK2 _ _ ?_ a hF
    have hS8 := hS4.takeN 0
    obtain rfl := Option.some.inj h
    exact we_ret (post_ret (rs := [.tmp 4]) (ans := []) (vs := [.bool false]) (l := []) rfl (by kernel_rfl) trivial ⟨rfl, hS8⟩)

/-! punctual/punctualsame.Still[punctual/api.Frame] -/
abbrev punctualsame_Still_api_Frame.Post (w0 : World) (r : Bool) (e : Ending) (w : World) : Prop := e = .returned (.bool r) ∧ St w0 w []
def punctualsame_Still_api_Frame.r0 (f0 : List SFrame) (l1 : List SFrame) (x2 : SFrame) : Nat → Option (Nat ⊕ (Unit ⊕ Bool))
  | i1 =>
    if (i1 : Int) < (f0.length : Int) then
      match f0[i1]? with
      | none => none
      | some e1 =>
        if (i1 : Int) < (l1.length : Int) then
          match l1[i1]? with
          | none => none
          | some e2 =>
            if (SFrame.eqb e1 e2) = true then
              if (i1 : Int) ≥ (l1.length : Int) then
                if (SFrame.eqb e1 x2) = true then
                  some (.inl (i1 + 1))
                else
                  some (.inr (.inr false))
              else
                some (.inl (i1 + 1))
            else
              some (.inr (.inr false))
        else
          if (i1 : Int) ≥ (l1.length : Int) then
            if (SFrame.eqb e1 x2) = true then
              some (.inl (i1 + 1))
            else
              some (.inr (.inr false))
          else
            some (.inl (i1 + 1))
    else
      some (.inr (.inl ()))
def punctualsame_Still_api_Frame.f (K : Nat) (f0 : List SFrame) (l1 : List SFrame) (x2 : SFrame) : Option Bool :=
  if (IntKind.i64.wrap ((l1.length : Int) + 3)) = (f0.length : Int) then
    match iter (punctualsame_Still_api_Frame.r0 f0 l1 x2) K 0 with
    | none => none
    | some (.inl _) =>
      some true
    | some (.inr rr1) =>
      some rr1
  else
    none
abbrev punctualsame_Still_api_Frame.A0 (K : Nat) (w0 : World) (f0 : List SFrame) (A0 : Option Addr) (n0 : Nat) (c0 : Nat) (l1 : List SFrame) (A1 : Option Addr) (c1 : Nat) (x2 : SFrame) (hR0 : RdL w0 A0 f0) (hc0 : f0.length ≤ c0) (hR1 : RdL w0 A1 l1) (hL1 : l1.length ≤ c1) (b1 : Nat) (hc1 : (IntKind.i64.wrap ((l1.length : Int) + 3)) = (f0.length : Int)) : Nat → Act → World → Prop := fun (s : Nat) a w => St w0 w [Own.blk b1 (.cells #[.int .i64 x2.C, .int .i64 x2.T, .int .i64 x2.D, .int .i64 x2.J] 30 (0, 0))] ∧ Frm 46 a [(1, .slice A1 l1.length c1), (5, .pointer (some ⟨b1, 0, none⟩)), (15, .slice A0 f0.length c0), (16, .int .i64 (f0.length : Int)), (17, .int .i64 (s : Int))]
abbrev punctualsame_Still_api_Frame.B0 (K : Nat) (w0 : World) (f0 : List SFrame) (A0 : Option Addr) (n0 : Nat) (c0 : Nat) (l1 : List SFrame) (A1 : Option Addr) (c1 : Nat) (x2 : SFrame) (hR0 : RdL w0 A0 f0) (hc0 : f0.length ≤ c0) (hR1 : RdL w0 A1 l1) (hL1 : l1.length ≤ c1) (b1 : Nat) (hc1 : (IntKind.i64.wrap ((l1.length : Int) + 3)) = (f0.length : Int)) : (Unit ⊕ Bool) → Exit → Act → World → Prop := Exits 0 (fun (s : Unit) a w => St w0 w [] ∧ Frm 46 a []) (Rets Tryd.prog Tryd.f19 (punctualsame_Still_api_Frame.Post w0))
theorem punctualsame_Still_api_Frame_r0 (K : Nat) (w0 : World) (f0 : List SFrame) (A0 : Option Addr) (n0 : Nat) (c0 : Nat) (l1 : List SFrame) (A1 : Option Addr) (c1 : Nat) (x2 : SFrame) (hR0 : RdL w0 A0 f0) (hc0 : f0.length ≤ c0) (hR1 : RdL w0 A1 l1) (hL1 : l1.length ≤ c1) (b1 : Nat) (hc1 : (IntKind.i64.wrap ((l1.length : Int) + 3)) = (f0.length : Int)) (s : Nat) (o : Nat ⊕ (Unit ⊕ Bool)) (h : punctualsame_Still_api_Frame.r0 f0 l1 x2 s = some o) (a : Act) (w : World) (hA : punctualsame_Still_api_Frame.A0 K w0 f0 A0 n0 c0 l1 A1 c1 x2 hR0 hc0 hR1 hL1 b1 hc1 s a w) (Q : Exit → Act → World → Prop) (hQ : ∀ x a w, Outs (punctualsame_Still_api_Frame.A0 K w0 f0 A0 n0 c0 l1 A1 c1 x2 hR0 hc0 hR1 hL1 b1 hc1) (punctualsame_Still_api_Frame.B0 K w0 f0 A0 n0 c0 l1 A1 c1 x2 hR0 hc0 hR1 hL1 b1 hc1) o x a w → Q x a w) : (subF Tryd.f19 [1, 1, 0, 1, 0, 0]).wp Tryd.prog Q a w := by
  obtain ⟨i1, hs⟩ : ∃ z, z = s := ⟨s, rfl⟩
  subst hs
  obtain ⟨hS, hF⟩ := hA
  replace hS : St w0 w [Own.blk b1 (.cells #[.int .i64 x2.C, .int .i64 x2.T, .int .i64 x2.D, .int .i64 x2.J] 30 (0, 0))] := hS
  simp only [punctualsame_Still_api_Frame.r0] at h
  refine (?_ : WE Tryd.prog 46 (subF Tryd.f19 [1, 1, 0, 1, 0, 0]) Q [(1, .slice A1 l1.length c1), (5, .pointer (some ⟨b1, 0, none⟩)), (15, .slice A0 f0.length c0), (16, .int .i64 (f0.length : Int)), (17, .int .i64 (i1 : Int))] w) a hF
  clear hF a
  refine we_seq fun K5 hK5 => ?_
  refine we_region [(0, 0)] rfl ?_
  refine ge_batch [0] (ans := []) (vs := [(18, .bool (decide ((i1 : Int) < (f0.length : Int))))]) (l := []) (by kernel_rfl) trivial ?_
  refine ge_nil fun a hF => hK5 _ _ ?_ a hF
  refine we_seq fun K6 hK6 => ?_
  by_cases hc2 : (i1 : Int) < (f0.length : Int)
  · rw [if_pos hc2] at h
    refine we_known (t := 18) (b := decide ((i1 : Int) < (f0.length : Int))) (v := true) (by kernel_rfl) (decide_eq_true hc2) ?_
    refine we_true (by kernel_rfl) ?_
    refine we_skip fun a hF => hK6 _ _ ?_ a hF
    refine we_seq fun K7 hK7 => ?_
    refine we_block ?_
    refine we_seq fun K8 hK8 => ?_
    refine we_region [(0, 0), (1, 0), (2, 0), (3, 1), (4, 0), (5, 2)] rfl ?_
    refine ge_batch [0] (ans := []) (vs := [(19, .int .i64 (i1 : Int))]) (l := []) (by kernel_rfl) trivial ?_
    rcases hx2 : f0[i1]? with _ | e1
    · rw [hx2] at h; cases h
    rw [hx2] at h
    simp only [] at h
    refine ge_index (d := 20) (ty := 0) (t := 22) (el := 30) (sz := 4) (m := f0.length) (c := c0) (x := (.tmp 15)) (y := (.tmp 17)) (A := A0) (k' := .i64) (j := (i1 : Int)) (jn := i1) (b0 := blkOf A0) (o0 := offOf A0) (by kernel_rfl) (by kernel_rfl) (by kernel_rfl) (by kernel_rfl) (by kernel_rfl) ((hS.rd hR0).eqSome (pos_of_get hx2)) rfl (lt_of_get hx2) ?_
    refine ge_batch [2] (ans := [.val (.int .i64 e1.C), .val (.int .i64 e1.T), .val (.int .i64 e1.D), .val (.int .i64 e1.J)]) (vs := [(21, .agg #[.int .i64 e1.C, .int .i64 e1.T, .int .i64 e1.D, .int .i64 e1.J])]) (l := [.loaded ⟨blkOf A0, offOf A0 + i1 * 4, none⟩ (.int .i64 e1.C), .loaded ⟨blkOf A0, offOf A0 + i1 * 4 + 1, none⟩ (.int .i64 e1.T), .loaded ⟨blkOf A0, offOf A0 + i1 * 4 + 2, none⟩ (.int .i64 e1.D), .loaded ⟨blkOf A0, offOf A0 + i1 * 4 + 3, none⟩ (.int .i64 e1.J)]) (by kernel_rfl) ⟨RdL.cell (j := 0) (hS.rd hR0) hx2 rfl, RdL.cell (j := 1) (hS.rd hR0) hx2 rfl, RdL.cell (j := 2) (hS.rd hR0) hx2 rfl, RdL.cell (j := 3) (hS.rd hR0) hx2 rfl, trivial⟩ ?_
    refine ge_new (d := some 9) (o := .cells #[.int .i64 0, .int .i64 0, .int .i64 0, .int .i64 0] 30) (v := fun b => .pointer (some ⟨b, 0, none⟩)) hS (fun b => by kernel_rfl) fun b2 w2 hx3 hS2 => ?_
    refine ge_batch [4] (ans := []) (vs := [(8, .int .i64 (i1 : Int))]) (l := []) (by kernel_rfl) trivial ?_
    refine ge_set (b := b2) (j := 0) (cs := #[.int .i64 0, .int .i64 0, .int .i64 0, .int .i64 0]) (t := 30) (vs := [.int .i64 e1.C, .int .i64 e1.T, .int .i64 e1.D, .int .i64 e1.J]) hS2 (by kernel_rfl) rfl rfl fun w3 hS3 => ?_
    have hS4 : St w0 w3 [Own.blk b2 (.cells #[.int .i64 e1.C, .int .i64 e1.T, .int .i64 e1.D, .int .i64 e1.J] 30 (0, 0)), Own.blk b1 (.cells #[.int .i64 x2.C, .int .i64 x2.T, .int .i64 x2.D, .int .i64 x2.J] 30 (0, 0))] := hS3
    refine ge_nil fun a hF => hK8 _ _ ?_ a hF
    refine we_seq fun K9 hK9 => ?_
    refine we_draws (by kernel_rfl) [(0, 0), (1, 0), (2, 0), (3, 0), (4, 0), (5, 0), (6, 0), (7, 0), (8, 0), (9, 0), (10, 0), (11, 0), (12, 0), (13, 0), (14, 0), (15, 0), (16, 0), (17, 0), (18, 0), (19, 0), (20, 0), (21, 0), (22, 0)] (by kernel_rfl) ?_
    have hS5 := hS4.drew
    refine ge_batch [0, 1, 2, 3, 4] (ans := []) (vs := [(26, .bool (decide ((i1 : Int) < (l1.length : Int)))), (25, .bool (decide ((i1 : Int) < (l1.length : Int)))), (24, .int .i64 (l1.length : Int)), (23, .slice A1 l1.length c1), (22, .int .i64 (i1 : Int))]) (l := []) (by kernel_rfl) trivial ?_
    by_cases hc3 : (i1 : Int) < (l1.length : Int)
    · rw [if_pos hc3] at h
      refine ge_known (t := 26) (b := decide ((i1 : Int) < (l1.length : Int))) (c := true) (by kernel_rfl) (decide_eq_true hc3) ?_
      refine ge_batch [5, 6, 7] (ans := [.val (.int .i64 e1.C), .val (.int .i64 e1.T), .val (.int .i64 e1.D), .val (.int .i64 e1.J)]) (vs := [(29, .int .i64 (i1 : Int)), (28, .slice A1 l1.length c1), (27, .agg #[.int .i64 e1.C, .int .i64 e1.T, .int .i64 e1.D, .int .i64 e1.J])]) (l := [.loaded ⟨b2, 0, none⟩ (.int .i64 e1.C), .loaded ⟨b2, 1, none⟩ (.int .i64 e1.T), .loaded ⟨b2, 2, none⟩ (.int .i64 e1.D), .loaded ⟨b2, 3, none⟩ (.int .i64 e1.J)]) (by kernel_rfl) ⟨hS5.cell 0 rfl rfl, hS5.cell 0 rfl rfl, hS5.cell 0 rfl rfl, hS5.cell 0 rfl rfl, trivial⟩ ?_
      rcases hx4 : l1[i1]? with _ | e2
      · rw [hx4] at h; cases h
      rw [hx4] at h
      simp only [] at h
      refine ge_index (d := 30) (ty := 0) (t := 22) (el := 30) (sz := 4) (m := l1.length) (c := c1) (x := (.tmp 28)) (y := (.tmp 29)) (A := A1) (k' := .i64) (j := (i1 : Int)) (jn := i1) (b0 := blkOf A1) (o0 := offOf A1) (by kernel_rfl) (by kernel_rfl) (by kernel_rfl) (by kernel_rfl) (by kernel_rfl) ((hS5.rd hR1).eqSome (pos_of_get hx4)) rfl (lt_of_get hx4) ?_
      refine ge_batch [9] (ans := [.val (.int .i64 e2.C), .val (.int .i64 e2.T), .val (.int .i64 e2.D), .val (.int .i64 e2.J)]) (vs := [(31, .agg #[.int .i64 e2.C, .int .i64 e2.T, .int .i64 e2.D, .int .i64 e2.J])]) (l := [.loaded ⟨blkOf A1, offOf A1 + i1 * 4, none⟩ (.int .i64 e2.C), .loaded ⟨blkOf A1, offOf A1 + i1 * 4 + 1, none⟩ (.int .i64 e2.T), .loaded ⟨blkOf A1, offOf A1 + i1 * 4 + 2, none⟩ (.int .i64 e2.D), .loaded ⟨blkOf A1, offOf A1 + i1 * 4 + 3, none⟩ (.int .i64 e2.J)]) (by kernel_rfl) ⟨RdL.cell (j := 0) (hS5.rd hR1) hx4 rfl, RdL.cell (j := 1) (hS5.rd hR1) hx4 rfl, RdL.cell (j := 2) (hS5.rd hR1) hx4 rfl, RdL.cell (j := 3) (hS5.rd hR1) hx4 rfl, trivial⟩ ?_
      refine ge_eqs (d := 32) (ty := 4) (op := .neq) (x := (.tmp 27)) (y := (.tmp 31)) (t := 30) (t2 := 30) (xs := #[.int .i64 e1.C, .int .i64 e1.T, .int .i64 e1.D, .int .i64 e1.J]) (ys := #[.int .i64 e2.C, .int .i64 e2.T, .int .i64 e2.D, .int .i64 e2.J]) (r := (SFrame.eqb e1 e2)) (v := !(SFrame.eqb e1 e2)) (by kernel_rfl) (by kernel_rfl) (by kernel_rfl) (by kernel_rfl) (by kernel_rfl) rfl ?_
      refine ge_batch [11, 12] (ans := []) (vs := [(34, .bool (!(SFrame.eqb e1 e2))), (33, .bool (!(SFrame.eqb e1 e2)))]) (l := []) (by kernel_rfl) trivial ?_
      by_cases hc4 : (SFrame.eqb e1 e2) = true
      · rw [if_pos hc4] at h
        refine ge_known (t := 34) (b := !(SFrame.eqb e1 e2)) (c := false) (by kernel_rfl) (congrArg (fun z => !z) hc4) ?_
        refine ge_batch [13, 14, 15, 16, 17] (ans := []) (vs := [(39, .bool (decide ((i1 : Int) ≥ (l1.length : Int)))), (38, .bool (decide ((i1 : Int) ≥ (l1.length : Int)))), (37, .int .i64 (l1.length : Int)), (36, .slice A1 l1.length c1), (35, .int .i64 (i1 : Int))]) (l := []) (by kernel_rfl) trivial ?_
        by_cases hc5 : (i1 : Int) ≥ (l1.length : Int)
        · rw [if_pos hc5] at h
          refine ge_known (t := 39) (b := decide ((i1 : Int) ≥ (l1.length : Int))) (c := true) (by kernel_rfl) (decide_eq_true hc5) ?_
          refine ge_batch [18, 19] (ans := [.val (.int .i64 e1.C), .val (.int .i64 e1.T), .val (.int .i64 e1.D), .val (.int .i64 e1.J), .val (.int .i64 x2.C), .val (.int .i64 x2.T), .val (.int .i64 x2.D), .val (.int .i64 x2.J)]) (vs := [(41, .agg #[.int .i64 x2.C, .int .i64 x2.T, .int .i64 x2.D, .int .i64 x2.J]), (40, .agg #[.int .i64 e1.C, .int .i64 e1.T, .int .i64 e1.D, .int .i64 e1.J])]) (l := [.loaded ⟨b2, 0, none⟩ (.int .i64 e1.C), .loaded ⟨b2, 1, none⟩ (.int .i64 e1.T), .loaded ⟨b2, 2, none⟩ (.int .i64 e1.D), .loaded ⟨b2, 3, none⟩ (.int .i64 e1.J), .loaded ⟨b1, 0, none⟩ (.int .i64 x2.C), .loaded ⟨b1, 1, none⟩ (.int .i64 x2.T), .loaded ⟨b1, 2, none⟩ (.int .i64 x2.D), .loaded ⟨b1, 3, none⟩ (.int .i64 x2.J)]) (by kernel_rfl) ⟨hS5.cell 0 rfl rfl, hS5.cell 0 rfl rfl, hS5.cell 0 rfl rfl, hS5.cell 0 rfl rfl, hS5.cell 1 rfl rfl, hS5.cell 1 rfl rfl, hS5.cell 1 rfl rfl, hS5.cell 1 rfl rfl, trivial⟩ ?_
          refine ge_eqs (d := 42) (ty := 4) (op := .neq) (x := (.tmp 40)) (y := (.tmp 41)) (t := 30) (t2 := 30) (xs := #[.int .i64 e1.C, .int .i64 e1.T, .int .i64 e1.D, .int .i64 e1.J]) (ys := #[.int .i64 x2.C, .int .i64 x2.T, .int .i64 x2.D, .int .i64 x2.J]) (r := (SFrame.eqb e1 x2)) (v := !(SFrame.eqb e1 x2)) (by kernel_rfl) (by kernel_rfl) (by kernel_rfl) (by kernel_rfl) (by kernel_rfl) rfl ?_
          refine ge_batch [21, 22] (ans := []) (vs := [(44, .bool (!(SFrame.eqb e1 x2))), (43, .bool (!(SFrame.eqb e1 x2)))]) (l := []) (by kernel_rfl) trivial ?_
          refine ge_nil fun a hF => hK9 _ _ ?_ a hF
          by_cases hc6 : (SFrame.eqb e1 x2) = true
          · rw [if_pos hc6] at h
            refine we_known (t := 44) (b := !(SFrame.eqb e1 x2)) (v := false) (by kernel_rfl) (congrArg (fun z => !z) hc6) ?_
            refine we_false (by kernel_rfl) ?_
            refine we_skip fun a hF => hK7 _ _ ?_ a hF
            refine we_region [(0, 0), (1, 0)] rfl ?_
            refine ge_addn (d := 45) (ty := 3) (x := (.tmp 17)) (y := (.const (.int .i64 1))) (t := 3) (t2 := 3) (k := .i64) (m := i1) (by kernel_rfl) (by kernel_rfl) (by kernel_rfl) (by have h0 := hR0.small; omega) ?_
            refine ge_batch [1] (ans := []) (vs := [(17, .int .i64 ((i1 + 1 : Nat) : Int))]) (l := []) (by kernel_rfl) trivial ?_
            have hS6 := hS5.bring 1 rfl
            have hS7 := hS6.takeN 1
            obtain rfl := Option.some.inj h
            exact ge_nil fun a hF => hQ _ _ _ (Outs.again ⟨hS7, hF.weaken ⟨by kernel_rfl, by kernel_rfl, by kernel_rfl, by kernel_rfl, by kernel_rfl, trivial⟩⟩)
          · rw [if_neg hc6] at h
            refine we_known (t := 44) (b := !(SFrame.eqb e1 x2)) (v := true) (by kernel_rfl) (congrArg (fun z => !z) (Bool.eq_false_iff.2 hc6)) ?_
            refine we_true (by kernel_rfl) ?_
            refine we_seq fun K10 hK10 => ?_
            refine we_region [(0, 0)] rfl ?_
            refine ge_batch [0] (ans := []) (vs := [(6, .bool false)]) (l := []) (by kernel_rfl) trivial ?_
            refine ge_nil fun a hF => hK10 _ _ ?_ a hF
            have hS8 := hS5.takeN 0
            obtain rfl := Option.some.inj h
            exact we_ret fun a hF => hQ _ _ _ (Outs.out nofun (Exits.on ⟨rfl, (post_ret (rs := [.tmp 6]) (ans := []) (vs := [.bool false]) (l := []) rfl (by kernel_rfl) trivial ⟨rfl, hS8⟩) a hF⟩))
        · rw [if_neg hc5] at h
          refine ge_known (t := 39) (b := decide ((i1 : Int) ≥ (l1.length : Int))) (c := false) (by kernel_rfl) (decide_eq_false hc5) ?_
          refine ge_batch [18, 19, 20, 21, 22] (ans := []) (vs := [(44, .bool false), (43, .bool false), (42, undef), (41, undef), (40, undef)]) (l := []) (by kernel_rfl) trivial ?_
          refine ge_nil fun a hF => hK9 _ _ ?_ a hF
          refine we_false (by kernel_rfl) ?_
          refine we_skip fun a hF => hK7 _ _ ?_ a hF
          refine we_region [(0, 0), (1, 0)] rfl ?_
          refine ge_addn (d := 45) (ty := 3) (x := (.tmp 17)) (y := (.const (.int .i64 1))) (t := 3) (t2 := 3) (k := .i64) (m := i1) (by kernel_rfl) (by kernel_rfl) (by kernel_rfl) (by have h0 := hR0.small; omega) ?_
          refine ge_batch [1] (ans := []) (vs := [(17, .int .i64 ((i1 + 1 : Nat) : Int))]) (l := []) (by kernel_rfl) trivial ?_
          have hS9 := hS5.bring 1 rfl
          have hS10 := hS9.takeN 1
          obtain rfl := Option.some.inj h
          exact ge_nil fun a hF => hQ _ _ _ (Outs.again ⟨hS10, hF.weaken ⟨by kernel_rfl, by kernel_rfl, by kernel_rfl, by kernel_rfl, by kernel_rfl, trivial⟩⟩)
      · rw [if_neg hc4] at h
        refine ge_known (t := 34) (b := !(SFrame.eqb e1 e2)) (c := true) (by kernel_rfl) (congrArg (fun z => !z) (Bool.eq_false_iff.2 hc4)) ?_
        refine ge_batch [13, 14, 15, 16, 17, 18, 19, 20, 21, 22] (ans := []) (vs := [(44, .bool true), (43, undef), (42, undef), (41, undef), (40, undef), (39, undef), (38, undef), (37, undef), (36, undef), (35, undef)]) (l := []) (by kernel_rfl) trivial ?_
        refine ge_nil fun a hF => hK9 _ _ ?_ a hF
        refine we_true (by kernel_rfl) ?_
        refine we_seq fun K11 hK11 => ?_
        refine we_region [(0, 0)] rfl ?_
        refine ge_batch [0] (ans := []) (vs := [(6, .bool false)]) (l := []) (by kernel_rfl) trivial ?_
        refine ge_nil fun a hF => hK11 _ _ ?_ a hF
        have hS11 := hS5.takeN 0
        obtain rfl := Option.some.inj h
        exact we_ret fun a hF => hQ _ _ _ (Outs.out nofun (Exits.on ⟨rfl, (post_ret (rs := [.tmp 6]) (ans := []) (vs := [.bool false]) (l := []) rfl (by kernel_rfl) trivial ⟨rfl, hS11⟩) a hF⟩))
    · rw [if_neg hc3] at h
      refine ge_known (t := 26) (b := decide ((i1 : Int) < (l1.length : Int))) (c := false) (by kernel_rfl) (decide_eq_false hc3) ?_
      refine ge_batch [5, 6, 7, 8, 9, 10, 11, 12, 13, 14, 15, 16, 17] (ans := []) (vs := [(39, .bool (decide ((i1 : Int) ≥ (l1.length : Int)))), (38, .bool (decide ((i1 : Int) ≥ (l1.length : Int)))), (37, .int .i64 (l1.length : Int)), (36, .slice A1 l1.length c1), (35, .int .i64 (i1 : Int)), (34, .bool false), (33, .bool false), (32, undef), (31, undef), (30, undef), (29, undef), (28, undef), (27, undef)]) (l := []) (by kernel_rfl) trivial ?_
      by_cases hc7 : (i1 : Int) ≥ (l1.length : Int)
      · rw [if_pos hc7] at h
        refine ge_known (t := 39) (b := decide ((i1 : Int) ≥ (l1.length : Int))) (c := true) (by kernel_rfl) (decide_eq_true hc7) ?_
        refine ge_batch [18, 19] (ans := [.val (.int .i64 e1.C), .val (.int .i64 e1.T), .val (.int .i64 e1.D), .val (.int .i64 e1.J), .val (.int .i64 x2.C), .val (.int .i64 x2.T), .val (.int .i64 x2.D), .val (.int .i64 x2.J)]) (vs := [(41, .agg #[.int .i64 x2.C, .int .i64 x2.T, .int .i64 x2.D, .int .i64 x2.J]), (40, .agg #[.int .i64 e1.C, .int .i64 e1.T, .int .i64 e1.D, .int .i64 e1.J])]) (l := [.loaded ⟨b2, 0, none⟩ (.int .i64 e1.C), .loaded ⟨b2, 1, none⟩ (.int .i64 e1.T), .loaded ⟨b2, 2, none⟩ (.int .i64 e1.D), .loaded ⟨b2, 3, none⟩ (.int .i64 e1.J), .loaded ⟨b1, 0, none⟩ (.int .i64 x2.C), .loaded ⟨b1, 1, none⟩ (.int .i64 x2.T), .loaded ⟨b1, 2, none⟩ (.int .i64 x2.D), .loaded ⟨b1, 3, none⟩ (.int .i64 x2.J)]) (by kernel_rfl) ⟨hS5.cell 0 rfl rfl, hS5.cell 0 rfl rfl, hS5.cell 0 rfl rfl, hS5.cell 0 rfl rfl, hS5.cell 1 rfl rfl, hS5.cell 1 rfl rfl, hS5.cell 1 rfl rfl, hS5.cell 1 rfl rfl, trivial⟩ ?_
        refine ge_eqs (d := 42) (ty := 4) (op := .neq) (x := (.tmp 40)) (y := (.tmp 41)) (t := 30) (t2 := 30) (xs := #[.int .i64 e1.C, .int .i64 e1.T, .int .i64 e1.D, .int .i64 e1.J]) (ys := #[.int .i64 x2.C, .int .i64 x2.T, .int .i64 x2.D, .int .i64 x2.J]) (r := (SFrame.eqb e1 x2)) (v := !(SFrame.eqb e1 x2)) (by kernel_rfl) (by kernel_rfl) (by kernel_rfl) (by kernel_rfl) (by kernel_rfl) rfl ?_
        refine ge_batch [21, 22] (ans := []) (vs := [(44, .bool (!(SFrame.eqb e1 x2))), (43, .bool (!(SFrame.eqb e1 x2)))]) (l := []) (by kernel_rfl) trivial ?_
        refine ge_nil fun a hF => hK9 _ _ ?_ a hF
        by_cases hc8 : (SFrame.eqb e1 x2) = true
        · rw [if_pos hc8] at h
          refine we_known (t := 44) (b := !(SFrame.eqb e1 x2)) (v := false) (by kernel_rfl) (congrArg (fun z => !z) hc8) ?_
          refine we_false (by kernel_rfl) ?_
          refine we_skip fun a hF => hK7 _ _ ?_ a hF
          refine we_region [(0, 0), (1, 0)] rfl ?_
          refine ge_addn (d := 45) (ty := 3) (x := (.tmp 17)) (y := (.const (.int .i64 1))) (t := 3) (t2 := 3) (k := .i64) (m := i1) (by kernel_rfl) (by kernel_rfl) (by kernel_rfl) (by have h0 := hR0.small; omega) ?_
          refine ge_batch [1] (ans := []) (vs := [(17, .int .i64 ((i1 + 1 : Nat) : Int))]) (l := []) (by kernel_rfl) trivial ?_
          have hS12 := hS5.bring 1 rfl
          have hS13 := hS12.takeN 1
          obtain rfl := Option.some.inj h
          exact ge_nil fun a hF => hQ _ _ _ (Outs.again ⟨hS13, hF.weaken ⟨by kernel_rfl, by kernel_rfl, by kernel_rfl, by kernel_rfl, by kernel_rfl, trivial⟩⟩)
        · rw [if_neg hc8] at h
          refine we_known (t := 44) (b := !(SFrame.eqb e1 x2)) (v := true) (by kernel_rfl) (congrArg (fun z => !z) (Bool.eq_false_iff.2 hc8)) ?_
          refine we_true (by kernel_rfl) ?_
          refine we_seq fun K12 hK12 => ?_
          refine we_region [(0, 0)] rfl ?_
          refine ge_batch [0] (ans := []) (vs := [(6, .bool false)]) (l := []) (by kernel_rfl) trivial ?_
          refine ge_nil fun a hF => hK12 _ _ ?_ a hF
          have hS14 := hS5.takeN 0
          obtain rfl := Option.some.inj h
          exact we_ret fun a hF => hQ _ _ _ (Outs.out nofun (Exits.on ⟨rfl, (post_ret (rs := [.tmp 6]) (ans := []) (vs := [.bool false]) (l := []) rfl (by kernel_rfl) trivial ⟨rfl, hS14⟩) a hF⟩))
      · rw [if_neg hc7] at h
        refine ge_known (t := 39) (b := decide ((i1 : Int) ≥ (l1.length : Int))) (c := false) (by kernel_rfl) (decide_eq_false hc7) ?_
        refine ge_batch [18, 19, 20, 21, 22] (ans := []) (vs := [(44, .bool false), (43, .bool false), (42, undef), (41, undef), (40, undef)]) (l := []) (by kernel_rfl) trivial ?_
        refine ge_nil fun a hF => hK9 _ _ ?_ a hF
        refine we_false (by kernel_rfl) ?_
        refine we_skip fun a hF => hK7 _ _ ?_ a hF
        refine we_region [(0, 0), (1, 0)] rfl ?_
        refine ge_addn (d := 45) (ty := 3) (x := (.tmp 17)) (y := (.const (.int .i64 1))) (t := 3) (t2 := 3) (k := .i64) (m := i1) (by kernel_rfl) (by kernel_rfl) (by kernel_rfl) (by have h0 := hR0.small; omega) ?_
        refine ge_batch [1] (ans := []) (vs := [(17, .int .i64 ((i1 + 1 : Nat) : Int))]) (l := []) (by kernel_rfl) trivial ?_
        have hS15 := hS5.bring 1 rfl
        have hS16 := hS15.takeN 1
        obtain rfl := Option.some.inj h
        exact ge_nil fun a hF => hQ _ _ _ (Outs.again ⟨hS16, hF.weaken ⟨by kernel_rfl, by kernel_rfl, by kernel_rfl, by kernel_rfl, by kernel_rfl, trivial⟩⟩)
  · rw [if_neg hc2] at h
    refine we_known (t := 18) (b := decide ((i1 : Int) < (f0.length : Int))) (v := false) (by kernel_rfl) (decide_eq_false hc2) ?_
    refine we_false (by kernel_rfl) ?_
    have hS17 := hS.takeN 0
    obtain rfl := Option.some.inj h
    exact we_exit fun a hF => hQ _ _ _ (Outs.out nofun (Exits.here ⟨hS17, hF.weaken trivial⟩))
theorem punctualsame_Still_api_Frame_ok (K : Nat) (f0 : List SFrame) (A0 : Option Addr) (n0 : Nat) (c0 : Nat) (l1 : List SFrame) (A1 : Option Addr) (c1 : Nat) (x2 : SFrame) (w0 : World) (hR0 : RdL w0 A0 f0) (hc0 : f0.length ≤ c0) (hR1 : RdL w0 A1 l1) (hL1 : l1.length ≤ c1) (r : Bool) (h : punctualsame_Still_api_Frame.f K f0 l1 x2 = some r) :
    Calls Tryd.prog 19 #[.slice A0 n0 c0, .slice A1 l1.length c1, .agg #[.int .i64 x2.C, .int .i64 x2.T, .int .i64 x2.D, .int .i64 x2.J]] w0 (punctualsame_Still_api_Frame.Post w0 r) := by
  have hS := St.start w0
  unfold punctualsame_Still_api_Frame.f at h
  refine calls_enter (n := 46) (args := [.slice A0 n0 c0, .slice A1 l1.length c1, .agg #[.int .i64 x2.C, .int .i64 x2.T, .int .i64 x2.D, .int .i64 x2.J]]) (fn := Tryd.f19) rfl rfl rfl rfl ?_
  show WE _ _ _ _ [(0, .slice A0 n0 c0), (1, .slice A1 l1.length c1), (2, .agg #[.int .i64 x2.C, .int .i64 x2.T, .int .i64 x2.D, .int .i64 x2.J])] _
  refine we_seq fun K1 hK1 => ?_
  refine we_region [(0, 1), (1, 0)] rfl ?_
  refine ge_new (d := some 5) (o := .cells #[.int .i64 x2.C, .int .i64 x2.T, .int .i64 x2.D, .int .i64 x2.J] 30) (v := fun b => .pointer (some ⟨b, 0, none⟩)) hS (fun b => by kernel_rfl) fun b1 w1 hx1 hS1 => ?_
  refine ge_batch [1] (ans := []) (vs := [(6, .bool false)]) (l := []) (by kernel_rfl) trivial ?_
  refine ge_nil fun a hF => hK1 _ _ ?_ a hF
  refine we_seq fun K2 hK2 => ?_
  refine we_region [(0, 0), (1, 0), (2, 0), (3, 0), (4, 0), (5, 0)] rfl ?_
  refine ge_batch [0, 1, 2, 3] (ans := []) (vs := [(13, .int .i64 (IntKind.i64.wrap ((l1.length : Int) + 3))), (12, .int .i64 (l1.length : Int)), (11, .slice A1 l1.length c1), (10, .slice A0 n0 c0)]) (l := []) (by kernel_rfl) trivial ?_
  by_cases hc1 : (IntKind.i64.wrap ((l1.length : Int) + 3)) = (f0.length : Int)
  · rw [if_pos hc1] at h
    refine ge_sliceHi (d := 14) (ty := 22) (t := 22) (el := 30) (sz := 4) (m := n0) (c := c0) (hn := f0.length) (x := (.tmp 10)) (y := (.tmp 13)) (A := A0) (k' := .i64) (hi := (IntKind.i64.wrap ((l1.length : Int) + 3))) (by kernel_rfl) (by kernel_rfl) (by kernel_rfl) hc1 (by kernel_rfl) (by kernel_rfl) hc0 ?_
    refine ge_batch [5] (ans := []) (vs := [(7, .slice A0 f0.length c0)]) (l := []) (by kernel_rfl) trivial ?_
    refine ge_nil fun a hF => hK2 _ _ ?_ a hF
    refine we_seq fun K3 hK3 => ?_
    refine we_seq fun K4 hK4 => ?_
    refine we_region [(0, 0), (1, 0), (2, 0)] rfl ?_
    refine ge_batch [0, 1, 2] (ans := []) (vs := [(17, .int .i64 0), (16, .int .i64 (f0.length : Int)), (15, .slice A0 f0.length c0)]) (l := []) (by kernel_rfl) trivial ?_
    refine ge_nil fun a hF => hK4 _ _ ?_ a hF
    refine we_block ?_
    rcases hq1 : iter (punctualsame_Still_api_Frame.r0 f0 l1 x2) K 0 with _ | (_ | rr1)
    · rw [hq1] at h; cases h
    · rw [hq1] at h
      simp only [] at h
      refine we_iter (A := punctualsame_Still_api_Frame.A0 K w0 f0 A0 n0 c0 l1 A1 c1 x2 hR0 hc0 hR1 hL1 b1 hc1) (B := punctualsame_Still_api_Frame.B0 K w0 f0 A0 n0 c0 l1 A1 c1 x2 hR0 hc0 hR1 hL1 b1 hc1) hq1 (fun a hF => ⟨hS1, hF.weaken ⟨by kernel_rfl, by kernel_rfl, by kernel_rfl, by kernel_rfl, by kernel_rfl, trivial⟩⟩) (fun s o hf a w hA Q hQ => punctualsame_Still_api_Frame_r0 K w0 f0 A0 n0 c0 l1 A1 c1 x2 hR0 hc0 hR1 hL1 b1 hc1 s o hf a w hA Q hQ) ?_
      rintro _ a w4 _ ⟨rfl, hS18, hF⟩
      replace hS18 : St w0 w4 [] := hS18
      refine hK3 [] w4 ?_ a hF
      refine we_seq fun K13 hK13 => ?_
      refine we_region [(0, 0)] rfl ?_
      refine ge_batch [0] (ans := []) (vs := [(6, .bool true)]) (l := []) (by kernel_rfl) trivial ?_
      refine ge_nil fun a hF => hK13 _ _ ?_ a hF
      obtain rfl := Option.some.inj h
      exact we_ret (post_ret (rs := [.tmp 6]) (ans := []) (vs := [.bool true]) (l := []) rfl (by kernel_rfl) trivial ⟨rfl, hS18⟩)
    · rw [hq1] at h
      simp only [] at h
      refine we_iter (A := punctualsame_Still_api_Frame.A0 K w0 f0 A0 n0 c0 l1 A1 c1 x2 hR0 hc0 hR1 hL1 b1 hc1) (B := punctualsame_Still_api_Frame.B0 K w0 f0 A0 n0 c0 l1 A1 c1 x2 hR0 hc0 hR1 hL1 b1 hc1) hq1 (fun a hF => ⟨hS1, hF.weaken ⟨by kernel_rfl, by kernel_rfl, by kernel_rfl, by kernel_rfl, by kernel_rfl, trivial⟩⟩) (fun s o hf a w hA Q hQ => punctualsame_Still_api_Frame_r0 K w0 f0 A0 n0 c0 l1 A1 c1 x2 hR0 hc0 hR1 hL1 b1 hc1 s o hf a w hA Q hQ) ?_
      rintro _ a w1 _ ⟨rfl, hb⟩
      obtain rfl := Option.some.inj h
      exact hb
  · rw [if_neg hc1] at h
    cases h

/-! punctual/punctualsame.Still[punctual/api.Come] -/
abbrev punctualsame_Still_api_Come.Post (w0 : World) (r : Bool) (e : Ending) (w : World) : Prop := e = .returned (.bool r) ∧ St w0 w []
def punctualsame_Still_api_Come.r0 (f0 : List SCome) (l1 : List SCome) (x2 : SCome) : Nat → Option (Nat ⊕ (Unit ⊕ Bool))
  | i1 =>
    if (i1 : Int) < (f0.length : Int) then
      match f0[i1]? with
      | none => none
      | some e1 =>
        if (i1 : Int) < (l1.length : Int) then
          match l1[i1]? with
          | none => none
          | some e2 =>
            if (SCome.eqb e1 e2) = true then
              if (i1 : Int) ≥ (l1.length : Int) then
                if (SCome.eqb e1 x2) = true then
                  some (.inl (i1 + 1))
                else
                  some (.inr (.inr false))
              else
                some (.inl (i1 + 1))
            else
              some (.inr (.inr false))
        else
          if (i1 : Int) ≥ (l1.length : Int) then
            if (SCome.eqb e1 x2) = true then
              some (.inl (i1 + 1))
            else
              some (.inr (.inr false))
          else
            some (.inl (i1 + 1))
    else
      some (.inr (.inl ()))
def punctualsame_Still_api_Come.f (K : Nat) (f0 : List SCome) (l1 : List SCome) (x2 : SCome) : Option Bool :=
  if (IntKind.i64.wrap ((l1.length : Int) + 3)) = (f0.length : Int) then
    match iter (punctualsame_Still_api_Come.r0 f0 l1 x2) K 0 with
    | none => none
    | some (.inl _) =>
      some true
    | some (.inr rr1) =>
      some rr1
  else
    none
abbrev punctualsame_Still_api_Come.A0 (K : Nat) (w0 : World) (f0 : List SCome) (A0 : Option Addr) (n0 : Nat) (c0 : Nat) (l1 : List SCome) (A1 : Option Addr) (c1 : Nat) (x2 : SCome) (hR0 : RdL w0 A0 f0) (hc0 : f0.length ≤ c0) (hR1 : RdL w0 A1 l1) (hL1 : l1.length ≤ c1) (b1 : Nat) (hc1 : (IntKind.i64.wrap ((l1.length : Int) + 3)) = (f0.length : Int)) : Nat → Act → World → Prop := fun (s : Nat) a w => St w0 w [Own.blk b1 (.cells #[.int .i64 x2.Task, .int .i64 x2.At] 33 (0, 0))] ∧ Frm 46 a [(1, .slice A1 l1.length c1), (5, .pointer (some ⟨b1, 0, none⟩)), (15, .slice A0 f0.length c0), (16, .int .i64 (f0.length : Int)), (17, .int .i64 (s : Int))]
abbrev punctualsame_Still_api_Come.B0 (K : Nat) (w0 : World) (f0 : List SCome) (A0 : Option Addr) (n0 : Nat) (c0 : Nat) (l1 : List SCome) (A1 : Option Addr) (c1 : Nat) (x2 : SCome) (hR0 : RdL w0 A0 f0) (hc0 : f0.length ≤ c0) (hR1 : RdL w0 A1 l1) (hL1 : l1.length ≤ c1) (b1 : Nat) (hc1 : (IntKind.i64.wrap ((l1.length : Int) + 3)) = (f0.length : Int)) : (Unit ⊕ Bool) → Exit → Act → World → Prop := Exits 0 (fun (s : Unit) a w => St w0 w [] ∧ Frm 46 a []) (Rets Tryd.prog Tryd.f20 (punctualsame_Still_api_Come.Post w0))
theorem punctualsame_Still_api_Come_r0 (K : Nat) (w0 : World) (f0 : List SCome) (A0 : Option Addr) (n0 : Nat) (c0 : Nat) (l1 : List SCome) (A1 : Option Addr) (c1 : Nat) (x2 : SCome) (hR0 : RdL w0 A0 f0) (hc0 : f0.length ≤ c0) (hR1 : RdL w0 A1 l1) (hL1 : l1.length ≤ c1) (b1 : Nat) (hc1 : (IntKind.i64.wrap ((l1.length : Int) + 3)) = (f0.length : Int)) (s : Nat) (o : Nat ⊕ (Unit ⊕ Bool)) (h : punctualsame_Still_api_Come.r0 f0 l1 x2 s = some o) (a : Act) (w : World) (hA : punctualsame_Still_api_Come.A0 K w0 f0 A0 n0 c0 l1 A1 c1 x2 hR0 hc0 hR1 hL1 b1 hc1 s a w) (Q : Exit → Act → World → Prop) (hQ : ∀ x a w, Outs (punctualsame_Still_api_Come.A0 K w0 f0 A0 n0 c0 l1 A1 c1 x2 hR0 hc0 hR1 hL1 b1 hc1) (punctualsame_Still_api_Come.B0 K w0 f0 A0 n0 c0 l1 A1 c1 x2 hR0 hc0 hR1 hL1 b1 hc1) o x a w → Q x a w) : (subF Tryd.f20 [1, 1, 0, 1, 0, 0]).wp Tryd.prog Q a w := by
  obtain ⟨i1, hs⟩ : ∃ z, z = s := ⟨s, rfl⟩
  subst hs
  obtain ⟨hS, hF⟩ := hA
  replace hS : St w0 w [Own.blk b1 (.cells #[.int .i64 x2.Task, .int .i64 x2.At] 33 (0, 0))] := hS
  simp only [punctualsame_Still_api_Come.r0] at h
  refine (?_ : WE Tryd.prog 46 (subF Tryd.f20 [1, 1, 0, 1, 0, 0]) Q [(1, .slice A1 l1.length c1), (5, .pointer (some ⟨b1, 0, none⟩)), (15, .slice A0 f0.length c0), (16, .int .i64 (f0.length : Int)), (17, .int .i64 (i1 : Int))] w) a hF
  clear hF a
  refine we_seq fun K5 hK5 => ?_
  refine we_region [(0, 0)] rfl ?_
  refine ge_batch [0] (ans := []) (vs := [(18, .bool (decide ((i1 : Int) < (f0.length : Int))))]) (l := []) (by kernel_rfl) trivial ?_
  refine ge_nil fun a hF => hK5 _ _ ?_ a hF
  refine we_seq fun K6 hK6 => ?_
  by_cases hc2 : (i1 : Int) < (f0.length : Int)
  · rw [if_pos hc2] at h
    refine we_known (t := 18) (b := decide ((i1 : Int) < (f0.length : Int))) (v := true) (by kernel_rfl) (decide_eq_true hc2) ?_
    refine we_true (by kernel_rfl) ?_
    refine we_skip fun a hF => hK6 _ _ ?_ a hF
    refine we_seq fun K7 hK7 => ?_
    refine we_block ?_
    refine we_seq fun K8 hK8 => ?_
    refine we_region [(0, 0), (1, 0), (2, 0), (3, 1), (4, 0), (5, 2)] rfl ?_
    refine ge_batch [0] (ans := []) (vs := [(19, .int .i64 (i1 : Int))]) (l := []) (by kernel_rfl) trivial ?_
    rcases hx2 : f0[i1]? with _ | e1
    · rw [hx2] at h; cases h
    rw [hx2] at h
    simp only [] at h
    refine ge_index (d := 20) (ty := 0) (t := 23) (el := 33) (sz := 2) (m := f0.length) (c := c0) (x := (.tmp 15)) (y := (.tmp 17)) (A := A0) (k' := .i64) (j := (i1 : Int)) (jn := i1) (b0 := blkOf A0) (o0 := offOf A0) (by kernel_rfl) (by kernel_rfl) (by kernel_rfl) (by kernel_rfl) (by kernel_rfl) ((hS.rd hR0).eqSome (pos_of_get hx2)) rfl (lt_of_get hx2) ?_
    refine ge_batch [2] (ans := [.val (.int .i64 e1.Task), .val (.int .i64 e1.At)]) (vs := [(21, .agg #[.int .i64 e1.Task, .int .i64 e1.At])]) (l := [.loaded ⟨blkOf A0, offOf A0 + i1 * 2, none⟩ (.int .i64 e1.Task), .loaded ⟨blkOf A0, offOf A0 + i1 * 2 + 1, none⟩ (.int .i64 e1.At)]) (by kernel_rfl) ⟨RdL.cell (j := 0) (hS.rd hR0) hx2 rfl, RdL.cell (j := 1) (hS.rd hR0) hx2 rfl, trivial⟩ ?_
    refine ge_new (d := some 9) (o := .cells #[.int .i64 0, .int .i64 0] 33) (v := fun b => .pointer (some ⟨b, 0, none⟩)) hS (fun b => by kernel_rfl) fun b2 w2 hx3 hS2 => ?_
    refine ge_batch [4] (ans := []) (vs := [(8, .int .i64 (i1 : Int))]) (l := []) (by kernel_rfl) trivial ?_
    refine ge_set (b := b2) (j := 0) (cs := #[.int .i64 0, .int .i64 0]) (t := 33) (vs := [.int .i64 e1.Task, .int .i64 e1.At]) hS2 (by kernel_rfl) rfl rfl fun w3 hS3 => ?_
    have hS4 : St w0 w3 [Own.blk b2 (.cells #[.int .i64 e1.Task, .int .i64 e1.At] 33 (0, 0)), Own.blk b1 (.cells #[.int .i64 x2.Task, .int .i64 x2.At] 33 (0, 0))] := hS3
    refine ge_nil fun a hF => hK8 _ _ ?_ a hF
    refine we_seq fun K9 hK9 => ?_
    refine we_draws (by kernel_rfl) [(0, 0), (1, 0), (2, 0), (3, 0), (4, 0), (5, 0), (6, 0), (7, 0), (8, 0), (9, 0), (10, 0), (11, 0), (12, 0), (13, 0), (14, 0), (15, 0), (16, 0), (17, 0), (18, 0), (19, 0), (20, 0), (21, 0), (22, 0)] (by kernel_rfl) ?_
    have hS5 := hS4.drew
    refine ge_batch [0, 1, 2, 3, 4] (ans := []) (vs := [(26, .bool (decide ((i1 : Int) < (l1.length : Int)))), (25, .bool (decide ((i1 : Int) < (l1.length : Int)))), (24, .int .i64 (l1.length : Int)), (23, .slice A1 l1.length c1), (22, .int .i64 (i1 : Int))]) (l := []) (by kernel_rfl) trivial ?_
    by_cases hc3 : (i1 : Int) < (l1.length : Int)
    · rw [if_pos hc3] at h
      refine ge_known (t := 26) (b := decide ((i1 : Int) < (l1.length : Int))) (c := true) (by kernel_rfl) (decide_eq_true hc3) ?_
      refine ge_batch [5, 6, 7] (ans := [.val (.int .i64 e1.Task), .val (.int .i64 e1.At)]) (vs := [(29, .int .i64 (i1 : Int)), (28, .slice A1 l1.length c1), (27, .agg #[.int .i64 e1.Task, .int .i64 e1.At])]) (l := [.loaded ⟨b2, 0, none⟩ (.int .i64 e1.Task), .loaded ⟨b2, 1, none⟩ (.int .i64 e1.At)]) (by kernel_rfl) ⟨hS5.cell 0 rfl rfl, hS5.cell 0 rfl rfl, trivial⟩ ?_
      rcases hx4 : l1[i1]? with _ | e2
      · rw [hx4] at h; cases h
      rw [hx4] at h
      simp only [] at h
      refine ge_index (d := 30) (ty := 0) (t := 23) (el := 33) (sz := 2) (m := l1.length) (c := c1) (x := (.tmp 28)) (y := (.tmp 29)) (A := A1) (k' := .i64) (j := (i1 : Int)) (jn := i1) (b0 := blkOf A1) (o0 := offOf A1) (by kernel_rfl) (by kernel_rfl) (by kernel_rfl) (by kernel_rfl) (by kernel_rfl) ((hS5.rd hR1).eqSome (pos_of_get hx4)) rfl (lt_of_get hx4) ?_
      refine ge_batch [9] (ans := [.val (.int .i64 e2.Task), .val (.int .i64 e2.At)]) (vs := [(31, .agg #[.int .i64 e2.Task, .int .i64 e2.At])]) (l := [.loaded ⟨blkOf A1, offOf A1 + i1 * 2, none⟩ (.int .i64 e2.Task), .loaded ⟨blkOf A1, offOf A1 + i1 * 2 + 1, none⟩ (.int .i64 e2.At)]) (by kernel_rfl) ⟨RdL.cell (j := 0) (hS5.rd hR1) hx4 rfl, RdL.cell (j := 1) (hS5.rd hR1) hx4 rfl, trivial⟩ ?_
      refine ge_eqs (d := 32) (ty := 4) (op := .neq) (x := (.tmp 27)) (y := (.tmp 31)) (t := 33) (t2 := 33) (xs := #[.int .i64 e1.Task, .int .i64 e1.At]) (ys := #[.int .i64 e2.Task, .int .i64 e2.At]) (r := (SCome.eqb e1 e2)) (v := !(SCome.eqb e1 e2)) (by kernel_rfl) (by kernel_rfl) (by kernel_rfl) (by kernel_rfl) (by kernel_rfl) rfl ?_
      refine ge_batch [11, 12] (ans := []) (vs := [(34, .bool (!(SCome.eqb e1 e2))), (33, .bool (!(SCome.eqb e1 e2)))]) (l := []) (by kernel_rfl) trivial ?_
      by_cases hc4 : (SCome.eqb e1 e2) = true
      · rw [if_pos hc4] at h
        refine ge_known (t := 34) (b := !(SCome.eqb e1 e2)) (c := false) (by kernel_rfl) (congrArg (fun z => !z) hc4) ?_
        refine ge_batch [13, 14, 15, 16, 17] (ans := []) (vs := [(39, .bool (decide ((i1 : Int) ≥ (l1.length : Int)))), (38, .bool (decide ((i1 : Int) ≥ (l1.length : Int)))), (37, .int .i64 (l1.length : Int)), (36, .slice A1 l1.length c1), (35, .int .i64 (i1 : Int))]) (l := []) (by kernel_rfl) trivial ?_
        by_cases hc5 : (i1 : Int) ≥ (l1.length : Int)
        · rw [if_pos hc5] at h
          refine ge_known (t := 39) (b := decide ((i1 : Int) ≥ (l1.length : Int))) (c := true) (by kernel_rfl) (decide_eq_true hc5) ?_
          refine ge_batch [18, 19] (ans := [.val (.int .i64 e1.Task), .val (.int .i64 e1.At), .val (.int .i64 x2.Task), .val (.int .i64 x2.At)]) (vs := [(41, .agg #[.int .i64 x2.Task, .int .i64 x2.At]), (40, .agg #[.int .i64 e1.Task, .int .i64 e1.At])]) (l := [.loaded ⟨b2, 0, none⟩ (.int .i64 e1.Task), .loaded ⟨b2, 1, none⟩ (.int .i64 e1.At), .loaded ⟨b1, 0, none⟩ (.int .i64 x2.Task), .loaded ⟨b1, 1, none⟩ (.int .i64 x2.At)]) (by kernel_rfl) ⟨hS5.cell 0 rfl rfl, hS5.cell 0 rfl rfl, hS5.cell 1 rfl rfl, hS5.cell 1 rfl rfl, trivial⟩ ?_
          refine ge_eqs (d := 42) (ty := 4) (op := .neq) (x := (.tmp 40)) (y := (.tmp 41)) (t := 33) (t2 := 33) (xs := #[.int .i64 e1.Task, .int .i64 e1.At]) (ys := #[.int .i64 x2.Task, .int .i64 x2.At]) (r := (SCome.eqb e1 x2)) (v := !(SCome.eqb e1 x2)) (by kernel_rfl) (by kernel_rfl) (by kernel_rfl) (by kernel_rfl) (by kernel_rfl) rfl ?_
          refine ge_batch [21, 22] (ans := []) (vs := [(44, .bool (!(SCome.eqb e1 x2))), (43, .bool (!(SCome.eqb e1 x2)))]) (l := []) (by kernel_rfl) trivial ?_
          refine ge_nil fun a hF => hK9 _ _ ?_ a hF
          by_cases hc6 : (SCome.eqb e1 x2) = true
          · rw [if_pos hc6] at h
            refine we_known (t := 44) (b := !(SCome.eqb e1 x2)) (v := false) (by kernel_rfl) (congrArg (fun z => !z) hc6) ?_
            refine we_false (by kernel_rfl) ?_
            refine we_skip fun a hF => hK7 _ _ ?_ a hF
            refine we_region [(0, 0), (1, 0)] rfl ?_
            refine ge_addn (d := 45) (ty := 3) (x := (.tmp 17)) (y := (.const (.int .i64 1))) (t := 3) (t2 := 3) (k := .i64) (m := i1) (by kernel_rfl) (by kernel_rfl) (by kernel_rfl) (by have h0 := hR0.small; omega) ?_
            refine ge_batch [1] (ans := []) (vs := [(17, .int .i64 ((i1 + 1 : Nat) : Int))]) (l := []) (by kernel_rfl) trivial ?_
            have hS6 := hS5.bring 1 rfl
            have hS7 := hS6.takeN 1
            obtain rfl := Option.some.inj h
            exact ge_nil fun a hF => hQ _ _ _ (Outs.again ⟨hS7, hF.weaken ⟨by kernel_rfl, by kernel_rfl, by kernel_rfl, by kernel_rfl, by kernel_rfl, trivial⟩⟩)
          · rw [if_neg hc6] at h
            refine we_known (t := 44) (b := !(SCome.eqb e1 x2)) (v := true) (by kernel_rfl) (congrArg (fun z => !z) (Bool.eq_false_iff.2 hc6)) ?_
            refine we_true (by kernel_rfl) ?_
            refine we_seq fun K10 hK10 => ?_
            refine we_region [(0, 0)] rfl ?_
            refine ge_batch [0] (ans := []) (vs := [(6, .bool false)]) (l := []) (by kernel_rfl) trivial ?_
            refine ge_nil fun a hF => hK10 _ _ ?_ a hF
            have hS8 := hS5.takeN 0
            obtain rfl := Option.some.inj h
            exact we_ret fun a hF => hQ _ _ _ (Outs.out nofun (Exits.on ⟨rfl, (post_ret (rs := [.tmp 6]) (ans := []) (vs := [.bool false]) (l := []) rfl (by kernel_rfl) trivial ⟨rfl, hS8⟩) a hF⟩))
        · rw [if_neg hc5] at h
          refine ge_known (t := 39) (b := decide ((i1 : Int) ≥ (l1.length : Int))) (c := false) (by kernel_rfl) (decide_eq_false hc5) ?_
          refine ge_batch [18, 19, 20, 21, 22] (ans := []) (vs := [(44, .bool false), (43, .bool false), (42, undef), (41, undef), (40, undef)]) (l := []) (by kernel_rfl) trivial ?_
          refine ge_nil fun a hF => hK9 _ _ ?_ a hF
          refine we_false (by kernel_rfl) ?_
          refine we_skip fun a hF => hK7 _ _ ?_ a hF
          refine we_region [(0, 0), (1, 0)] rfl ?_
          refine ge_addn (d := 45) (ty := 3) (x := (.tmp 17)) (y := (.const (.int .i64 1))) (t := 3) (t2 := 3) (k := .i64) (m := i1) (by kernel_rfl) (by kernel_rfl) (by kernel_rfl) (by have h0 := hR0.small; omega) ?_
          refine ge_batch [1] (ans := []) (vs := [(17, .int .i64 ((i1 + 1 : Nat) : Int))]) (l := []) (by kernel_rfl) trivial ?_
          have hS9 := hS5.bring 1 rfl
          have hS10 := hS9.takeN 1
          obtain rfl := Option.some.inj h
          exact ge_nil fun a hF => hQ _ _ _ (Outs.again ⟨hS10, hF.weaken ⟨by kernel_rfl, by kernel_rfl, by kernel_rfl, by kernel_rfl, by kernel_rfl, trivial⟩⟩)
      · rw [if_neg hc4] at h
        refine ge_known (t := 34) (b := !(SCome.eqb e1 e2)) (c := true) (by kernel_rfl) (congrArg (fun z => !z) (Bool.eq_false_iff.2 hc4)) ?_
        refine ge_batch [13, 14, 15, 16, 17, 18, 19, 20, 21, 22] (ans := []) (vs := [(44, .bool true), (43, undef), (42, undef), (41, undef), (40, undef), (39, undef), (38, undef), (37, undef), (36, undef), (35, undef)]) (l := []) (by kernel_rfl) trivial ?_
        refine ge_nil fun a hF => hK9 _ _ ?_ a hF
        refine we_true (by kernel_rfl) ?_
        refine we_seq fun K11 hK11 => ?_
        refine we_region [(0, 0)] rfl ?_
        refine ge_batch [0] (ans := []) (vs := [(6, .bool false)]) (l := []) (by kernel_rfl) trivial ?_
        refine ge_nil fun a hF => hK11 _ _ ?_ a hF
        have hS11 := hS5.takeN 0
        obtain rfl := Option.some.inj h
        exact we_ret fun a hF => hQ _ _ _ (Outs.out nofun (Exits.on ⟨rfl, (post_ret (rs := [.tmp 6]) (ans := []) (vs := [.bool false]) (l := []) rfl (by kernel_rfl) trivial ⟨rfl, hS11⟩) a hF⟩))
    · rw [if_neg hc3] at h
      refine ge_known (t := 26) (b := decide ((i1 : Int) < (l1.length : Int))) (c := false) (by kernel_rfl) (decide_eq_false hc3) ?_
      refine ge_batch [5, 6, 7, 8, 9, 10, 11, 12, 13, 14, 15, 16, 17] (ans := []) (vs := [(39, .bool (decide ((i1 : Int) ≥ (l1.length : Int)))), (38, .bool (decide ((i1 : Int) ≥ (l1.length : Int)))), (37, .int .i64 (l1.length : Int)), (36, .slice A1 l1.length c1), (35, .int .i64 (i1 : Int)), (34, .bool false), (33, .bool false), (32, undef), (31, undef), (30, undef), (29, undef), (28, undef), (27, undef)]) (l := []) (by kernel_rfl) trivial ?_
      by_cases hc7 : (i1 : Int) ≥ (l1.length : Int)
      · rw [if_pos hc7] at h
        refine ge_known (t := 39) (b := decide ((i1 : Int) ≥ (l1.length : Int))) (c := true) (by kernel_rfl) (decide_eq_true hc7) ?_
        refine ge_batch [18, 19] (ans := [.val (.int .i64 e1.Task), .val (.int .i64 e1.At), .val (.int .i64 x2.Task), .val (.int .i64 x2.At)]) (vs := [(41, .agg #[.int .i64 x2.Task, .int .i64 x2.At]), (40, .agg #[.int .i64 e1.Task, .int .i64 e1.At])]) (l := [.loaded ⟨b2, 0, none⟩ (.int .i64 e1.Task), .loaded ⟨b2, 1, none⟩ (.int .i64 e1.At), .loaded ⟨b1, 0, none⟩ (.int .i64 x2.Task), .loaded ⟨b1, 1, none⟩ (.int .i64 x2.At)]) (by kernel_rfl) ⟨hS5.cell 0 rfl rfl, hS5.cell 0 rfl rfl, hS5.cell 1 rfl rfl, hS5.cell 1 rfl rfl, trivial⟩ ?_
        refine ge_eqs (d := 42) (ty := 4) (op := .neq) (x := (.tmp 40)) (y := (.tmp 41)) (t := 33) (t2 := 33) (xs := #[.int .i64 e1.Task, .int .i64 e1.At]) (ys := #[.int .i64 x2.Task, .int .i64 x2.At]) (r := (SCome.eqb e1 x2)) (v := !(SCome.eqb e1 x2)) (by kernel_rfl) (by kernel_rfl) (by kernel_rfl) (by kernel_rfl) (by kernel_rfl) rfl ?_
        refine ge_batch [21, 22] (ans := []) (vs := [(44, .bool (!(SCome.eqb e1 x2))), (43, .bool (!(SCome.eqb e1 x2)))]) (l := []) (by kernel_rfl) trivial ?_
        refine ge_nil fun a hF => hK9 _ _ ?_ a hF
        by_cases hc8 : (SCome.eqb e1 x2) = true
        · rw [if_pos hc8] at h
          refine we_known (t := 44) (b := !(SCome.eqb e1 x2)) (v := false) (by kernel_rfl) (congrArg (fun z => !z) hc8) ?_
          refine we_false (by kernel_rfl) ?_
          refine we_skip fun a hF => hK7 _ _ ?_ a hF
          refine we_region [(0, 0), (1, 0)] rfl ?_
          refine ge_addn (d := 45) (ty := 3) (x := (.tmp 17)) (y := (.const (.int .i64 1))) (t := 3) (t2 := 3) (k := .i64) (m := i1) (by kernel_rfl) (by kernel_rfl) (by kernel_rfl) (by have h0 := hR0.small; omega) ?_
          refine ge_batch [1] (ans := []) (vs := [(17, .int .i64 ((i1 + 1 : Nat) : Int))]) (l := []) (by kernel_rfl) trivial ?_
          have hS12 := hS5.bring 1 rfl
          have hS13 := hS12.takeN 1
          obtain rfl := Option.some.inj h
          exact ge_nil fun a hF => hQ _ _ _ (Outs.again ⟨hS13, hF.weaken ⟨by kernel_rfl, by kernel_rfl, by kernel_rfl, by kernel_rfl, by kernel_rfl, trivial⟩⟩)
        · rw [if_neg hc8] at h
          refine we_known (t := 44) (b := !(SCome.eqb e1 x2)) (v := true) (by kernel_rfl) (congrArg (fun z => !z) (Bool.eq_false_iff.2 hc8)) ?_
          refine we_true (by kernel_rfl) ?_
          refine we_seq fun K12 hK12 => ?_
          refine we_region [(0, 0)] rfl ?_
          refine ge_batch [0] (ans := []) (vs := [(6, .bool false)]) (l := []) (by kernel_rfl) trivial ?_
          refine ge_nil fun a hF => hK12 _ _ ?_ a hF
          have hS14 := hS5.takeN 0
          obtain rfl := Option.some.inj h
          exact we_ret fun a hF => hQ _ _ _ (Outs.out nofun (Exits.on ⟨rfl, (post_ret (rs := [.tmp 6]) (ans := []) (vs := [.bool false]) (l := []) rfl (by kernel_rfl) trivial ⟨rfl, hS14⟩) a hF⟩))
      · rw [if_neg hc7] at h
        refine ge_known (t := 39) (b := decide ((i1 : Int) ≥ (l1.length : Int))) (c := false) (by kernel_rfl) (decide_eq_false hc7) ?_
        refine ge_batch [18, 19, 20, 21, 22] (ans := []) (vs := [(44, .bool false), (43, .bool false), (42, undef), (41, undef), (40, undef)]) (l := []) (by kernel_rfl) trivial ?_
        refine ge_nil fun a hF => hK9 _ _ ?_ a hF
        refine we_false (by kernel_rfl) ?_
        refine we_skip fun a hF => hK7 _ _ ?_ a hF
        refine we_region [(0, 0), (1, 0)] rfl ?_
        refine ge_addn (d := 45) (ty := 3) (x := (.tmp 17)) (y := (.const (.int .i64 1))) (t := 3) (t2 := 3) (k := .i64) (m := i1) (by kernel_rfl) (by kernel_rfl) (by kernel_rfl) (by have h0 := hR0.small; omega) ?_
        refine ge_batch [1] (ans := []) (vs := [(17, .int .i64 ((i1 + 1 : Nat) : Int))]) (l := []) (by kernel_rfl) trivial ?_
        have hS15 := hS5.bring 1 rfl
        have hS16 := hS15.takeN 1
        obtain rfl := Option.some.inj h
        exact ge_nil fun a hF => hQ _ _ _ (Outs.again ⟨hS16, hF.weaken ⟨by kernel_rfl, by kernel_rfl, by kernel_rfl, by kernel_rfl, by kernel_rfl, trivial⟩⟩)
  · rw [if_neg hc2] at h
    refine we_known (t := 18) (b := decide ((i1 : Int) < (f0.length : Int))) (v := false) (by kernel_rfl) (decide_eq_false hc2) ?_
    refine we_false (by kernel_rfl) ?_
    have hS17 := hS.takeN 0
    obtain rfl := Option.some.inj h
    exact we_exit fun a hF => hQ _ _ _ (Outs.out nofun (Exits.here ⟨hS17, hF.weaken trivial⟩))
theorem punctualsame_Still_api_Come_ok (K : Nat) (f0 : List SCome) (A0 : Option Addr) (n0 : Nat) (c0 : Nat) (l1 : List SCome) (A1 : Option Addr) (c1 : Nat) (x2 : SCome) (w0 : World) (hR0 : RdL w0 A0 f0) (hc0 : f0.length ≤ c0) (hR1 : RdL w0 A1 l1) (hL1 : l1.length ≤ c1) (r : Bool) (h : punctualsame_Still_api_Come.f K f0 l1 x2 = some r) :
    Calls Tryd.prog 20 #[.slice A0 n0 c0, .slice A1 l1.length c1, .agg #[.int .i64 x2.Task, .int .i64 x2.At]] w0 (punctualsame_Still_api_Come.Post w0 r) := by
  have hS := St.start w0
  unfold punctualsame_Still_api_Come.f at h
  refine calls_enter (n := 46) (args := [.slice A0 n0 c0, .slice A1 l1.length c1, .agg #[.int .i64 x2.Task, .int .i64 x2.At]]) (fn := Tryd.f20) rfl rfl rfl rfl ?_
  show WE _ _ _ _ [(0, .slice A0 n0 c0), (1, .slice A1 l1.length c1), (2, .agg #[.int .i64 x2.Task, .int .i64 x2.At])] _
  refine we_seq fun K1 hK1 => ?_
  refine we_region [(0, 1), (1, 0)] rfl ?_
  refine ge_new (d := some 5) (o := .cells #[.int .i64 x2.Task, .int .i64 x2.At] 33) (v := fun b => .pointer (some ⟨b, 0, none⟩)) hS (fun b => by kernel_rfl) fun b1 w1 hx1 hS1 => ?_
  refine ge_batch [1] (ans := []) (vs := [(6, .bool false)]) (l := []) (by kernel_rfl) trivial ?_
  refine ge_nil fun a hF => hK1 _ _ ?_ a hF
  refine we_seq fun K2 hK2 => ?_
  refine we_region [(0, 0), (1, 0), (2, 0), (3, 0), (4, 0), (5, 0)] rfl ?_
  refine ge_batch [0, 1, 2, 3] (ans := []) (vs := [(13, .int .i64 (IntKind.i64.wrap ((l1.length : Int) + 3))), (12, .int .i64 (l1.length : Int)), (11, .slice A1 l1.length c1), (10, .slice A0 n0 c0)]) (l := []) (by kernel_rfl) trivial ?_
  by_cases hc1 : (IntKind.i64.wrap ((l1.length : Int) + 3)) = (f0.length : Int)
  · rw [if_pos hc1] at h
    refine ge_sliceHi (d := 14) (ty := 23) (t := 23) (el := 33) (sz := 2) (m := n0) (c := c0) (hn := f0.length) (x := (.tmp 10)) (y := (.tmp 13)) (A := A0) (k' := .i64) (hi := (IntKind.i64.wrap ((l1.length : Int) + 3))) (by kernel_rfl) (by kernel_rfl) (by kernel_rfl) hc1 (by kernel_rfl) (by kernel_rfl) hc0 ?_
    refine ge_batch [5] (ans := []) (vs := [(7, .slice A0 f0.length c0)]) (l := []) (by kernel_rfl) trivial ?_
    refine ge_nil fun a hF => hK2 _ _ ?_ a hF
    refine we_seq fun K3 hK3 => ?_
    refine we_seq fun K4 hK4 => ?_
    refine we_region [(0, 0), (1, 0), (2, 0)] rfl ?_
    refine ge_batch [0, 1, 2] (ans := []) (vs := [(17, .int .i64 0), (16, .int .i64 (f0.length : Int)), (15, .slice A0 f0.length c0)]) (l := []) (by kernel_rfl) trivial ?_
    refine ge_nil fun a hF => hK4 _ _ ?_ a hF
    refine we_block ?_
    rcases hq1 : iter (punctualsame_Still_api_Come.r0 f0 l1 x2) K 0 with _ | (_ | rr1)
    · rw [hq1] at h; cases h
    · rw [hq1] at h
      simp only [] at h
      refine we_iter (A := punctualsame_Still_api_Come.A0 K w0 f0 A0 n0 c0 l1 A1 c1 x2 hR0 hc0 hR1 hL1 b1 hc1) (B := punctualsame_Still_api_Come.B0 K w0 f0 A0 n0 c0 l1 A1 c1 x2 hR0 hc0 hR1 hL1 b1 hc1) hq1 (fun a hF => ⟨hS1, hF.weaken ⟨by kernel_rfl, by kernel_rfl, by kernel_rfl, by kernel_rfl, by kernel_rfl, trivial⟩⟩) (fun s o hf a w hA Q hQ => punctualsame_Still_api_Come_r0 K w0 f0 A0 n0 c0 l1 A1 c1 x2 hR0 hc0 hR1 hL1 b1 hc1 s o hf a w hA Q hQ) ?_
      rintro _ a w4 _ ⟨rfl, hS18, hF⟩
      replace hS18 : St w0 w4 [] := hS18
      refine hK3 [] w4 ?_ a hF
      refine we_seq fun K13 hK13 => ?_
      refine we_region [(0, 0)] rfl ?_
      refine ge_batch [0] (ans := []) (vs := [(6, .bool true)]) (l := []) (by kernel_rfl) trivial ?_
      refine ge_nil fun a hF => hK13 _ _ ?_ a hF
      obtain rfl := Option.some.inj h
      exact we_ret (post_ret (rs := [.tmp 6]) (ans := []) (vs := [.bool true]) (l := []) rfl (by kernel_rfl) trivial ⟨rfl, hS18⟩)
    · rw [hq1] at h
      simp only [] at h
      refine we_iter (A := punctualsame_Still_api_Come.A0 K w0 f0 A0 n0 c0 l1 A1 c1 x2 hR0 hc0 hR1 hL1 b1 hc1) (B := punctualsame_Still_api_Come.B0 K w0 f0 A0 n0 c0 l1 A1 c1 x2 hR0 hc0 hR1 hL1 b1 hc1) hq1 (fun a hF => ⟨hS1, hF.weaken ⟨by kernel_rfl, by kernel_rfl, by kernel_rfl, by kernel_rfl, by kernel_rfl, trivial⟩⟩) (fun s o hf a w hA Q hQ => punctualsame_Still_api_Come_r0 K w0 f0 A0 n0 c0 l1 A1 c1 x2 hR0 hc0 hR1 hL1 b1 hc1 s o hf a w hA Q hQ) ?_
      rintro _ a w1 _ ⟨rfl, hb⟩
      obtain rfl := Option.some.inj h
      exact hb
  · rw [if_neg hc1] at h
    cases h

/-! punctual/punctualsame.Still[int] -/
abbrev punctualsame_Still_int.Post (w0 : World) (r : Bool) (e : Ending) (w : World) : Prop := e = .returned (.bool r) ∧ St w0 w []
def punctualsame_Still_int.r0 (f0 : List Int) (l1 : List Int) (x2 : Int) : Nat → Option (Nat ⊕ (Unit ⊕ Bool))
  | i1 =>
    if (i1 : Int) < (f0.length : Int) then
      match f0[i1]? with
      | none => none
      | some e1 =>
        if (i1 : Int) < (l1.length : Int) then
          match l1[i1]? with
          | none => none
          | some e2 =>
            if e1 = e2 then
              if (i1 : Int) ≥ (l1.length : Int) then
                if e1 = x2 then
                  some (.inl (i1 + 1))
                else
                  some (.inr (.inr false))
              else
                some (.inl (i1 + 1))
            else
              some (.inr (.inr false))
        else
          if (i1 : Int) ≥ (l1.length : Int) then
            if e1 = x2 then
              some (.inl (i1 + 1))
            else
              some (.inr (.inr false))
          else
            some (.inl (i1 + 1))
    else
      some (.inr (.inl ()))
def punctualsame_Still_int.f (K : Nat) (f0 : List Int) (l1 : List Int) (x2 : Int) : Option Bool :=
  if (IntKind.i64.wrap ((l1.length : Int) + 3)) = (f0.length : Int) then
    match iter (punctualsame_Still_int.r0 f0 l1 x2) K 0 with
    | none => none
    | some (.inl _) =>
      some true
    | some (.inr rr1) =>
      some rr1
  else
    none
abbrev punctualsame_Still_int.A0 (K : Nat) (w0 : World) (f0 : List Int) (A0 : Option Addr) (n0 : Nat) (c0 : Nat) (l1 : List Int) (A1 : Option Addr) (c1 : Nat) (x2 : Int) (hR0 : RdL w0 A0 f0) (hc0 : f0.length ≤ c0) (hR1 : RdL w0 A1 l1) (hL1 : l1.length ≤ c1) (hc1 : (IntKind.i64.wrap ((l1.length : Int) + 3)) = (f0.length : Int)) : Nat → Act → World → Prop := fun (s : Nat) a w => St w0 w [] ∧ Frm 46 a [(1, .slice A1 l1.length c1), (2, .int .i64 x2), (15, .slice A0 f0.length c0), (16, .int .i64 (f0.length : Int)), (17, .int .i64 (s : Int))]
abbrev punctualsame_Still_int.B0 (K : Nat) (w0 : World) (f0 : List Int) (A0 : Option Addr) (n0 : Nat) (c0 : Nat) (l1 : List Int) (A1 : Option Addr) (c1 : Nat) (x2 : Int) (hR0 : RdL w0 A0 f0) (hc0 : f0.length ≤ c0) (hR1 : RdL w0 A1 l1) (hL1 : l1.length ≤ c1) (hc1 : (IntKind.i64.wrap ((l1.length : Int) + 3)) = (f0.length : Int)) : (Unit ⊕ Bool) → Exit → Act → World → Prop := Exits 0 (fun (s : Unit) a w => St w0 w [] ∧ Frm 46 a []) (Rets Tryd.prog Tryd.f21 (punctualsame_Still_int.Post w0))
theorem punctualsame_Still_int_r0 (K : Nat) (w0 : World) (f0 : List Int) (A0 : Option Addr) (n0 : Nat) (c0 : Nat) (l1 : List Int) (A1 : Option Addr) (c1 : Nat) (x2 : Int) (hR0 : RdL w0 A0 f0) (hc0 : f0.length ≤ c0) (hR1 : RdL w0 A1 l1) (hL1 : l1.length ≤ c1) (hc1 : (IntKind.i64.wrap ((l1.length : Int) + 3)) = (f0.length : Int)) (s : Nat) (o : Nat ⊕ (Unit ⊕ Bool)) (h : punctualsame_Still_int.r0 f0 l1 x2 s = some o) (a : Act) (w : World) (hA : punctualsame_Still_int.A0 K w0 f0 A0 n0 c0 l1 A1 c1 x2 hR0 hc0 hR1 hL1 hc1 s a w) (Q : Exit → Act → World → Prop) (hQ : ∀ x a w, Outs (punctualsame_Still_int.A0 K w0 f0 A0 n0 c0 l1 A1 c1 x2 hR0 hc0 hR1 hL1 hc1) (punctualsame_Still_int.B0 K w0 f0 A0 n0 c0 l1 A1 c1 x2 hR0 hc0 hR1 hL1 hc1) o x a w → Q x a w) : (subF Tryd.f21 [1, 1, 0, 1, 0, 0]).wp Tryd.prog Q a w := by
  obtain ⟨i1, hs⟩ : ∃ z, z = s := ⟨s, rfl⟩
  subst hs
  obtain ⟨hS, hF⟩ := hA
  replace hS : St w0 w [] := hS
  simp only [punctualsame_Still_int.r0] at h
  refine (?_ : WE Tryd.prog 46 (subF Tryd.f21 [1, 1, 0, 1, 0, 0]) Q [(1, .slice A1 l1.length c1), (2, .int .i64 x2), (15, .slice A0 f0.length c0), (16, .int .i64 (f0.length : Int)), (17, .int .i64 (i1 : Int))] w) a hF
  clear hF a
  refine we_seq fun K5 hK5 => ?_
  refine we_region [(0, 0)] rfl ?_
  refine ge_batch [0] (ans := []) (vs := [(18, .bool (decide ((i1 : Int) < (f0.length : Int))))]) (l := []) (by kernel_rfl) trivial ?_
  refine ge_nil fun a hF => hK5 _ _ ?_ a hF
  refine we_seq fun K6 hK6 => ?_
  by_cases hc2 : (i1 : Int) < (f0.length : Int)
  · rw [if_pos hc2] at h
    refine we_known (t := 18) (b := decide ((i1 : Int) < (f0.length : Int))) (v := true) (by kernel_rfl) (decide_eq_true hc2) ?_
    refine we_true (by kernel_rfl) ?_
    refine we_skip fun a hF => hK6 _ _ ?_ a hF
    refine we_seq fun K7 hK7 => ?_
    refine we_block ?_
    refine we_seq fun K8 hK8 => ?_
    refine we_region [(0, 0), (1, 0), (2, 0), (3, 0), (4, 0)] rfl ?_
    refine ge_batch [0] (ans := []) (vs := [(19, .int .i64 (i1 : Int))]) (l := []) (by kernel_rfl) trivial ?_
    rcases hx1 : f0[i1]? with _ | e1
    · rw [hx1] at h; cases h
    rw [hx1] at h
    simp only [] at h
    refine ge_index (d := 20) (ty := 0) (t := 24) (el := 3) (sz := 1) (m := f0.length) (c := c0) (x := (.tmp 15)) (y := (.tmp 17)) (A := A0) (k' := .i64) (j := (i1 : Int)) (jn := i1) (b0 := blkOf A0) (o0 := offOf A0) (by kernel_rfl) (by kernel_rfl) (by kernel_rfl) (by kernel_rfl) (by kernel_rfl) ((hS.rd hR0).eqSome (pos_of_get hx1)) rfl (lt_of_get hx1) ?_
    refine ge_batch [2, 3, 4] (ans := [.val (.int .i64 e1)]) (vs := [(9, .int .i64 e1), (8, .int .i64 (i1 : Int)), (21, .int .i64 e1)]) (l := [.loaded ⟨blkOf A0, offOf A0 + i1 * 1, none⟩ (.int .i64 e1)]) (by kernel_rfl) ⟨RdL.cell (j := 0) (hS.rd hR0) hx1 rfl, trivial⟩ ?_
    refine ge_nil fun a hF => hK8 _ _ ?_ a hF
    refine we_seq fun K9 hK9 => ?_
    refine we_region [(0, 0), (1, 0), (2, 0), (3, 0), (4, 0), (5, 0), (6, 0), (7, 0), (8, 0), (9, 0), (10, 0), (11, 0), (12, 0), (13, 0), (14, 0), (15, 0), (16, 0), (17, 0), (18, 0), (19, 0), (20, 0), (21, 0), (22, 0)] rfl ?_
    refine ge_batch [0, 1, 2, 3, 4] (ans := []) (vs := [(26, .bool (decide ((i1 : Int) < (l1.length : Int)))), (25, .bool (decide ((i1 : Int) < (l1.length : Int)))), (24, .int .i64 (l1.length : Int)), (23, .slice A1 l1.length c1), (22, .int .i64 (i1 : Int))]) (l := []) (by kernel_rfl) trivial ?_
    by_cases hc3 : (i1 : Int) < (l1.length : Int)
    · rw [if_pos hc3] at h
      refine ge_known (t := 26) (b := decide ((i1 : Int) < (l1.length : Int))) (c := true) (by kernel_rfl) (decide_eq_true hc3) ?_
      refine ge_batch [5, 6, 7] (ans := []) (vs := [(29, .int .i64 (i1 : Int)), (28, .slice A1 l1.length c1), (27, .int .i64 e1)]) (l := []) (by kernel_rfl) trivial ?_
      rcases hx2 : l1[i1]? with _ | e2
      · rw [hx2] at h; cases h
      rw [hx2] at h
      simp only [] at h
      refine ge_index (d := 30) (ty := 0) (t := 24) (el := 3) (sz := 1) (m := l1.length) (c := c1) (x := (.tmp 28)) (y := (.tmp 29)) (A := A1) (k' := .i64) (j := (i1 : Int)) (jn := i1) (b0 := blkOf A1) (o0 := offOf A1) (by kernel_rfl) (by kernel_rfl) (by kernel_rfl) (by kernel_rfl) (by kernel_rfl) ((hS.rd hR1).eqSome (pos_of_get hx2)) rfl (lt_of_get hx2) ?_
      refine ge_batch [9, 10, 11, 12] (ans := [.val (.int .i64 e2)]) (vs := [(34, .bool (e1 != e2)), (33, .bool (e1 != e2)), (32, .bool (e1 != e2)), (31, .int .i64 e2)]) (l := [.loaded ⟨blkOf A1, offOf A1 + i1 * 1, none⟩ (.int .i64 e2)]) (by kernel_rfl) ⟨RdL.cell (j := 0) (hS.rd hR1) hx2 rfl, trivial⟩ ?_
      by_cases hc4 : e1 = e2
      · rw [if_pos hc4] at h
        refine ge_known (t := 34) (b := (e1 != e2)) (c := false) (by kernel_rfl) (bne_eq_false_iff_eq.2 hc4) ?_
        refine ge_batch [13, 14, 15, 16, 17] (ans := []) (vs := [(39, .bool (decide ((i1 : Int) ≥ (l1.length : Int)))), (38, .bool (decide ((i1 : Int) ≥ (l1.length : Int)))), (37, .int .i64 (l1.length : Int)), (36, .slice A1 l1.length c1), (35, .int .i64 (i1 : Int))]) (l := []) (by kernel_rfl) trivial ?_
        by_cases hc5 : (i1 : Int) ≥ (l1.length : Int)
        · rw [if_pos hc5] at h
          refine ge_known (t := 39) (b := decide ((i1 : Int) ≥ (l1.length : Int))) (c := true) (by kernel_rfl) (decide_eq_true hc5) ?_
          refine ge_batch [18, 19, 20, 21, 22] (ans := []) (vs := [(44, .bool (e1 != x2)), (43, .bool (e1 != x2)), (42, .bool (e1 != x2)), (41, .int .i64 x2), (40, .int .i64 e1)]) (l := []) (by kernel_rfl) trivial ?_
          refine ge_nil fun a hF => hK9 _ _ ?_ a hF
          by_cases hc6 : e1 = x2
          · rw [if_pos hc6] at h
            refine we_known (t := 44) (b := (e1 != x2)) (v := false) (by kernel_rfl) (bne_eq_false_iff_eq.2 hc6) ?_
            refine we_false (by kernel_rfl) ?_
            refine we_skip fun a hF => hK7 _ _ ?_ a hF
            refine we_region [(0, 0), (1, 0)] rfl ?_
            refine ge_addn (d := 45) (ty := 3) (x := (.tmp 17)) (y := (.const (.int .i64 1))) (t := 3) (t2 := 3) (k := .i64) (m := i1) (by kernel_rfl) (by kernel_rfl) (by kernel_rfl) (by have h0 := hR0.small; omega) ?_
            refine ge_batch [1] (ans := []) (vs := [(17, .int .i64 ((i1 + 1 : Nat) : Int))]) (l := []) (by kernel_rfl) trivial ?_
            obtain rfl := Option.some.inj h
            exact ge_nil fun a hF => hQ _ _ _ (Outs.again ⟨hS, hF.weaken ⟨by kernel_rfl, by kernel_rfl, by kernel_rfl, by kernel_rfl, by kernel_rfl, trivial⟩⟩)
          · rw [if_neg hc6] at h
            refine we_known (t := 44) (b := (e1 != x2)) (v := true) (by kernel_rfl) (bne_iff_ne.2 hc6) ?_
            refine we_true (by kernel_rfl) ?_
            refine we_seq fun K10 hK10 => ?_
            refine we_region [(0, 0)] rfl ?_
            refine ge_batch [0] (ans := []) (vs := [(6, .bool false)]) (l := []) (by kernel_rfl) trivial ?_
            refine ge_nil fun a hF => hK10 _ _ ?_ a hF
            obtain rfl := Option.some.inj h
            exact we_ret fun a hF => hQ _ _ _ (Outs.out nofun (Exits.on ⟨rfl, (post_ret (rs := [.tmp 6]) (ans := []) (vs := [.bool false]) (l := []) rfl (by kernel_rfl) trivial ⟨rfl, hS⟩) a hF⟩))
        · rw [if_neg hc5] at h
          refine ge_known (t := 39) (b := decide ((i1 : Int) ≥ (l1.length : Int))) (c := false) (by kernel_rfl) (decide_eq_false hc5) ?_
          refine ge_batch [18, 19, 20, 21, 22] (ans := []) (vs := [(44, .bool false), (43, .bool false), (42, undef), (41, undef), (40, undef)]) (l := []) (by kernel_rfl) trivial ?_
          refine ge_nil fun a hF => hK9 _ _ ?_ a hF
          refine we_false (by kernel_rfl) ?_
          refine we_skip fun a hF => hK7 _ _ ?_ a hF
          refine we_region [(0, 0), (1, 0)] rfl ?_
          refine ge_addn (d := 45) (ty := 3) (x := (.tmp 17)) (y := (.const (.int .i64 1))) (t := 3) (t2 := 3) (k := .i64) (m := i1) (by kernel_rfl) (by kernel_rfl) (by kernel_rfl) (by have h0 := hR0.small; omega) ?_
          refine ge_batch [1] (ans := []) (vs := [(17, .int .i64 ((i1 + 1 : Nat) : Int))]) (l := []) (by kernel_rfl) trivial ?_
          obtain rfl := Option.some.inj h
          exact ge_nil fun a hF => hQ _ _ _ (Outs.again ⟨hS, hF.weaken ⟨by kernel_rfl, by kernel_rfl, by kernel_rfl, by kernel_rfl, by kernel_rfl, trivial⟩⟩)
      · rw [if_neg hc4] at h
        refine ge_known (t := 34) (b := (e1 != e2)) (c := true) (by kernel_rfl) (bne_iff_ne.2 hc4) ?_
        refine ge_batch [13, 14, 15, 16, 17, 18, 19, 20, 21, 22] (ans := []) (vs := [(44, .bool true), (43, undef), (42, undef), (41, undef), (40, undef), (39, undef), (38, undef), (37, undef), (36, undef), (35, undef)]) (l := []) (by kernel_rfl) trivial ?_
        refine ge_nil fun a hF => hK9 _ _ ?_ a hF
        refine we_true (by kernel_rfl) ?_
        refine we_seq fun K11 hK11 => ?_
        refine we_region [(0, 0)] rfl ?_
        refine ge_batch [0] (ans := []) (vs := [(6, .bool false)]) (l := []) (by kernel_rfl) trivial ?_
        refine ge_nil fun a hF => hK11 _ _ ?_ a hF
        obtain rfl := Option.some.inj h
        exact we_ret fun a hF => hQ _ _ _ (Outs.out nofun (Exits.on ⟨rfl, (post_ret (rs := [.tmp 6]) (ans := []) (vs := [.bool false]) (l := []) rfl (by kernel_rfl) trivial ⟨rfl, hS⟩) a hF⟩))
    · rw [if_neg hc3] at h
      refine ge_known (t := 26) (b := decide ((i1 : Int) < (l1.length : Int))) (c := false) (by kernel_rfl) (decide_eq_false hc3) ?_
      refine ge_batch [5, 6, 7, 8, 9, 10, 11, 12, 13, 14, 15, 16, 17] (ans := []) (vs := [(39, .bool (decide ((i1 : Int) ≥ (l1.length : Int)))), (38, .bool (decide ((i1 : Int) ≥ (l1.length : Int)))), (37, .int .i64 (l1.length : Int)), (36, .slice A1 l1.length c1), (35, .int .i64 (i1 : Int)), (34, .bool false), (33, .bool false), (32, undef), (31, undef), (30, undef), (29, undef), (28, undef), (27, undef)]) (l := []) (by kernel_rfl) trivial ?_
      by_cases hc7 : (i1 : Int) ≥ (l1.length : Int)
      · rw [if_pos hc7] at h
        refine ge_known (t := 39) (b := decide ((i1 : Int) ≥ (l1.length : Int))) (c := true) (by kernel_rfl) (decide_eq_true hc7) ?_
        refine ge_batch [18, 19, 20, 21, 22] (ans := []) (vs := [(44, .bool (e1 != x2)), (43, .bool (e1 != x2)), (42, .bool (e1 != x2)), (41, .int .i64 x2), (40, .int .i64 e1)]) (l := []) (by kernel_rfl) trivial ?_
        refine ge_nil fun a hF => hK9 _ _ ?_ a hF
        by_cases hc8 : e1 = x2
        · rw [if_pos hc8] at h
          refine we_known (t := 44) (b := (e1 != x2)) (v := false) (by kernel_rfl) (bne_eq_false_iff_eq.2 hc8) ?_
          refine we_false (by kernel_rfl) ?_
          refine we_skip fun a hF => hK7 _ _ ?_ a hF
          refine we_region [(0, 0), (1, 0)] rfl ?_
          refine ge_addn (d := 45) (ty := 3) (x := (.tmp 17)) (y := (.const (.int .i64 1))) (t := 3) (t2 := 3) (k := .i64) (m := i1) (by kernel_rfl) (by kernel_rfl) (by kernel_rfl) (by have h0 := hR0.small; omega) ?_
          refine ge_batch [1] (ans := []) (vs := [(17, .int .i64 ((i1 + 1 : Nat) : Int))]) (l := []) (by kernel_rfl) trivial ?_
          obtain rfl := Option.some.inj h
          exact ge_nil fun a hF => hQ _ _ _ (Outs.again ⟨hS, hF.weaken ⟨by kernel_rfl, by kernel_rfl, by kernel_rfl, by kernel_rfl, by kernel_rfl, trivial⟩⟩)
        · rw [if_neg hc8] at h
          refine we_known (t := 44) (b := (e1 != x2)) (v := true) (by kernel_rfl) (bne_iff_ne.2 hc8) ?_
          refine we_true (by kernel_rfl) ?_
          refine we_seq fun K12 hK12 => ?_
          refine we_region [(0, 0)] rfl ?_
          refine ge_batch [0] (ans := []) (vs := [(6, .bool false)]) (l := []) (by kernel_rfl) trivial ?_
          refine ge_nil fun a hF => hK12 _ _ ?_ a hF
          obtain rfl := Option.some.inj h
          exact we_ret fun a hF => hQ _ _ _ (Outs.out nofun (Exits.on ⟨rfl, (post_ret (rs := [.tmp 6]) (ans := []) (vs := [.bool false]) (l := []) rfl (by kernel_rfl) trivial ⟨rfl, hS⟩) a hF⟩))
      · rw [if_neg hc7] at h
        refine ge_known (t := 39) (b := decide ((i1 : Int) ≥ (l1.length : Int))) (c := false) (by kernel_rfl) (decide_eq_false hc7) ?_
        refine ge_batch [18, 19, 20, 21, 22] (ans := []) (vs := [(44, .bool false), (43, .bool false), (42, undef), (41, undef), (40, undef)]) (l := []) (by kernel_rfl) trivial ?_
        refine ge_nil fun a hF => hK9 _ _ ?_ a hF
        refine we_false (by kernel_rfl) ?_
        refine we_skip fun a hF => hK7 _ _ ?_ a hF
        refine we_region [(0, 0), (1, 0)] rfl ?_
        refine ge_addn (d := 45) (ty := 3) (x := (.tmp 17)) (y := (.const (.int .i64 1))) (t := 3) (t2 := 3) (k := .i64) (m := i1) (by kernel_rfl) (by kernel_rfl) (by kernel_rfl) (by have h0 := hR0.small; omega) ?_
        refine ge_batch [1] (ans := []) (vs := [(17, .int .i64 ((i1 + 1 : Nat) : Int))]) (l := []) (by kernel_rfl) trivial ?_
        obtain rfl := Option.some.inj h
        exact ge_nil fun a hF => hQ _ _ _ (Outs.again ⟨hS, hF.weaken ⟨by kernel_rfl, by kernel_rfl, by kernel_rfl, by kernel_rfl, by kernel_rfl, trivial⟩⟩)
  · rw [if_neg hc2] at h
    refine we_known (t := 18) (b := decide ((i1 : Int) < (f0.length : Int))) (v := false) (by kernel_rfl) (decide_eq_false hc2) ?_
    refine we_false (by kernel_rfl) ?_
    obtain rfl := Option.some.inj h
    exact we_exit fun a hF => hQ _ _ _ (Outs.out nofun (Exits.here ⟨hS, hF.weaken trivial⟩))
theorem punctualsame_Still_int_ok (K : Nat) (f0 : List Int) (A0 : Option Addr) (n0 : Nat) (c0 : Nat) (l1 : List Int) (A1 : Option Addr) (c1 : Nat) (x2 : Int) (w0 : World) (hR0 : RdL w0 A0 f0) (hc0 : f0.length ≤ c0) (hR1 : RdL w0 A1 l1) (hL1 : l1.length ≤ c1) (r : Bool) (h : punctualsame_Still_int.f K f0 l1 x2 = some r) :
    Calls Tryd.prog 21 #[.slice A0 n0 c0, .slice A1 l1.length c1, .int .i64 x2] w0 (punctualsame_Still_int.Post w0 r) := by
  have hS := St.start w0
  unfold punctualsame_Still_int.f at h
  refine calls_enter (n := 46) (args := [.slice A0 n0 c0, .slice A1 l1.length c1, .int .i64 x2]) (fn := Tryd.f21) rfl rfl rfl rfl ?_
  show WE _ _ _ _ [(0, .slice A0 n0 c0), (1, .slice A1 l1.length c1), (2, .int .i64 x2)] _
  refine we_seq fun K1 hK1 => ?_
  refine we_region [(0, 0)] rfl ?_
  refine ge_batch [0] (ans := []) (vs := [(6, .bool false)]) (l := []) (by kernel_rfl) trivial ?_
  refine ge_nil fun a hF => hK1 _ _ ?_ a hF
  refine we_seq fun K2 hK2 => ?_
  refine we_region [(0, 0), (1, 0), (2, 0), (3, 0), (4, 0), (5, 0)] rfl ?_
  refine ge_batch [0, 1, 2, 3] (ans := []) (vs := [(13, .int .i64 (IntKind.i64.wrap ((l1.length : Int) + 3))), (12, .int .i64 (l1.length : Int)), (11, .slice A1 l1.length c1), (10, .slice A0 n0 c0)]) (l := []) (by kernel_rfl) trivial ?_
  by_cases hc1 : (IntKind.i64.wrap ((l1.length : Int) + 3)) = (f0.length : Int)
  · rw [if_pos hc1] at h
    refine ge_sliceHi (d := 14) (ty := 24) (t := 24) (el := 3) (sz := 1) (m := n0) (c := c0) (hn := f0.length) (x := (.tmp 10)) (y := (.tmp 13)) (A := A0) (k' := .i64) (hi := (IntKind.i64.wrap ((l1.length : Int) + 3))) (by kernel_rfl) (by kernel_rfl) (by kernel_rfl) hc1 (by kernel_rfl) (by kernel_rfl) hc0 ?_
    refine ge_batch [5] (ans := []) (vs := [(7, .slice A0 f0.length c0)]) (l := []) (by kernel_rfl) trivial ?_
    refine ge_nil fun a hF => hK2 _ _ ?_ a hF
    refine we_seq fun K3 hK3 => ?_
    refine we_seq fun K4 hK4 => ?_
    refine we_region [(0, 0), (1, 0), (2, 0)] rfl ?_
    refine ge_batch [0, 1, 2] (ans := []) (vs := [(17, .int .i64 0), (16, .int .i64 (f0.length : Int)), (15, .slice A0 f0.length c0)]) (l := []) (by kernel_rfl) trivial ?_
    refine ge_nil fun a hF => hK4 _ _ ?_ a hF
    refine we_block ?_
    rcases hq1 : iter (punctualsame_Still_int.r0 f0 l1 x2) K 0 with _ | (_ | rr1)
    · rw [hq1] at h; cases h
    · rw [hq1] at h
      simp only [] at h
      refine we_iter (A := punctualsame_Still_int.A0 K w0 f0 A0 n0 c0 l1 A1 c1 x2 hR0 hc0 hR1 hL1 hc1) (B := punctualsame_Still_int.B0 K w0 f0 A0 n0 c0 l1 A1 c1 x2 hR0 hc0 hR1 hL1 hc1) hq1 (fun a hF => ⟨hS, hF.weaken ⟨by kernel_rfl, by kernel_rfl, by kernel_rfl, by kernel_rfl, by kernel_rfl, trivial⟩⟩) (fun s o hf a w hA Q hQ => punctualsame_Still_int_r0 K w0 f0 A0 n0 c0 l1 A1 c1 x2 hR0 hc0 hR1 hL1 hc1 s o hf a w hA Q hQ) ?_
      rintro _ a w1 _ ⟨rfl, hS1, hF⟩
      replace hS1 : St w0 w1 [] := hS1
      refine hK3 [] w1 ?_ a hF
      refine we_seq fun K13 hK13 => ?_
      refine we_region [(0, 0)] rfl ?_
      refine ge_batch [0] (ans := []) (vs := [(6, .bool true)]) (l := []) (by kernel_rfl) trivial ?_
      refine ge_nil fun a hF => hK13 _ _ ?_ a hF
      obtain rfl := Option.some.inj h
      exact we_ret (post_ret (rs := [.tmp 6]) (ans := []) (vs := [.bool true]) (l := []) rfl (by kernel_rfl) trivial ⟨rfl, hS1⟩)
    · rw [hq1] at h
      simp only [] at h
      refine we_iter (A := punctualsame_Still_int.A0 K w0 f0 A0 n0 c0 l1 A1 c1 x2 hR0 hc0 hR1 hL1 hc1) (B := punctualsame_Still_int.B0 K w0 f0 A0 n0 c0 l1 A1 c1 x2 hR0 hc0 hR1 hL1 hc1) hq1 (fun a hF => ⟨hS, hF.weaken ⟨by kernel_rfl, by kernel_rfl, by kernel_rfl, by kernel_rfl, by kernel_rfl, trivial⟩⟩) (fun s o hf a w hA Q hQ => punctualsame_Still_int_r0 K w0 f0 A0 n0 c0 l1 A1 c1 x2 hR0 hc0 hR1 hL1 hc1 s o hf a w hA Q hQ) ?_
      rintro _ a w1 _ ⟨rfl, hb⟩
      obtain rfl := Option.some.inj h
      exact hb
  · rw [if_neg hc1] at h
    cases h
end Go.Proofs.YtcogbnkioobmkaaDoor.GV
