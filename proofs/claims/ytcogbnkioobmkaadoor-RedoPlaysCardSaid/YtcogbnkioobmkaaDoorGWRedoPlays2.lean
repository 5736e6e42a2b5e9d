/- Walks of single functions, written by a program of this work. -/
import Derived.Test.YtcogbnkioobmkaaDoorGWRedoPlays1
namespace Go.Proofs.YtcogbnkioobmkaaDoor.GV
open Go Go.RowKit
set_option linter.unusedVariables false
set_option linter.unusedSimpArgs false
set_option maxRecDepth 100000

/-! punctual/redo.Play -/
abbrev redo_Play.Post (w0 : World) (r : SPlayed × SFault) (e : Ending) (w : World) : Prop := ∃ (v0 : Value) (v1 : Value), e = .returned (.tuple #[.agg #[v0, v1], .agg #[.int .i64 r.2.Code, .int .i64 r.2.At]]) ∧ St w0 w [Own.of v0 3 r.1.Runs, Own.of v1 3 r.1.Ends]
def redo_Play.p0 (x1 : Int) (x3 : Int) : Option (Unit ⊕ (SPlayed × SFault)) :=
    if x1 < 0 then
      some (.inr ((⟨([] : List Int), ([] : List Int)⟩ : SPlayed), (⟨3, 0⟩ : SFault)))
    else
      if x1 > 10000 then
        some (.inr ((⟨([] : List Int), ([] : List Int)⟩ : SPlayed), (⟨3, 0⟩ : SFault)))
      else
        if x3 < 0 then
          some (.inr ((⟨([] : List Int), ([] : List Int)⟩ : SPlayed), (⟨3, 0⟩ : SFault)))
        else
          if x3 > 20000 then
            some (.inr ((⟨([] : List Int), ([] : List Int)⟩ : SPlayed), (⟨3, 0⟩ : SFault)))
          else
            some (.inl ())
def redo_Play.r1 (l2 : List Int) : Nat × (List (Int × Int)) → Option ((Nat × (List (Int × Int))) ⊕ ((List (Int × Int)) ⊕ (SPlayed × SFault)))
  | (i1, mp1) =>
    if (i1 : Int) < (l2.length : Int) then
      match l2[i1]? with
      | none => none
      | some e1 =>
        if (i1 : Int) > 0 then
          if 0 ≤ (IntKind.i64.wrap ((i1 : Int) - 1)) then
            match l2[(IntKind.i64.wrap ((i1 : Int) - 1)).toNat]? with
            | none => none
            | some e2 =>
              if e1 ≤ e2 then
                some (.inr (.inr ((⟨([] : List Int), ([] : List Int)⟩ : SPlayed), (⟨12, (i1 : Int)⟩ : SFault))))
              else
                some (.inl ((i1 + 1), (mset mp1 e1 1)))
          else
            none
        else
          some (.inl ((i1 + 1), (mset mp1 e1 1)))
    else
      some (.inr (.inl mp1))
def redo_Play.p2 (l0 : List SJob) (x3 : Int) : Option (((List Int) × (List Int)) ⊕ (SPlayed × SFault)) :=
    if 0 ≤ x3 then
      if ((x3).toNat) ≤ 17592186044416 then
        if l0.length ≤ 17592186044416 then
          some (.inl ((List.replicate ((x3).toNat) (0 : Int)), (List.replicate l0.length (0 : Int))))
        else
          none
      else
        none
    else
      none
def redo_Play.p3 (l0 : List SJob) : Option (((List Int) × (List Int)) ⊕ (SPlayed × SFault)) :=
    if l0.length ≤ 17592186044416 then
      some (.inl ((List.replicate l0.length (0 : Int)), (List.replicate l0.length (0 : Int))))
    else
      none
def redo_Play.r4 (l0 : List SJob) : Nat × (List Int) × (List Int) → Option ((Nat × (List Int) × (List Int)) ⊕ (((List Int) × (List Int)) ⊕ (SPlayed × SFault)))
  | (i2, m9, m10) =>
    if (i2 : Int) < (l0.length : Int) then
      match l0[i2]? with
      | none => none
      | some e3 =>
        match m9[i2]? with
        | none => none
        | some e4 =>
          match m10[i2]? with
          | none => none
          | some e5 =>
            some (.inl ((i2 + 1), (m9.set i2 e3.C), (m10.set i2 (-1))))
    else
      some (.inr (.inl (m9, m10)))
def redo_Play.p6 (m15 : List Int) (m16 : List Int) (r2 : Int) : Option (((List Int) × (List Int)) ⊕ (SPlayed × SFault)) :=
    if 0 ≤ r2 then
      match m16[(r2).toNat]? with
      | none => none
      | some e7 =>
        match m15[(r2).toNat]? with
        | none => none
        | some e8 =>
          some (.inl ((m15.set ((r2).toNat) 0), (m16.set ((r2).toNat) (IntKind.i64.wrap (e7 + e8)))))
    else
      none
def redo_Play.p7 (m15 : List Int) (m16 : List Int) (r2 : Int) : Option (((List Int) × (List Int)) ⊕ (SPlayed × SFault)) :=
    if 0 ≤ r2 then
      match m16[(r2).toNat]? with
      | none => none
      | some e9 =>
        match m15[(r2).toNat]? with
        | none => none
        | some e10 =>
          some (.inl ((m15.set ((r2).toNat) (IntKind.i64.wrap (e10 + 1))), (m16.set ((r2).toNat) (IntKind.i64.wrap (e9 - 1)))))
    else
      none
def redo_Play.r5 (K : Nat) (l0 : List SJob) (x1 : Int) (x3 : Int) (mp3 : List (Int × Int)) : Int × (List Int) × (List Int) × (List Int) × (List Int) → Option ((Int × (List Int) × (List Int) × (List Int) × (List Int)) ⊕ (((List Int) × (List Int)) ⊕ (SPlayed × SFault)))
  | (z1, m15, m16, m17, m18) =>
    if z1 < x3 then
      match sched_First.f K l0 l0 z1 m16 1 with
      | none => none
      | some r2 =>
        if 0 ≤ z1 then
          match m17[(z1).toNat]? with
          | none => none
          | some e6 =>
            if r2 < 0 then
              some (.inl (IntKind.i64.wrap (z1 + 1), m15, m16, (m17.set ((z1).toNat) r2), m18))
            else
              if ((mget mp3 z1).getD 0) = 1 then
                match redo_Play.p6 m15 m16 r2 with
                | none => none
                | some (.inl (m23, m24)) =>
                  some (.inl (IntKind.i64.wrap (z1 + 1), m23, m24, (m17.set ((z1).toNat) r2), m18))
                | some (.inr rr1) =>
                  some (.inr (.inr rr1))
              else
                match redo_Play.p7 m15 m16 r2 with
                | none => none
                | some (.inl (m27, m28)) =>
                  if 0 ≤ r2 then
                    match m27[(r2).toNat]? with
                    | none => none
                    | some e11 =>
                      if e11 = x1 then
                        match m28[(r2).toNat]? with
                        | none => none
                        | some e12 =>
                          if e12 = 0 then
                            match m18[(r2).toNat]? with
                            | none => none
                            | some e13 =>
                              some (.inl (IntKind.i64.wrap (z1 + 1), (m27.set ((r2).toNat) 0), m28, (m17.set ((z1).toNat) r2), (m18.set ((r2).toNat) (IntKind.i64.wrap (z1 + 1)))))
                          else
                            some (.inl (IntKind.i64.wrap (z1 + 1), (m27.set ((r2).toNat) 0), m28, (m17.set ((z1).toNat) r2), m18))
                      else
                        match m28[(r2).toNat]? with
                        | none => none
                        | some e14 =>
                          if e14 = 0 then
                            match m18[(r2).toNat]? with
                            | none => none
                            | some e15 =>
                              some (.inl (IntKind.i64.wrap (z1 + 1), m27, m28, (m17.set ((z1).toNat) r2), (m18.set ((r2).toNat) (IntKind.i64.wrap (z1 + 1)))))
                          else
                            some (.inl (IntKind.i64.wrap (z1 + 1), m27, m28, (m17.set ((z1).toNat) r2), m18))
                  else
                    none
                | some (.inr rr2) =>
                  some (.inr (.inr rr2))
        else
          none
    else
      some (.inr (.inl (m17, m18)))
def redo_Play.p8 (r1 : SFault) : Option ((Int × Int × (List Int) × (List Int)) ⊕ (SPlayed × SFault)) :=
    some (.inl (r1.Code, r1.At, ([] : List Int), ([] : List Int)))
def redo_Play.f (K : Nat) (l0 : List SJob) (x1 : Int) (l2 : List Int) (x3 : Int) : Option (SPlayed × SFault) :=
  match sched_Check.f K l0 with
  | none => none
  | some r1 =>
    if r1.Code = 0 then
      match redo_Play.p0 x1 x3 with
      | none => none
      | some (.inl _) =>
        if (l2.length : Int) > 4000 then
          some ((⟨([] : List Int), ([] : List Int)⟩ : SPlayed), (⟨2, 0⟩ : SFault))
        else
          match iter (redo_Play.r1 l2) K (0, ([] : List (Int × Int))) with
          | none => none
          | some (.inl mp3) =>
            match redo_Play.p2 l0 x3 with
            | none => none
            | some (.inl (m3, m4)) =>
              match redo_Play.p3 l0 with
              | none => none
              | some (.inl (m7, m8)) =>
                match iter (redo_Play.r4 l0) K (0, m8, m4) with
                | none => none
                | some (.inl (m13, m14)) =>
                  match iter (redo_Play.r5 K l0 x1 x3 mp3) K (0, m7, m13, m3, m14) with
                  | none => none
                  | some (.inl (m29, m30)) =>
                    some ((⟨m29, m30⟩ : SPlayed), (⟨0, 0⟩ : SFault))
                  | some (.inr rr3) =>
                    some rr3
                | some (.inr rr4) =>
                  some rr4
              | some (.inr rr5) =>
                some rr5
            | some (.inr rr6) =>
              some rr6
          | some (.inr rr7) =>
            some rr7
      | some (.inr rr8) =>
        some rr8
    else
      match redo_Play.p8 r1 with
      | none => none
      | some (.inl (z4, z5, m33, m34)) =>
        some ((⟨m33, m34⟩ : SPlayed), (⟨z4, z5⟩ : SFault))
      | some (.inr rr9) =>
        some rr9
abbrev redo_Play.A0 (K : Nat) (w0 : World) (l0 : List SJob) (A0 : Option Addr) (c0 : Nat) (x1 : Int) (l2 : List Int) (A2 : Option Addr) (c2 : Nat) (x3 : Int) (hR0 : RdL w0 A0 l0) (hL0 : l0.length ≤ c0) (hR2 : RdL w0 A2 l2) (hL2 : l2.length ≤ c2) (b1 : Nat) (b2 : Nat) (b3 : Nat) (r1 : SFault) (b4 : Nat) (hc1 : r1.Code = 0) : Unit → Act → World → Prop := fun (s : Unit) a w => St w0 w [Own.blk b3 (.cells #[.int .i64 0, .int .i64 0] 39 (0, 0)), Own.blk b2 (.cells #[.slice none 0 0, .slice none 0 0] 36 (0, 0)), Own.blk b1 (.cells #[.slice A0 l0.length c0] 49 (0, 0))] ∧ Frm 175 a [(1, .int .i64 x1), (2, .slice A2 l2.length c2), (3, .int .i64 x3), (4, .pointer (some ⟨b1, 0, none⟩)), (8, .pointer (some ⟨b2, 0, none⟩)), (9, .pointer (some ⟨b3, 0, none⟩))]
abbrev redo_Play.B0 (K : Nat) (w0 : World) (l0 : List SJob) (A0 : Option Addr) (c0 : Nat) (x1 : Int) (l2 : List Int) (A2 : Option Addr) (c2 : Nat) (x3 : Int) (hR0 : RdL w0 A0 l0) (hL0 : l0.length ≤ c0) (hR2 : RdL w0 A2 l2) (hL2 : l2.length ≤ c2) (b1 : Nat) (b2 : Nat) (b3 : Nat) (r1 : SFault) (b4 : Nat) (hc1 : r1.Code = 0) : (SPlayed × SFault) → Exit → Act → World → Prop := Rets Tryd.prog Tryd.f69 (redo_Play.Post w0)
theorem redo_Play_p0 (K : Nat) (w0 : World) (l0 : List SJob) (A0 : Option Addr) (c0 : Nat) (x1 : Int) (l2 : List Int) (A2 : Option Addr) (c2 : Nat) (x3 : Int) (hR0 : RdL w0 A0 l0) (hL0 : l0.length ≤ c0) (hR2 : RdL w0 A2 l2) (hL2 : l2.length ≤ c2) (b1 : Nat) (b2 : Nat) (b3 : Nat) (r1 : SFault) (b4 : Nat) (hc1 : r1.Code = 0) (o : Unit ⊕ (SPlayed × SFault)) (h : redo_Play.p0 x1 x3 = some o) (w : World) (hS : St w0 w [Own.blk b4 (.cells #[.int .i64 r1.Code, .int .i64 r1.At] 39 (0, 0)), Own.blk b3 (.cells #[.int .i64 0, .int .i64 0] 39 (0, 0)), Own.blk b2 (.cells #[.slice none 0 0, .slice none 0 0] 36 (0, 0)), Own.blk b1 (.cells #[.slice A0 l0.length c0] 49 (0, 0))]) (Q : Exit → Act → World → Prop) (hQ : ∀ x a w, Outs (redo_Play.A0 K w0 l0 A0 c0 x1 l2 A2 c2 x3 hR0 hL0 hR2 hL2 b1 b2 b3 r1 b4 hc1) (redo_Play.B0 K w0 l0 A0 c0 x1 l2 A2 c2 x3 hR0 hL0 hR2 hL2 b1 b2 b3 r1 b4 hc1) o x a w → Q x a w) : WE Tryd.prog 175 (subF Tryd.f69 [1, 1, 0]) Q [(0, .slice A0 l0.length c0), (1, .int .i64 x1), (2, .slice A2 l2.length c2), (3, .int .i64 x3), (4, .pointer (some ⟨b1, 0, none⟩)), (8, .pointer (some ⟨b2, 0, none⟩)), (9, .pointer (some ⟨b3, 0, none⟩)), (10, .pointer (some ⟨b4, 0, none⟩)), (21, .slice A0 l0.length c0), (22, .agg #[.int .i64 r1.Code, .int .i64 r1.At]), (23, .pointer (some ⟨b4, 0, none⟩)), (24, .int .i64 r1.Code), (25, .bool false)] w := by
  simp only [redo_Play.p0] at h
  refine we_seq fun K6 hK6 => ?_
  refine we_region [(0, 0), (1, 0), (2, 0), (3, 0), (4, 0), (5, 0), (6, 0), (7, 0), (8, 0), (9, 0), (10, 0), (11, 0), (12, 0), (13, 0)] rfl ?_
  refine ge_batch [0, 1, 2] (ans := []) (vs := [(30, .bool (decide (x1 < 0))), (29, .bool (decide (x1 < 0))), (28, .int .i64 x1)]) (l := []) (by kernel_rfl) trivial ?_
  by_cases hc2 : x1 < 0
  · rw [if_pos hc2] at h
    refine ge_known (t := 30) (b := decide (x1 < 0)) (c := true) (by kernel_rfl) (decide_eq_true hc2) ?_
    refine ge_batch [3, 4, 5, 6, 7, 8, 9, 10, 11, 12, 13] (ans := []) (vs := [(41, .bool true), (40, undef), (39, undef), (38, .bool true), (37, .bool true), (36, undef), (35, undef), (34, .bool true), (33, .bool true), (32, undef), (31, undef)]) (l := []) (by kernel_rfl) trivial ?_
    refine ge_nil fun a hF => hK6 _ _ ?_ a hF
    refine we_true (by kernel_rfl) ?_
    refine we_seq fun K7 hK7 => ?_
    refine we_region [(0, 0), (1, 0), (2, 2), (3, 2)] rfl ?_
    refine ge_batch [0, 1] (ans := []) (vs := [(43, .agg #[.int .i64 3, .int .i64 0]), (42, .agg #[.slice none 0 0, .slice none 0 0])]) (l := []) (by kernel_rfl) trivial ?_
    have hS9 := hS.bring 2 rfl
    refine ge_set (b := b2) (j := 0) (cs := #[.slice none 0 0, .slice none 0 0]) (t := 36) (vs := [.slice none 0 0, .slice none 0 0]) hS9 (by kernel_rfl) rfl rfl fun w7 hS10 => ?_
    have hS11 : St w0 w7 [Own.blk b2 (.cells #[.slice none 0 0, .slice none 0 0] 36 (0, 0)), Own.blk b4 (.cells #[.int .i64 r1.Code, .int .i64 r1.At] 39 (0, 0)), Own.blk b3 (.cells #[.int .i64 0, .int .i64 0] 39 (0, 0)), Own.blk b1 (.cells #[.slice A0 l0.length c0] 49 (0, 0))] := hS10
    have hS12 := hS11.bring 2 rfl
    refine ge_set (b := b3) (j := 0) (cs := #[.int .i64 0, .int .i64 0]) (t := 39) (vs := [.int .i64 3, .int .i64 0]) hS12 (by kernel_rfl) rfl rfl fun w8 hS13 => ?_
    have hS14 : St w0 w8 [Own.blk b3 (.cells #[.int .i64 3, .int .i64 0] 39 (0, 0)), Own.blk b2 (.cells #[.slice none 0 0, .slice none 0 0] 36 (0, 0)), Own.blk b4 (.cells #[.int .i64 r1.Code, .int .i64 r1.At] 39 (0, 0)), Own.blk b1 (.cells #[.slice A0 l0.length c0] 49 (0, 0))] := hS13
    refine ge_nil fun a hF => hK7 _ _ ?_ a hF
    have hS15 := hS14.nil (α := Int) 3
    have hS16 := hS15.nil (α := Int) 3
    have hS17 := hS16.bring 1 rfl
    have hS18 := hS17.bring 1 rfl
    have hS19 := hS18.takeN 2
    obtain rfl := Option.some.inj h
    exact we_ret fun a hF => hQ _ _ _ (Outs.out nofun ⟨rfl, (post_ret (rs := [.cell 8 36, .cell 9 39]) (ans := [.val ((.slice none 0 0)), .val ((.slice none 0 0)), .val (.int .i64 3), .val (.int .i64 0)]) (vs := [.agg #[(.slice none 0 0), (.slice none 0 0)], .agg #[.int .i64 3, .int .i64 0]]) (l := [.loaded ⟨b2, 0, none⟩ ((.slice none 0 0)), .loaded ⟨b2, 1, none⟩ ((.slice none 0 0)), .loaded ⟨b3, 0, none⟩ (.int .i64 3), .loaded ⟨b3, 1, none⟩ (.int .i64 0)]) rfl (by kernel_rfl) ⟨hS16.cell 3 rfl rfl, hS16.cell 3 rfl rfl, hS16.cell 2 rfl rfl, hS16.cell 2 rfl rfl, trivial⟩ ⟨(.slice none 0 0), (.slice none 0 0), rfl, hS19⟩) a hF⟩)
  · rw [if_neg hc2] at h
    refine ge_known (t := 30) (b := decide (x1 < 0)) (c := false) (by kernel_rfl) (decide_eq_false hc2) ?_
    refine ge_batch [3, 4, 5, 6] (ans := []) (vs := [(34, .bool (decide (x1 > 10000))), (33, .bool (decide (x1 > 10000))), (32, .bool (decide (x1 > 10000))), (31, .int .i64 x1)]) (l := []) (by kernel_rfl) trivial ?_
    by_cases hc3 : x1 > 10000
    · rw [if_pos hc3] at h
      refine ge_known (t := 34) (b := decide (x1 > 10000)) (c := true) (by kernel_rfl) (decide_eq_true hc3) ?_
      refine ge_batch [7, 8, 9, 10, 11, 12, 13] (ans := []) (vs := [(41, .bool true), (40, undef), (39, undef), (38, .bool true), (37, .bool true), (36, undef), (35, undef)]) (l := []) (by kernel_rfl) trivial ?_
      refine ge_nil fun a hF => hK6 _ _ ?_ a hF
      refine we_true (by kernel_rfl) ?_
      refine we_seq fun K8 hK8 => ?_
      refine we_region [(0, 0), (1, 0), (2, 2), (3, 2)] rfl ?_
      refine ge_batch [0, 1] (ans := []) (vs := [(43, .agg #[.int .i64 3, .int .i64 0]), (42, .agg #[.slice none 0 0, .slice none 0 0])]) (l := []) (by kernel_rfl) trivial ?_
      have hS20 := hS.bring 2 rfl
      refine ge_set (b := b2) (j := 0) (cs := #[.slice none 0 0, .slice none 0 0]) (t := 36) (vs := [.slice none 0 0, .slice none 0 0]) hS20 (by kernel_rfl) rfl rfl fun w9 hS21 => ?_
      have hS22 : St w0 w9 [Own.blk b2 (.cells #[.slice none 0 0, .slice none 0 0] 36 (0, 0)), Own.blk b4 (.cells #[.int .i64 r1.Code, .int .i64 r1.At] 39 (0, 0)), Own.blk b3 (.cells #[.int .i64 0, .int .i64 0] 39 (0, 0)), Own.blk b1 (.cells #[.slice A0 l0.length c0] 49 (0, 0))] := hS21
      have hS23 := hS22.bring 2 rfl
      refine ge_set (b := b3) (j := 0) (cs := #[.int .i64 0, .int .i64 0]) (t := 39) (vs := [.int .i64 3, .int .i64 0]) hS23 (by kernel_rfl) rfl rfl fun w10 hS24 => ?_
      have hS25 : St w0 w10 [Own.blk b3 (.cells #[.int .i64 3, .int .i64 0] 39 (0, 0)), Own.blk b2 (.cells #[.slice none 0 0, .slice none 0 0] 36 (0, 0)), Own.blk b4 (.cells #[.int .i64 r1.Code, .int .i64 r1.At] 39 (0, 0)), Own.blk b1 (.cells #[.slice A0 l0.length c0] 49 (0, 0))] := hS24
      refine ge_nil fun a hF => hK8 _ _ ?_ a hF
      have hS26 := hS25.nil (α := Int) 3
      have hS27 := hS26.nil (α := Int) 3
      have hS28 := hS27.bring 1 rfl
      have hS29 := hS28.bring 1 rfl
      have hS30 := hS29.takeN 2
      obtain rfl := Option.some.inj h
      exact we_ret fun a hF => hQ _ _ _ (Outs.out nofun ⟨rfl, (post_ret (rs := [.cell 8 36, .cell 9 39]) (ans := [.val ((.slice none 0 0)), .val ((.slice none 0 0)), .val (.int .i64 3), .val (.int .i64 0)]) (vs := [.agg #[(.slice none 0 0), (.slice none 0 0)], .agg #[.int .i64 3, .int .i64 0]]) (l := [.loaded ⟨b2, 0, none⟩ ((.slice none 0 0)), .loaded ⟨b2, 1, none⟩ ((.slice none 0 0)), .loaded ⟨b3, 0, none⟩ (.int .i64 3), .loaded ⟨b3, 1, none⟩ (.int .i64 0)]) rfl (by kernel_rfl) ⟨hS27.cell 3 rfl rfl, hS27.cell 3 rfl rfl, hS27.cell 2 rfl rfl, hS27.cell 2 rfl rfl, trivial⟩ ⟨(.slice none 0 0), (.slice none 0 0), rfl, hS30⟩) a hF⟩)
    · rw [if_neg hc3] at h
      refine ge_known (t := 34) (b := decide (x1 > 10000)) (c := false) (by kernel_rfl) (decide_eq_false hc3) ?_
      refine ge_batch [7, 8, 9, 10] (ans := []) (vs := [(38, .bool (decide (x3 < 0))), (37, .bool (decide (x3 < 0))), (36, .bool (decide (x3 < 0))), (35, .int .i64 x3)]) (l := []) (by kernel_rfl) trivial ?_
      by_cases hc4 : x3 < 0
      · rw [if_pos hc4] at h
        refine ge_known (t := 38) (b := decide (x3 < 0)) (c := true) (by kernel_rfl) (decide_eq_true hc4) ?_
        refine ge_batch [11, 12, 13] (ans := []) (vs := [(41, .bool true), (40, undef), (39, undef)]) (l := []) (by kernel_rfl) trivial ?_
        refine ge_nil fun a hF => hK6 _ _ ?_ a hF
        refine we_true (by kernel_rfl) ?_
        refine we_seq fun K9 hK9 => ?_
        refine we_region [(0, 0), (1, 0), (2, 2), (3, 2)] rfl ?_
        refine ge_batch [0, 1] (ans := []) (vs := [(43, .agg #[.int .i64 3, .int .i64 0]), (42, .agg #[.slice none 0 0, .slice none 0 0])]) (l := []) (by kernel_rfl) trivial ?_
        have hS31 := hS.bring 2 rfl
        refine ge_set (b := b2) (j := 0) (cs := #[.slice none 0 0, .slice none 0 0]) (t := 36) (vs := [.slice none 0 0, .slice none 0 0]) hS31 (by kernel_rfl) rfl rfl fun w11 hS32 => ?_
        have hS33 : St w0 w11 [Own.blk b2 (.cells #[.slice none 0 0, .slice none 0 0] 36 (0, 0)), Own.blk b4 (.cells #[.int .i64 r1.Code, .int .i64 r1.At] 39 (0, 0)), Own.blk b3 (.cells #[.int .i64 0, .int .i64 0] 39 (0, 0)), Own.blk b1 (.cells #[.slice A0 l0.length c0] 49 (0, 0))] := hS32
        have hS34 := hS33.bring 2 rfl
        refine ge_set (b := b3) (j := 0) (cs := #[.int .i64 0, .int .i64 0]) (t := 39) (vs := [.int .i64 3, .int .i64 0]) hS34 (by kernel_rfl) rfl rfl fun w12 hS35 => ?_
        have hS36 : St w0 w12 [Own.blk b3 (.cells #[.int .i64 3, .int .i64 0] 39 (0, 0)), Own.blk b2 (.cells #[.slice none 0 0, .slice none 0 0] 36 (0, 0)), Own.blk b4 (.cells #[.int .i64 r1.Code, .int .i64 r1.At] 39 (0, 0)), Own.blk b1 (.cells #[.slice A0 l0.length c0] 49 (0, 0))] := hS35
        refine ge_nil fun a hF => hK9 _ _ ?_ a hF
        have hS37 := hS36.nil (α := Int) 3
        have hS38 := hS37.nil (α := Int) 3
        have hS39 := hS38.bring 1 rfl
        have hS40 := hS39.bring 1 rfl
        have hS41 := hS40.takeN 2
        obtain rfl := Option.some.inj h
        exact we_ret fun a hF => hQ _ _ _ (Outs.out nofun ⟨rfl, (post_ret (rs := [.cell 8 36, .cell 9 39]) (ans := [.val ((.slice none 0 0)), .val ((.slice none 0 0)), .val (.int .i64 3), .val (.int .i64 0)]) (vs := [.agg #[(.slice none 0 0), (.slice none 0 0)], .agg #[.int .i64 3, .int .i64 0]]) (l := [.loaded ⟨b2, 0, none⟩ ((.slice none 0 0)), .loaded ⟨b2, 1, none⟩ ((.slice none 0 0)), .loaded ⟨b3, 0, none⟩ (.int .i64 3), .loaded ⟨b3, 1, none⟩ (.int .i64 0)]) rfl (by kernel_rfl) ⟨hS38.cell 3 rfl rfl, hS38.cell 3 rfl rfl, hS38.cell 2 rfl rfl, hS38.cell 2 rfl rfl, trivial⟩ ⟨(.slice none 0 0), (.slice none 0 0), rfl, hS41⟩) a hF⟩)
      · rw [if_neg hc4] at h
        refine ge_known (t := 38) (b := decide (x3 < 0)) (c := false) (by kernel_rfl) (decide_eq_false hc4) ?_
        refine ge_batch [11, 12, 13] (ans := []) (vs := [(41, .bool (decide (x3 > 20000))), (40, .bool (decide (x3 > 20000))), (39, .int .i64 x3)]) (l := []) (by kernel_rfl) trivial ?_
        refine ge_nil fun a hF => hK6 _ _ ?_ a hF
        by_cases hc5 : x3 > 20000
        · rw [if_pos hc5] at h
          refine we_known (t := 41) (b := decide (x3 > 20000)) (v := true) (by kernel_rfl) (decide_eq_true hc5) ?_
          refine we_true (by kernel_rfl) ?_
          refine we_seq fun K10 hK10 => ?_
          refine we_region [(0, 0), (1, 0), (2, 2), (3, 2)] rfl ?_
          refine ge_batch [0, 1] (ans := []) (vs := [(43, .agg #[.int .i64 3, .int .i64 0]), (42, .agg #[.slice none 0 0, .slice none 0 0])]) (l := []) (by kernel_rfl) trivial ?_
          have hS42 := hS.bring 2 rfl
          refine ge_set (b := b2) (j := 0) (cs := #[.slice none 0 0, .slice none 0 0]) (t := 36) (vs := [.slice none 0 0, .slice none 0 0]) hS42 (by kernel_rfl) rfl rfl fun w13 hS43 => ?_
          have hS44 : St w0 w13 [Own.blk b2 (.cells #[.slice none 0 0, .slice none 0 0] 36 (0, 0)), Own.blk b4 (.cells #[.int .i64 r1.Code, .int .i64 r1.At] 39 (0, 0)), Own.blk b3 (.cells #[.int .i64 0, .int .i64 0] 39 (0, 0)), Own.blk b1 (.cells #[.slice A0 l0.length c0] 49 (0, 0))] := hS43
          have hS45 := hS44.bring 2 rfl
          refine ge_set (b := b3) (j := 0) (cs := #[.int .i64 0, .int .i64 0]) (t := 39) (vs := [.int .i64 3, .int .i64 0]) hS45 (by kernel_rfl) rfl rfl fun w14 hS46 => ?_
          have hS47 : St w0 w14 [Own.blk b3 (.cells #[.int .i64 3, .int .i64 0] 39 (0, 0)), Own.blk b2 (.cells #[.slice none 0 0, .slice none 0 0] 36 (0, 0)), Own.blk b4 (.cells #[.int .i64 r1.Code, .int .i64 r1.At] 39 (0, 0)), Own.blk b1 (.cells #[.slice A0 l0.length c0] 49 (0, 0))] := hS46
          refine ge_nil fun a hF => hK10 _ _ ?_ a hF
          have hS48 := hS47.nil (α := Int) 3
          have hS49 := hS48.nil (α := Int) 3
          have hS50 := hS49.bring 1 rfl
          have hS51 := hS50.bring 1 rfl
          have hS52 := hS51.takeN 2
          obtain rfl := Option.some.inj h
          exact we_ret fun a hF => hQ _ _ _ (Outs.out nofun ⟨rfl, (post_ret (rs := [.cell 8 36, .cell 9 39]) (ans := [.val ((.slice none 0 0)), .val ((.slice none 0 0)), .val (.int .i64 3), .val (.int .i64 0)]) (vs := [.agg #[(.slice none 0 0), (.slice none 0 0)], .agg #[.int .i64 3, .int .i64 0]]) (l := [.loaded ⟨b2, 0, none⟩ ((.slice none 0 0)), .loaded ⟨b2, 1, none⟩ ((.slice none 0 0)), .loaded ⟨b3, 0, none⟩ (.int .i64 3), .loaded ⟨b3, 1, none⟩ (.int .i64 0)]) rfl (by kernel_rfl) ⟨hS49.cell 3 rfl rfl, hS49.cell 3 rfl rfl, hS49.cell 2 rfl rfl, hS49.cell 2 rfl rfl, trivial⟩ ⟨(.slice none 0 0), (.slice none 0 0), rfl, hS52⟩) a hF⟩)
        · rw [if_neg hc5] at h
          refine we_known (t := 41) (b := decide (x3 > 20000)) (v := false) (by kernel_rfl) (decide_eq_false hc5) ?_
          refine we_false (by kernel_rfl) ?_
          have hS53 := hS.bring 3 rfl
          have hS54 := hS53.bring 3 rfl
          have hS55 := hS54.bring 3 rfl
          have hS56 := hS55.takeN 3
          obtain rfl := Option.some.inj h
          exact we_skip fun a hF => hQ _ _ _ (Outs.again ⟨hS56, hF.weaken ⟨by kernel_rfl, by kernel_rfl, by kernel_rfl, by kernel_rfl, by kernel_rfl, by kernel_rfl, trivial⟩⟩)
abbrev redo_Play.A1 (K : Nat) (w0 : World) (l0 : List SJob) (A0 : Option Addr) (c0 : Nat) (x1 : Int) (l2 : List Int) (A2 : Option Addr) (c2 : Nat) (x3 : Int) (hR0 : RdL w0 A0 l0) (hL0 : l0.length ≤ c0) (hR2 : RdL w0 A2 l2) (hL2 : l2.length ≤ c2) (b1 : Nat) (b2 : Nat) (b3 : Nat) (r1 : SFault) (b4 : Nat) (hc1 : r1.Code = 0) (hc6 : ¬ ((l2.length : Int) > 4000)) (b5 : Nat) : (Nat × (List (Int × Int))) → Act → World → Prop := fun (s : Nat × (List (Int × Int))) a w => St w0 w [Own.blk b3 (.cells #[.int .i64 0, .int .i64 0] 39 (0, 0)), Own.blk b2 (.cells #[.slice none 0 0, .slice none 0 0] 36 (0, 0)), Own.blk b1 (.cells #[.slice A0 l0.length c0] 49 (0, 0)), Own.map (κ := Int) (ν := Int) b5 s.2] ∧ Frm 175 a [(1, .int .i64 x1), (2, .slice A2 l2.length c2), (3, .int .i64 x3), (4, .pointer (some ⟨b1, 0, none⟩)), (8, .pointer (some ⟨b2, 0, none⟩)), (9, .pointer (some ⟨b3, 0, none⟩)), (11, .map (some b5)), (50, .slice A2 l2.length c2), (51, .int .i64 (l2.length : Int)), (52, .int .i64 (s.1 : Int))]
abbrev redo_Play.B1 (K : Nat) (w0 : World) (l0 : List SJob) (A0 : Option Addr) (c0 : Nat) (x1 : Int) (l2 : List Int) (A2 : Option Addr) (c2 : Nat) (x3 : Int) (hR0 : RdL w0 A0 l0) (hL0 : l0.length ≤ c0) (hR2 : RdL w0 A2 l2) (hL2 : l2.length ≤ c2) (b1 : Nat) (b2 : Nat) (b3 : Nat) (r1 : SFault) (b4 : Nat) (hc1 : r1.Code = 0) (hc6 : ¬ ((l2.length : Int) > 4000)) (b5 : Nat) : ((List (Int × Int)) ⊕ (SPlayed × SFault)) → Exit → Act → World → Prop := Exits 0 (fun (s : (List (Int × Int))) a w => St w0 w [Own.blk b3 (.cells #[.int .i64 0, .int .i64 0] 39 (0, 0)), Own.blk b2 (.cells #[.slice none 0 0, .slice none 0 0] 36 (0, 0)), Own.blk b1 (.cells #[.slice A0 l0.length c0] 49 (0, 0)), Own.map (κ := Int) (ν := Int) b5 s] ∧ Frm 175 a [(1, .int .i64 x1), (3, .int .i64 x3), (4, .pointer (some ⟨b1, 0, none⟩)), (8, .pointer (some ⟨b2, 0, none⟩)), (9, .pointer (some ⟨b3, 0, none⟩)), (11, .map (some b5))]) (Rets Tryd.prog Tryd.f69 (redo_Play.Post w0))
theorem redo_Play_r1 (K : Nat) (w0 : World) (l0 : List SJob) (A0 : Option Addr) (c0 : Nat) (x1 : Int) (l2 : List Int) (A2 : Option Addr) (c2 : Nat) (x3 : Int) (hR0 : RdL w0 A0 l0) (hL0 : l0.length ≤ c0) (hR2 : RdL w0 A2 l2) (hL2 : l2.length ≤ c2) (b1 : Nat) (b2 : Nat) (b3 : Nat) (r1 : SFault) (b4 : Nat) (hc1 : r1.Code = 0) (hc6 : ¬ ((l2.length : Int) > 4000)) (b5 : Nat) (s : Nat × (List (Int × Int))) (o : (Nat × (List (Int × Int))) ⊕ ((List (Int × Int)) ⊕ (SPlayed × SFault))) (h : redo_Play.r1 l2 s = some o) (a : Act) (w : World) (hA : redo_Play.A1 K w0 l0 A0 c0 x1 l2 A2 c2 x3 hR0 hL0 hR2 hL2 b1 b2 b3 r1 b4 hc1 hc6 b5 s a w) (Q : Exit → Act → World → Prop) (hQ : ∀ x a w, Outs (redo_Play.A1 K w0 l0 A0 c0 x1 l2 A2 c2 x3 hR0 hL0 hR2 hL2 b1 b2 b3 r1 b4 hc1 hc6 b5) (redo_Play.B1 K w0 l0 A0 c0 x1 l2 A2 c2 x3 hR0 hL0 hR2 hL2 b1 b2 b3 r1 b4 hc1 hc6 b5) o x a w → Q x a w) : (subF Tryd.f69 [1, 1, 1, 1, 1, 0, 1, 0, 0]).wp Tryd.prog Q a w := by
  obtain ⟨i1, mp1⟩ := s
  obtain ⟨hS, hF⟩ := hA
  replace hS : St w0 w [Own.blk b3 (.cells #[.int .i64 0, .int .i64 0] 39 (0, 0)), Own.blk b2 (.cells #[.slice none 0 0, .slice none 0 0] 36 (0, 0)), Own.blk b1 (.cells #[.slice A0 l0.length c0] 49 (0, 0)), Own.map (κ := Int) (ν := Int) b5 mp1] := hS
  simp only [redo_Play.r1] at h
  refine (?_ : WE Tryd.prog 175 (subF Tryd.f69 [1, 1, 1, 1, 1, 0, 1, 0, 0]) Q [(1, .int .i64 x1), (2, .slice A2 l2.length c2), (3, .int .i64 x3), (4, .pointer (some ⟨b1, 0, none⟩)), (8, .pointer (some ⟨b2, 0, none⟩)), (9, .pointer (some ⟨b3, 0, none⟩)), (11, .map (some b5)), (50, .slice A2 l2.length c2), (51, .int .i64 (l2.length : Int)), (52, .int .i64 (i1 : Int))] w) a hF
  clear hF a
  refine we_seq fun K17 hK17 => ?_
  refine we_region [(0, 0)] rfl ?_
  refine ge_batch [0] (ans := []) (vs := [(53, .bool (decide ((i1 : Int) < (l2.length : Int))))]) (l := []) (by kernel_rfl) trivial ?_
  refine ge_nil fun a hF => hK17 _ _ ?_ a hF
  refine we_seq fun K18 hK18 => ?_
  by_cases hc7 : (i1 : Int) < (l2.length : Int)
  · rw [if_pos hc7] at h
    refine we_known (t := 53) (b := decide ((i1 : Int) < (l2.length : Int))) (v := true) (by kernel_rfl) (decide_eq_true hc7) ?_
    refine we_true (by kernel_rfl) ?_
    refine we_skip fun a hF => hK18 _ _ ?_ a hF
    refine we_seq fun K19 hK19 => ?_
    refine we_block ?_
    refine we_seq fun K20 hK20 => ?_
    refine we_region [(0, 0), (1, 0), (2, 0), (3, 0), (4, 0)] rfl ?_
    refine ge_batch [0] (ans := []) (vs := [(54, .int .i64 (i1 : Int))]) (l := []) (by kernel_rfl) trivial ?_
    rcases hx6 : l2[i1]? with _ | e1
    · rw [hx6] at h; cases h
    rw [hx6] at h
    simp only [] at h
    refine ge_index (d := 55) (ty := 0) (t := 24) (el := 3) (sz := 1) (m := l2.length) (c := c2) (x := (.tmp 50)) (y := (.tmp 52)) (A := A2) (k' := .i64) (j := (i1 : Int)) (jn := i1) (b0 := blkOf A2) (o0 := offOf A2) (by kernel_rfl) (by kernel_rfl) (by kernel_rfl) (by kernel_rfl) (by kernel_rfl) ((hS.rd hR2).eqSome (pos_of_get hx6)) rfl (lt_of_get hx6) ?_
    refine ge_batch [2, 3, 4] (ans := [.val (.int .i64 e1)]) (vs := [(13, .int .i64 e1), (12, .int .i64 (i1 : Int)), (56, .int .i64 e1)]) (l := [.loaded ⟨blkOf A2, offOf A2 + i1 * 1, none⟩ (.int .i64 e1)]) (by kernel_rfl) ⟨RdL.cell (j := 0) (hS.rd hR2) hx6 rfl, trivial⟩ ?_
    refine ge_nil fun a hF => hK20 _ _ ?_ a hF
    refine we_seq fun K21 hK21 => ?_
    refine we_seq fun K22 hK22 => ?_
    refine we_region [(0, 0), (1, 0), (2, 0), (3, 0), (4, 0), (5, 0), (6, 0), (7, 0), (8, 0), (9, 0), (10, 0)] rfl ?_
    refine ge_batch [0, 1, 2] (ans := []) (vs := [(59, .bool (decide ((i1 : Int) > 0))), (58, .bool (decide ((i1 : Int) > 0))), (57, .int .i64 (i1 : Int))]) (l := []) (by kernel_rfl) trivial ?_
    by_cases hc8 : (i1 : Int) > 0
    · rw [if_pos hc8] at h
      refine ge_known (t := 59) (b := decide ((i1 : Int) > 0)) (c := true) (by kernel_rfl) (decide_eq_true hc8) ?_
      refine ge_batch [3, 4, 5, 6] (ans := []) (vs := [(63, .int .i64 (IntKind.i64.wrap ((i1 : Int) - 1))), (62, .int .i64 (i1 : Int)), (61, .slice A2 l2.length c2), (60, .int .i64 e1)]) (l := []) (by kernel_rfl) trivial ?_
      by_cases hc9 : 0 ≤ (IntKind.i64.wrap ((i1 : Int) - 1))
      · rw [if_pos hc9] at h
        rcases hx7 : l2[(IntKind.i64.wrap ((i1 : Int) - 1)).toNat]? with _ | e2
        · rw [hx7] at h; cases h
        rw [hx7] at h
        simp only [] at h
        refine ge_index (d := 64) (ty := 0) (t := 24) (el := 3) (sz := 1) (m := l2.length) (c := c2) (x := (.tmp 61)) (y := (.tmp 63)) (A := A2) (k' := .i64) (j := (IntKind.i64.wrap ((i1 : Int) - 1))) (jn := ((IntKind.i64.wrap ((i1 : Int) - 1)).toNat)) (b0 := blkOf A2) (o0 := offOf A2) (by kernel_rfl) (by kernel_rfl) (by kernel_rfl) (by kernel_rfl) (by kernel_rfl) ((hS.rd hR2).eqSome (pos_of_get hx7)) (Int.toNat_of_nonneg hc9).symm (lt_of_get hx7) ?_
        refine ge_batch [8, 9, 10] (ans := [.val (.int .i64 e2)]) (vs := [(67, .bool (decide (e1 ≤ e2))), (66, .bool (decide (e1 ≤ e2))), (65, .int .i64 e2)]) (l := [.loaded ⟨blkOf A2, offOf A2 + ((IntKind.i64.wrap ((i1 : Int) - 1)).toNat) * 1, none⟩ (.int .i64 e2)]) (by kernel_rfl) ⟨RdL.cell (j := 0) (hS.rd hR2) hx7 rfl, trivial⟩ ?_
        refine ge_nil fun a hF => hK22 _ _ ?_ a hF
        by_cases hc10 : e1 ≤ e2
        · rw [if_pos hc10] at h
          refine we_known (t := 67) (b := decide (e1 ≤ e2)) (v := true) (by kernel_rfl) (decide_eq_true hc10) ?_
          refine we_true (by kernel_rfl) ?_
          refine we_seq fun K23 hK23 => ?_
          refine we_region [(0, 0), (1, 0), (2, 0), (3, 2), (4, 2)] rfl ?_
          refine ge_batch [0, 1, 2] (ans := []) (vs := [(70, .agg #[.int .i64 12, .int .i64 (i1 : Int)]), (69, .int .i64 (i1 : Int)), (68, .agg #[.slice none 0 0, .slice none 0 0])]) (l := []) (by kernel_rfl) trivial ?_
          have hS74 := hS.bring 1 rfl
          refine ge_set (b := b2) (j := 0) (cs := #[.slice none 0 0, .slice none 0 0]) (t := 36) (vs := [.slice none 0 0, .slice none 0 0]) hS74 (by kernel_rfl) rfl rfl fun w19 hS75 => ?_
          have hS76 : St w0 w19 [Own.blk b2 (.cells #[.slice none 0 0, .slice none 0 0] 36 (0, 0)), Own.blk b3 (.cells #[.int .i64 0, .int .i64 0] 39 (0, 0)), Own.blk b1 (.cells #[.slice A0 l0.length c0] 49 (0, 0)), Own.map (κ := Int) (ν := Int) b5 mp1] := hS75
          have hS77 := hS76.bring 1 rfl
          refine ge_set (b := b3) (j := 0) (cs := #[.int .i64 0, .int .i64 0]) (t := 39) (vs := [.int .i64 12, .int .i64 (i1 : Int)]) hS77 (by kernel_rfl) rfl rfl fun w20 hS78 => ?_
          have hS79 : St w0 w20 [Own.blk b3 (.cells #[.int .i64 12, .int .i64 (i1 : Int)] 39 (0, 0)), Own.blk b2 (.cells #[.slice none 0 0, .slice none 0 0] 36 (0, 0)), Own.blk b1 (.cells #[.slice A0 l0.length c0] 49 (0, 0)), Own.map (κ := Int) (ν := Int) b5 mp1] := hS78
          refine ge_nil fun a hF => hK23 _ _ ?_ a hF
          have hS80 := hS79.nil (α := Int) 3
          have hS81 := hS80.nil (α := Int) 3
          have hS82 := hS81.bring 1 rfl
          have hS83 := hS82.bring 1 rfl
          have hS84 := hS83.takeN 2
          obtain rfl := Option.some.inj h
          exact we_ret fun a hF => hQ _ _ _ (Outs.out nofun (Exits.on ⟨rfl, (post_ret (rs := [.cell 8 36, .cell 9 39]) (ans := [.val ((.slice none 0 0)), .val ((.slice none 0 0)), .val (.int .i64 12), .val (.int .i64 (i1 : Int))]) (vs := [.agg #[(.slice none 0 0), (.slice none 0 0)], .agg #[.int .i64 12, .int .i64 (i1 : Int)]]) (l := [.loaded ⟨b2, 0, none⟩ ((.slice none 0 0)), .loaded ⟨b2, 1, none⟩ ((.slice none 0 0)), .loaded ⟨b3, 0, none⟩ (.int .i64 12), .loaded ⟨b3, 1, none⟩ (.int .i64 (i1 : Int))]) rfl (by kernel_rfl) ⟨hS81.cell 3 rfl rfl, hS81.cell 3 rfl rfl, hS81.cell 2 rfl rfl, hS81.cell 2 rfl rfl, trivial⟩ ⟨(.slice none 0 0), (.slice none 0 0), rfl, hS84⟩) a hF⟩))
        · rw [if_neg hc10] at h
          refine we_known (t := 67) (b := decide (e1 ≤ e2)) (v := false) (by kernel_rfl) (decide_eq_false hc10) ?_
          refine we_false (by kernel_rfl) ?_
          refine we_skip fun a hF => hK21 _ _ ?_ a hF
          refine we_region [(0, 0), (1, 0), (2, 2)] rfl ?_
          refine ge_batch [0, 1] (ans := []) (vs := [(72, .int .i64 e1), (71, .map (some b5))]) (l := []) (by kernel_rfl) trivial ?_
          have hS85 := hS.bring 3 rfl
          refine ge_mapSet (κ := Int) (ν := Int) (b := b5) (ins := false) (mm := 0) (t := 161) (kt := 3) (et := 3) (x := (.tmp 71)) (y := (.tmp 72)) (u := (.const (.int .i64 1))) (ty := 0) (m := mp1) (k := e1) (v := 1) (vv := .int .i64 1) (by kernel_rfl) (by kernel_rfl) (by kernel_rfl) (by kernel_rfl) rfl (by kernel_rfl) (by kernel_rfl) hS85 fun w21 hS86 => ?_
          refine ge_nil fun a hF => hK19 _ _ ?_ a hF
          refine we_region [(0, 0), (1, 0)] rfl ?_
          refine ge_addn (d := 73) (ty := 3) (x := (.tmp 52)) (y := (.const (.int .i64 1))) (t := 3) (t2 := 3) (k := .i64) (m := i1) (by kernel_rfl) (by kernel_rfl) (by kernel_rfl) (by have h0 := hR2.small; omega) ?_
          refine ge_batch [1] (ans := []) (vs := [(52, .int .i64 ((i1 + 1 : Nat) : Int))]) (l := []) (by kernel_rfl) trivial ?_
          have hS87 := hS86.bring 3 rfl
          have hS88 := hS87.bring 3 rfl
          have hS89 := hS88.bring 3 rfl
          obtain rfl := Option.some.inj h
          exact ge_nil fun a hF => hQ _ _ _ (Outs.again ⟨hS89, hF.weaken ⟨by kernel_rfl, by kernel_rfl, by kernel_rfl, by kernel_rfl, by kernel_rfl, by kernel_rfl, by kernel_rfl, by kernel_rfl, by kernel_rfl, by kernel_rfl, trivial⟩⟩)
      · rw [if_neg hc9] at h
        cases h
    · rw [if_neg hc8] at h
      refine ge_known (t := 59) (b := decide ((i1 : Int) > 0)) (c := false) (by kernel_rfl) (decide_eq_false hc8) ?_
      refine ge_batch [3, 4, 5, 6, 7, 8, 9, 10] (ans := []) (vs := [(67, .bool false), (66, undef), (65, undef), (64, undef), (63, undef), (62, undef), (61, undef), (60, undef)]) (l := []) (by kernel_rfl) trivial ?_
      refine ge_nil fun a hF => hK22 _ _ ?_ a hF
      refine we_false (by kernel_rfl) ?_
      refine we_skip fun a hF => hK21 _ _ ?_ a hF
      refine we_region [(0, 0), (1, 0), (2, 2)] rfl ?_
      refine ge_batch [0, 1] (ans := []) (vs := [(72, .int .i64 e1), (71, .map (some b5))]) (l := []) (by kernel_rfl) trivial ?_
      have hS90 := hS.bring 3 rfl
      refine ge_mapSet (κ := Int) (ν := Int) (b := b5) (ins := false) (mm := 0) (t := 161) (kt := 3) (et := 3) (x := (.tmp 71)) (y := (.tmp 72)) (u := (.const (.int .i64 1))) (ty := 0) (m := mp1) (k := e1) (v := 1) (vv := .int .i64 1) (by kernel_rfl) (by kernel_rfl) (by kernel_rfl) (by kernel_rfl) rfl (by kernel_rfl) (by kernel_rfl) hS90 fun w22 hS91 => ?_
      refine ge_nil fun a hF => hK19 _ _ ?_ a hF
      refine we_region [(0, 0), (1, 0)] rfl ?_
      refine ge_addn (d := 73) (ty := 3) (x := (.tmp 52)) (y := (.const (.int .i64 1))) (t := 3) (t2 := 3) (k := .i64) (m := i1) (by kernel_rfl) (by kernel_rfl) (by kernel_rfl) (by have h0 := hR2.small; omega) ?_
      refine ge_batch [1] (ans := []) (vs := [(52, .int .i64 ((i1 + 1 : Nat) : Int))]) (l := []) (by kernel_rfl) trivial ?_
      have hS92 := hS91.bring 3 rfl
      have hS93 := hS92.bring 3 rfl
      have hS94 := hS93.bring 3 rfl
      obtain rfl := Option.some.inj h
      exact ge_nil fun a hF => hQ _ _ _ (Outs.again ⟨hS94, hF.weaken ⟨by kernel_rfl, by kernel_rfl, by kernel_rfl, by kernel_rfl, by kernel_rfl, by kernel_rfl, by kernel_rfl, by kernel_rfl, by kernel_rfl, by kernel_rfl, trivial⟩⟩)
  · rw [if_neg hc7] at h
    refine we_known (t := 53) (b := decide ((i1 : Int) < (l2.length : Int))) (v := false) (by kernel_rfl) (decide_eq_false hc7) ?_
    refine we_false (by kernel_rfl) ?_
    have hS95 := hS.bring 3 rfl
    have hS96 := hS95.bring 3 rfl
    have hS97 := hS96.bring 3 rfl
    have hS98 := hS97.bring 3 rfl
    obtain rfl := Option.some.inj h
    exact we_exit fun a hF => hQ _ _ _ (Outs.out nofun (Exits.here ⟨hS98, hF.weaken ⟨by kernel_rfl, by kernel_rfl, by kernel_rfl, by kernel_rfl, by kernel_rfl, by kernel_rfl, trivial⟩⟩))
abbrev redo_Play.A2 (K : Nat) (w0 : World) (l0 : List SJob) (A0 : Option Addr) (c0 : Nat) (x1 : Int) (l2 : List Int) (A2 : Option Addr) (c2 : Nat) (x3 : Int) (hR0 : RdL w0 A0 l0) (hL0 : l0.length ≤ c0) (hR2 : RdL w0 A2 l2) (hL2 : l2.length ≤ c2) (b1 : Nat) (b2 : Nat) (b3 : Nat) (r1 : SFault) (b4 : Nat) (hc1 : r1.Code = 0) (hc6 : ¬ ((l2.length : Int) > 4000)) (b5 : Nat) (mp3 : List (Int × Int)) : ((List Int) × (List Int)) → Act → World → Prop := fun (s : (List Int) × (List Int)) a w => ∃ (b6 : Nat) (v1 : Value) (v2 : Value), St w0 w [Own.blk b6 (.cells #[v1, v2] 36 (0, 0)), Own.blk b3 (.cells #[.int .i64 0, .int .i64 0] 39 (0, 0)), Own.blk b2 (.cells #[.slice none 0 0, .slice none 0 0] 36 (0, 0)), Own.blk b1 (.cells #[.slice A0 l0.length c0] 49 (0, 0)), Own.of v1 3 s.1, Own.of v2 3 s.2, Own.map (κ := Int) (ν := Int) b5 mp3] ∧ Frm 175 a [(1, .int .i64 x1), (3, .int .i64 x3), (4, .pointer (some ⟨b1, 0, none⟩)), (8, .pointer (some ⟨b2, 0, none⟩)), (9, .pointer (some ⟨b3, 0, none⟩)), (11, .map (some b5)), (14, .pointer (some ⟨b6, 0, none⟩))]
abbrev redo_Play.B2 (K : Nat) (w0 : World) (l0 : List SJob) (A0 : Option Addr) (c0 : Nat) (x1 : Int) (l2 : List Int) (A2 : Option Addr) (c2 : Nat) (x3 : Int) (hR0 : RdL w0 A0 l0) (hL0 : l0.length ≤ c0) (hR2 : RdL w0 A2 l2) (hL2 : l2.length ≤ c2) (b1 : Nat) (b2 : Nat) (b3 : Nat) (r1 : SFault) (b4 : Nat) (hc1 : r1.Code = 0) (hc6 : ¬ ((l2.length : Int) > 4000)) (b5 : Nat) (mp3 : List (Int × Int)) : (SPlayed × SFault) → Exit → Act → World → Prop := Rets Tryd.prog Tryd.f69 (redo_Play.Post w0)
theorem redo_Play_p2 (K : Nat) (w0 : World) (l0 : List SJob) (A0 : Option Addr) (c0 : Nat) (x1 : Int) (l2 : List Int) (A2 : Option Addr) (c2 : Nat) (x3 : Int) (hR0 : RdL w0 A0 l0) (hL0 : l0.length ≤ c0) (hR2 : RdL w0 A2 l2) (hL2 : l2.length ≤ c2) (b1 : Nat) (b2 : Nat) (b3 : Nat) (r1 : SFault) (b4 : Nat) (hc1 : r1.Code = 0) (hc6 : ¬ ((l2.length : Int) > 4000)) (b5 : Nat) (mp3 : List (Int × Int)) (o : ((List Int) × (List Int)) ⊕ (SPlayed × SFault)) (h : redo_Play.p2 l0 x3 = some o) (w : World) (hS : St w0 w [Own.blk b3 (.cells #[.int .i64 0, .int .i64 0] 39 (0, 0)), Own.blk b2 (.cells #[.slice none 0 0, .slice none 0 0] 36 (0, 0)), Own.blk b1 (.cells #[.slice A0 l0.length c0] 49 (0, 0)), Own.map (κ := Int) (ν := Int) b5 mp3]) (Q : Exit → Act → World → Prop) (hQ : ∀ x a w, Outs (redo_Play.A2 K w0 l0 A0 c0 x1 l2 A2 c2 x3 hR0 hL0 hR2 hL2 b1 b2 b3 r1 b4 hc1 hc6 b5 mp3) (redo_Play.B2 K w0 l0 A0 c0 x1 l2 A2 c2 x3 hR0 hL0 hR2 hL2 b1 b2 b3 r1 b4 hc1 hc6 b5 mp3) o x a w → Q x a w) : WE Tryd.prog 175 (subF Tryd.f69 [1, 1, 1, 1, 1, 1, 0]) Q [(1, .int .i64 x1), (3, .int .i64 x3), (4, .pointer (some ⟨b1, 0, none⟩)), (8, .pointer (some ⟨b2, 0, none⟩)), (9, .pointer (some ⟨b3, 0, none⟩)), (11, .map (some b5))] w := by
  simp only [redo_Play.p2] at h
  refine we_orders2 (by kernel_rfl) [(2, [⟨b1, 0, none⟩])] (.vals [0] (.vals [2] (.vals [3] (.alt 1 1 (.alt 4 1 (.vals [5] (.alt 6 1 (.alt 7 2 .fin .nomore) .nomore)) (.alt 6 1 (.alt 4 1 (.vals [5] (.alt 7 2 .fin .nomore)) .nomore) .nomore)) (.alt 4 1 (.alt 1 1 (.vals [5] (.alt 6 1 (.alt 7 2 .fin .nomore) .nomore)) (.alt 6 1 (.alt 1 1 (.vals [5] (.alt 7 2 .fin .nomore)) .nomore) .nomore)) (.alt 6 1 (.alt 1 1 (.alt 4 1 (.vals [5] (.alt 7 2 .fin .nomore)) .nomore) (.alt 4 1 (.alt 1 1 (.vals [5] (.alt 7 2 .fin .nomore)) .nomore) .nomore)) .nomore)))))) (by kernel_rfl) ?_
  have hS100 := hS.drew
  refine go2_batch [0] (ans := []) (vs := [(74, .int .i64 x3)]) (l := []) (by kernel_rfl) trivial mem_nil ?_
  refine go2_batch [2] (ans := [.val (.slice A0 l0.length c0)]) (vs := [(76, .slice A0 l0.length c0)]) (l := [.loaded ⟨b1, 0, none⟩ (.slice A0 l0.length c0)]) (by kernel_rfl) ⟨hS100.cell 2 rfl rfl, trivial⟩ (mem_one (by kernel_rfl)) ?_
  refine go2_batch [3] (ans := []) (vs := [(77, .int .i64 (l0.length : Int))]) (l := []) (by kernel_rfl) trivial mem_nil ?_
  by_cases hc11 : 0 ≤ x3
  · rw [if_pos hc11] at h
    by_cases hc12 : ((x3).toNat) ≤ 17592186044416
    · rw [if_pos hc12] at h
      by_cases hc13 : l0.length ≤ 17592186044416
      · rw [if_pos hc13] at h
        refine go_alt2 (fun KK hKK => ?_) ?_
        · refine ge_one2 ?_
          refine ge_make (α := Int) (d := 75) (t := 24) (el := 3) (bytes := 8) (l := ((x3).toNat)) (c := ((x3).toNat)) (x := (.tmp 74)) (y := (.tmp 74)) (ty := 24) (k1 := .i64) (k2 := .i64) (li := x3) (ci := x3) (z := .int .i64 0) (z' := (0 : Int)) (by kernel_rfl) (by kernel_rfl) (by kernel_rfl) (Int.toNat_of_nonneg hc11).symm (Int.toNat_of_nonneg hc11).symm (by kernel_rfl) (by kernel_rfl) rfl hS100 (Nat.le_refl _) rfl (by omega) fun v3 w24 _ hS101 => ?_
          refine ge_nil fun a hF => hKK _ _ (RS.of2 (l := [.loaded ⟨b1, 0, none⟩ (.slice A0 l0.length c0)]) (by kernel_rfl) ⟨hS100.cell 2 rfl rfl, trivial⟩ ⟨hS101.cell 3 rfl rfl, trivial⟩) ?_ a hF
          refine go_alt2 (fun KK hKK => ?_) ?_
          · refine ge_one2 ?_
            refine ge_make (α := Int) (d := 78) (t := 24) (el := 3) (bytes := 8) (l := l0.length) (c := l0.length) (x := (.tmp 77)) (y := (.tmp 77)) (ty := 24) (k1 := .i64) (k2 := .i64) (li := (l0.length : Int)) (ci := (l0.length : Int)) (z := .int .i64 0) (z' := (0 : Int)) (by kernel_rfl) (by kernel_rfl) (by kernel_rfl) rfl rfl (by kernel_rfl) (by kernel_rfl) rfl hS101 (Nat.le_refl _) rfl (by omega) fun v4 w25 _ hS102 => ?_
            refine ge_nil fun a hF => hKK _ _ (RS.of2 (l := [.loaded ⟨b1, 0, none⟩ (.slice A0 l0.length c0)]) (by kernel_rfl) ⟨hS101.cell 3 rfl rfl, trivial⟩ ⟨hS102.cell 4 rfl rfl, trivial⟩) ?_ a hF
            obtain ⟨Z1, cz1, rfl⟩ := hS102.open 1 rfl
            obtain ⟨Z2, cz2, rfl⟩ := hS102.open 0 rfl
            refine go2_batch [5] (ans := []) (vs := [(79, .agg #[(.slice Z1 (List.replicate ((x3).toNat) (0 : Int)).length cz1), (.slice Z2 (List.replicate l0.length (0 : Int)).length cz2)])]) (l := []) (by kernel_rfl) trivial mem_nil ?_
            refine go_alt2 (fun KK hKK => ?_) ?_
            · refine ge_one2 ?_
              refine ge_new (d := some 14) (o := .cells #[.slice none 0 0, .slice none 0 0] 36) (v := fun b => .pointer (some ⟨b, 0, none⟩)) hS102 (fun b => by kernel_rfl) fun b7 w26 hx8 hS103 => ?_
              refine ge_nil fun a hF => hKK _ _ (RS.of2 (l := [.loaded ⟨b1, 0, none⟩ (.slice A0 l0.length c0)]) (by kernel_rfl) ⟨hS102.cell 4 rfl rfl, trivial⟩ ⟨hS103.cell 5 rfl rfl, trivial⟩) ?_ a hF
              refine go_alt2 (fun KK hKK => ?_) ?_
              · refine ge_set (b := b7) (j := 0) (cs := #[.slice none 0 0, .slice none 0 0]) (t := 36) (vs := [(.slice Z1 (List.replicate ((x3).toNat) (0 : Int)).length cz1), (.slice Z2 (List.replicate l0.length (0 : Int)).length cz2)]) hS103 (by kernel_rfl) rfl rfl fun w27 hS104 => ?_
                have hS105 : St w0 w27 [Own.blk b7 (.cells #[(.slice Z1 (List.replicate ((x3).toNat) (0 : Int)).length cz1), (.slice Z2 (List.replicate l0.length (0 : Int)).length cz2)] 36 (0, 0)), Own.of (.slice Z2 (List.replicate l0.length (0 : Int)).length cz2) 3 (List.replicate l0.length (0 : Int)), Own.of (.slice Z1 (List.replicate ((x3).toNat) (0 : Int)).length cz1) 3 (List.replicate ((x3).toNat) (0 : Int)), Own.blk b3 (.cells #[.int .i64 0, .int .i64 0] 39 (0, 0)), Own.blk b2 (.cells #[.slice none 0 0, .slice none 0 0] 36 (0, 0)), Own.blk b1 (.cells #[.slice A0 l0.length c0] 49 (0, 0)), Own.map (κ := Int) (ν := Int) b5 mp3] := hS104
                refine ge_nil fun a hF => hKK _ _ (RS.of2 (l := []) (by kernel_rfl) trivial trivial) ?_ a hF
                have hS106 := hS105.bring 6 rfl
                have hS107 := hS106.bring 2 rfl
                have hS108 := hS107.bring 3 rfl
                have hS109 := hS108.bring 6 rfl
                have hS110 := hS109.bring 6 rfl
                have hS111 := hS110.bring 6 rfl
                have hS112 := hS111.bring 6 rfl
                obtain rfl := Option.some.inj h
                exact go_fin2 fun a hF => hQ _ _ _ (Outs.again ⟨b7, (.slice Z1 (List.replicate ((x3).toNat) (0 : Int)).length cz1), (.slice Z2 (List.replicate l0.length (0 : Int)).length cz2), hS112, hF.weaken ⟨by kernel_rfl, by kernel_rfl, by kernel_rfl, by kernel_rfl, by kernel_rfl, by kernel_rfl, by kernel_rfl, trivial⟩⟩)
              exact go_nomore2
            exact go_nomore2
          refine go_alt2 (fun KK hKK => ?_) ?_
          · refine ge_one2 ?_
            refine ge_new (d := some 14) (o := .cells #[.slice none 0 0, .slice none 0 0] 36) (v := fun b => .pointer (some ⟨b, 0, none⟩)) hS101 (fun b => by kernel_rfl) fun b7 w25 hx8 hS102 => ?_
            refine ge_nil fun a hF => hKK _ _ (RS.of2 (l := [.loaded ⟨b1, 0, none⟩ (.slice A0 l0.length c0)]) (by kernel_rfl) ⟨hS101.cell 3 rfl rfl, trivial⟩ ⟨hS102.cell 4 rfl rfl, trivial⟩) ?_ a hF
            refine go_alt2 (fun KK hKK => ?_) ?_
            · refine ge_one2 ?_
              refine ge_make (α := Int) (d := 78) (t := 24) (el := 3) (bytes := 8) (l := l0.length) (c := l0.length) (x := (.tmp 77)) (y := (.tmp 77)) (ty := 24) (k1 := .i64) (k2 := .i64) (li := (l0.length : Int)) (ci := (l0.length : Int)) (z := .int .i64 0) (z' := (0 : Int)) (by kernel_rfl) (by kernel_rfl) (by kernel_rfl) rfl rfl (by kernel_rfl) (by kernel_rfl) rfl hS102 (Nat.le_refl _) rfl (by omega) fun v4 w26 _ hS103 => ?_
              refine ge_nil fun a hF => hKK _ _ (RS.of2 (l := [.loaded ⟨b1, 0, none⟩ (.slice A0 l0.length c0)]) (by kernel_rfl) ⟨hS102.cell 4 rfl rfl, trivial⟩ ⟨hS103.cell 5 rfl rfl, trivial⟩) ?_ a hF
              obtain ⟨Z1, cz1, rfl⟩ := hS103.open 2 rfl
              obtain ⟨Z2, cz2, rfl⟩ := hS103.open 0 rfl
              refine go2_batch [5] (ans := []) (vs := [(79, .agg #[(.slice Z1 (List.replicate ((x3).toNat) (0 : Int)).length cz1), (.slice Z2 (List.replicate l0.length (0 : Int)).length cz2)])]) (l := []) (by kernel_rfl) trivial mem_nil ?_
              refine go_alt2 (fun KK hKK => ?_) ?_
              · have hS104 := hS103.bring 1 rfl
                refine ge_set (b := b7) (j := 0) (cs := #[.slice none 0 0, .slice none 0 0]) (t := 36) (vs := [(.slice Z1 (List.replicate ((x3).toNat) (0 : Int)).length cz1), (.slice Z2 (List.replicate l0.length (0 : Int)).length cz2)]) hS104 (by kernel_rfl) rfl rfl fun w27 hS105 => ?_
                have hS106 : St w0 w27 [Own.blk b7 (.cells #[(.slice Z1 (List.replicate ((x3).toNat) (0 : Int)).length cz1), (.slice Z2 (List.replicate l0.length (0 : Int)).length cz2)] 36 (0, 0)), Own.of (.slice Z2 (List.replicate l0.length (0 : Int)).length cz2) 3 (List.replicate l0.length (0 : Int)), Own.of (.slice Z1 (List.replicate ((x3).toNat) (0 : Int)).length cz1) 3 (List.replicate ((x3).toNat) (0 : Int)), Own.blk b3 (.cells #[.int .i64 0, .int .i64 0] 39 (0, 0)), Own.blk b2 (.cells #[.slice none 0 0, .slice none 0 0] 36 (0, 0)), Own.blk b1 (.cells #[.slice A0 l0.length c0] 49 (0, 0)), Own.map (κ := Int) (ν := Int) b5 mp3] := hS105
                refine ge_nil fun a hF => hKK _ _ (RS.of2 (l := []) (by kernel_rfl) trivial trivial) ?_ a hF
                have hS107 := hS106.bring 6 rfl
                have hS108 := hS107.bring 2 rfl
                have hS109 := hS108.bring 3 rfl
                have hS110 := hS109.bring 6 rfl
                have hS111 := hS110.bring 6 rfl
                have hS112 := hS111.bring 6 rfl
                have hS113 := hS112.bring 6 rfl
                obtain rfl := Option.some.inj h
                exact go_fin2 fun a hF => hQ _ _ _ (Outs.again ⟨b7, (.slice Z1 (List.replicate ((x3).toNat) (0 : Int)).length cz1), (.slice Z2 (List.replicate l0.length (0 : Int)).length cz2), hS113, hF.weaken ⟨by kernel_rfl, by kernel_rfl, by kernel_rfl, by kernel_rfl, by kernel_rfl, by kernel_rfl, by kernel_rfl, trivial⟩⟩)
              exact go_nomore2
            exact go_nomore2
          exact go_nomore2
        refine go_alt2 (fun KK hKK => ?_) ?_
        · refine ge_one2 ?_
          refine ge_make (α := Int) (d := 78) (t := 24) (el := 3) (bytes := 8) (l := l0.length) (c := l0.length) (x := (.tmp 77)) (y := (.tmp 77)) (ty := 24) (k1 := .i64) (k2 := .i64) (li := (l0.length : Int)) (ci := (l0.length : Int)) (z := .int .i64 0) (z' := (0 : Int)) (by kernel_rfl) (by kernel_rfl) (by kernel_rfl) rfl rfl (by kernel_rfl) (by kernel_rfl) rfl hS100 (Nat.le_refl _) rfl (by omega) fun v3 w24 _ hS101 => ?_
          refine ge_nil fun a hF => hKK _ _ (RS.of2 (l := [.loaded ⟨b1, 0, none⟩ (.slice A0 l0.length c0)]) (by kernel_rfl) ⟨hS100.cell 2 rfl rfl, trivial⟩ ⟨hS101.cell 3 rfl rfl, trivial⟩) ?_ a hF
          refine go_alt2 (fun KK hKK => ?_) ?_
          · refine ge_one2 ?_
            refine ge_make (α := Int) (d := 75) (t := 24) (el := 3) (bytes := 8) (l := ((x3).toNat)) (c := ((x3).toNat)) (x := (.tmp 74)) (y := (.tmp 74)) (ty := 24) (k1 := .i64) (k2 := .i64) (li := x3) (ci := x3) (z := .int .i64 0) (z' := (0 : Int)) (by kernel_rfl) (by kernel_rfl) (by kernel_rfl) (Int.toNat_of_nonneg hc11).symm (Int.toNat_of_nonneg hc11).symm (by kernel_rfl) (by kernel_rfl) rfl hS101 (Nat.le_refl _) rfl (by omega) fun v4 w25 _ hS102 => ?_
            refine ge_nil fun a hF => hKK _ _ (RS.of2 (l := [.loaded ⟨b1, 0, none⟩ (.slice A0 l0.length c0)]) (by kernel_rfl) ⟨hS101.cell 3 rfl rfl, trivial⟩ ⟨hS102.cell 4 rfl rfl, trivial⟩) ?_ a hF
            obtain ⟨Z1, cz1, rfl⟩ := hS102.open 0 rfl
            obtain ⟨Z2, cz2, rfl⟩ := hS102.open 1 rfl
            refine go2_batch [5] (ans := []) (vs := [(79, .agg #[(.slice Z1 (List.replicate ((x3).toNat) (0 : Int)).length cz1), (.slice Z2 (List.replicate l0.length (0 : Int)).length cz2)])]) (l := []) (by kernel_rfl) trivial mem_nil ?_
            refine go_alt2 (fun KK hKK => ?_) ?_
            · refine ge_one2 ?_
              refine ge_new (d := some 14) (o := .cells #[.slice none 0 0, .slice none 0 0] 36) (v := fun b => .pointer (some ⟨b, 0, none⟩)) hS102 (fun b => by kernel_rfl) fun b7 w26 hx8 hS103 => ?_
              refine ge_nil fun a hF => hKK _ _ (RS.of2 (l := [.loaded ⟨b1, 0, none⟩ (.slice A0 l0.length c0)]) (by kernel_rfl) ⟨hS102.cell 4 rfl rfl, trivial⟩ ⟨hS103.cell 5 rfl rfl, trivial⟩) ?_ a hF
              refine go_alt2 (fun KK hKK => ?_) ?_
              · refine ge_set (b := b7) (j := 0) (cs := #[.slice none 0 0, .slice none 0 0]) (t := 36) (vs := [(.slice Z1 (List.replicate ((x3).toNat) (0 : Int)).length cz1), (.slice Z2 (List.replicate l0.length (0 : Int)).length cz2)]) hS103 (by kernel_rfl) rfl rfl fun w27 hS104 => ?_
                have hS105 : St w0 w27 [Own.blk b7 (.cells #[(.slice Z1 (List.replicate ((x3).toNat) (0 : Int)).length cz1), (.slice Z2 (List.replicate l0.length (0 : Int)).length cz2)] 36 (0, 0)), Own.of (.slice Z1 (List.replicate ((x3).toNat) (0 : Int)).length cz1) 3 (List.replicate ((x3).toNat) (0 : Int)), Own.of (.slice Z2 (List.replicate l0.length (0 : Int)).length cz2) 3 (List.replicate l0.length (0 : Int)), Own.blk b3 (.cells #[.int .i64 0, .int .i64 0] 39 (0, 0)), Own.blk b2 (.cells #[.slice none 0 0, .slice none 0 0] 36 (0, 0)), Own.blk b1 (.cells #[.slice A0 l0.length c0] 49 (0, 0)), Own.map (κ := Int) (ν := Int) b5 mp3] := hS104
                refine ge_nil fun a hF => hKK _ _ (RS.of2 (l := []) (by kernel_rfl) trivial trivial) ?_ a hF
                have hS106 := hS105.bring 6 rfl
                have hS107 := hS106.bring 3 rfl
                have hS108 := hS107.bring 3 rfl
                have hS109 := hS108.bring 6 rfl
                have hS110 := hS109.bring 6 rfl
                have hS111 := hS110.bring 6 rfl
                have hS112 := hS111.bring 6 rfl
                obtain rfl := Option.some.inj h
                exact go_fin2 fun a hF => hQ _ _ _ (Outs.again ⟨b7, (.slice Z1 (List.replicate ((x3).toNat) (0 : Int)).length cz1), (.slice Z2 (List.replicate l0.length (0 : Int)).length cz2), hS112, hF.weaken ⟨by kernel_rfl, by kernel_rfl, by kernel_rfl, by kernel_rfl, by kernel_rfl, by kernel_rfl, by kernel_rfl, trivial⟩⟩)
              exact go_nomore2
            exact go_nomore2
          refine go_alt2 (fun KK hKK => ?_) ?_
          · refine ge_one2 ?_
            refine ge_new (d := some 14) (o := .cells #[.slice none 0 0, .slice none 0 0] 36) (v := fun b => .pointer (some ⟨b, 0, none⟩)) hS101 (fun b => by kernel_rfl) fun b7 w25 hx8 hS102 => ?_
            refine ge_nil fun a hF => hKK _ _ (RS.of2 (l := [.loaded ⟨b1, 0, none⟩ (.slice A0 l0.length c0)]) (by kernel_rfl) ⟨hS101.cell 3 rfl rfl, trivial⟩ ⟨hS102.cell 4 rfl rfl, trivial⟩) ?_ a hF
            refine go_alt2 (fun KK hKK => ?_) ?_
            · refine ge_one2 ?_
              refine ge_make (α := Int) (d := 75) (t := 24) (el := 3) (bytes := 8) (l := ((x3).toNat)) (c := ((x3).toNat)) (x := (.tmp 74)) (y := (.tmp 74)) (ty := 24) (k1 := .i64) (k2 := .i64) (li := x3) (ci := x3) (z := .int .i64 0) (z' := (0 : Int)) (by kernel_rfl) (by kernel_rfl) (by kernel_rfl) (Int.toNat_of_nonneg hc11).symm (Int.toNat_of_nonneg hc11).symm (by kernel_rfl) (by kernel_rfl) rfl hS102 (Nat.le_refl _) rfl (by omega) fun v4 w26 _ hS103 => ?_
              refine ge_nil fun a hF => hKK _ _ (RS.of2 (l := [.loaded ⟨b1, 0, none⟩ (.slice A0 l0.length c0)]) (by kernel_rfl) ⟨hS102.cell 4 rfl rfl, trivial⟩ ⟨hS103.cell 5 rfl rfl, trivial⟩) ?_ a hF
              obtain ⟨Z1, cz1, rfl⟩ := hS103.open 0 rfl
              obtain ⟨Z2, cz2, rfl⟩ := hS103.open 2 rfl
              refine go2_batch [5] (ans := []) (vs := [(79, .agg #[(.slice Z1 (List.replicate ((x3).toNat) (0 : Int)).length cz1), (.slice Z2 (List.replicate l0.length (0 : Int)).length cz2)])]) (l := []) (by kernel_rfl) trivial mem_nil ?_
              refine go_alt2 (fun KK hKK => ?_) ?_
              · have hS104 := hS103.bring 1 rfl
                refine ge_set (b := b7) (j := 0) (cs := #[.slice none 0 0, .slice none 0 0]) (t := 36) (vs := [(.slice Z1 (List.replicate ((x3).toNat) (0 : Int)).length cz1), (.slice Z2 (List.replicate l0.length (0 : Int)).length cz2)]) hS104 (by kernel_rfl) rfl rfl fun w27 hS105 => ?_
                have hS106 : St w0 w27 [Own.blk b7 (.cells #[(.slice Z1 (List.replicate ((x3).toNat) (0 : Int)).length cz1), (.slice Z2 (List.replicate l0.length (0 : Int)).length cz2)] 36 (0, 0)), Own.of (.slice Z1 (List.replicate ((x3).toNat) (0 : Int)).length cz1) 3 (List.replicate ((x3).toNat) (0 : Int)), Own.of (.slice Z2 (List.replicate l0.length (0 : Int)).length cz2) 3 (List.replicate l0.length (0 : Int)), Own.blk b3 (.cells #[.int .i64 0, .int .i64 0] 39 (0, 0)), Own.blk b2 (.cells #[.slice none 0 0, .slice none 0 0] 36 (0, 0)), Own.blk b1 (.cells #[.slice A0 l0.length c0] 49 (0, 0)), Own.map (κ := Int) (ν := Int) b5 mp3] := hS105
                refine ge_nil fun a hF => hKK _ _ (RS.of2 (l := []) (by kernel_rfl) trivial trivial) ?_ a hF
                have hS107 := hS106.bring 6 rfl
                have hS108 := hS107.bring 3 rfl
                have hS109 := hS108.bring 3 rfl
                have hS110 := hS109.bring 6 rfl
                have hS111 := hS110.bring 6 rfl
                have hS112 := hS111.bring 6 rfl
                have hS113 := hS112.bring 6 rfl
                obtain rfl := Option.some.inj h
                exact go_fin2 fun a hF => hQ _ _ _ (Outs.again ⟨b7, (.slice Z1 (List.replicate ((x3).toNat) (0 : Int)).length cz1), (.slice Z2 (List.replicate l0.length (0 : Int)).length cz2), hS113, hF.weaken ⟨by kernel_rfl, by kernel_rfl, by kernel_rfl, by kernel_rfl, by kernel_rfl, by kernel_rfl, by kernel_rfl, trivial⟩⟩)
              exact go_nomore2
            exact go_nomore2
          exact go_nomore2
        refine go_alt2 (fun KK hKK => ?_) ?_
        · refine ge_one2 ?_
          refine ge_new (d := some 14) (o := .cells #[.slice none 0 0, .slice none 0 0] 36) (v := fun b => .pointer (some ⟨b, 0, none⟩)) hS100 (fun b => by kernel_rfl) fun b7 w24 hx8 hS101 => ?_
          refine ge_nil fun a hF => hKK _ _ (RS.of2 (l := [.loaded ⟨b1, 0, none⟩ (.slice A0 l0.length c0)]) (by kernel_rfl) ⟨hS100.cell 2 rfl rfl, trivial⟩ ⟨hS101.cell 3 rfl rfl, trivial⟩) ?_ a hF
          refine go_alt2 (fun KK hKK => ?_) ?_
          · refine ge_one2 ?_
            refine ge_make (α := Int) (d := 75) (t := 24) (el := 3) (bytes := 8) (l := ((x3).toNat)) (c := ((x3).toNat)) (x := (.tmp 74)) (y := (.tmp 74)) (ty := 24) (k1 := .i64) (k2 := .i64) (li := x3) (ci := x3) (z := .int .i64 0) (z' := (0 : Int)) (by kernel_rfl) (by kernel_rfl) (by kernel_rfl) (Int.toNat_of_nonneg hc11).symm (Int.toNat_of_nonneg hc11).symm (by kernel_rfl) (by kernel_rfl) rfl hS101 (Nat.le_refl _) rfl (by omega) fun v3 w25 _ hS102 => ?_
            refine ge_nil fun a hF => hKK _ _ (RS.of2 (l := [.loaded ⟨b1, 0, none⟩ (.slice A0 l0.length c0)]) (by kernel_rfl) ⟨hS101.cell 3 rfl rfl, trivial⟩ ⟨hS102.cell 4 rfl rfl, trivial⟩) ?_ a hF
            refine go_alt2 (fun KK hKK => ?_) ?_
            · refine ge_one2 ?_
              refine ge_make (α := Int) (d := 78) (t := 24) (el := 3) (bytes := 8) (l := l0.length) (c := l0.length) (x := (.tmp 77)) (y := (.tmp 77)) (ty := 24) (k1 := .i64) (k2 := .i64) (li := (l0.length : Int)) (ci := (l0.length : Int)) (z := .int .i64 0) (z' := (0 : Int)) (by kernel_rfl) (by kernel_rfl) (by kernel_rfl) rfl rfl (by kernel_rfl) (by kernel_rfl) rfl hS102 (Nat.le_refl _) rfl (by omega) fun v4 w26 _ hS103 => ?_
              refine ge_nil fun a hF => hKK _ _ (RS.of2 (l := [.loaded ⟨b1, 0, none⟩ (.slice A0 l0.length c0)]) (by kernel_rfl) ⟨hS102.cell 4 rfl rfl, trivial⟩ ⟨hS103.cell 5 rfl rfl, trivial⟩) ?_ a hF
              obtain ⟨Z1, cz1, rfl⟩ := hS103.open 1 rfl
              obtain ⟨Z2, cz2, rfl⟩ := hS103.open 0 rfl
              refine go2_batch [5] (ans := []) (vs := [(79, .agg #[(.slice Z1 (List.replicate ((x3).toNat) (0 : Int)).length cz1), (.slice Z2 (List.replicate l0.length (0 : Int)).length cz2)])]) (l := []) (by kernel_rfl) trivial mem_nil ?_
              refine go_alt2 (fun KK hKK => ?_) ?_
              · have hS104 := hS103.bring 2 rfl
                refine ge_set (b := b7) (j := 0) (cs := #[.slice none 0 0, .slice none 0 0]) (t := 36) (vs := [(.slice Z1 (List.replicate ((x3).toNat) (0 : Int)).length cz1), (.slice Z2 (List.replicate l0.length (0 : Int)).length cz2)]) hS104 (by kernel_rfl) rfl rfl fun w27 hS105 => ?_
                have hS106 : St w0 w27 [Own.blk b7 (.cells #[(.slice Z1 (List.replicate ((x3).toNat) (0 : Int)).length cz1), (.slice Z2 (List.replicate l0.length (0 : Int)).length cz2)] 36 (0, 0)), Own.of (.slice Z2 (List.replicate l0.length (0 : Int)).length cz2) 3 (List.replicate l0.length (0 : Int)), Own.of (.slice Z1 (List.replicate ((x3).toNat) (0 : Int)).length cz1) 3 (List.replicate ((x3).toNat) (0 : Int)), Own.blk b3 (.cells #[.int .i64 0, .int .i64 0] 39 (0, 0)), Own.blk b2 (.cells #[.slice none 0 0, .slice none 0 0] 36 (0, 0)), Own.blk b1 (.cells #[.slice A0 l0.length c0] 49 (0, 0)), Own.map (κ := Int) (ν := Int) b5 mp3] := hS105
                refine ge_nil fun a hF => hKK _ _ (RS.of2 (l := []) (by kernel_rfl) trivial trivial) ?_ a hF
                have hS107 := hS106.bring 6 rfl
                have hS108 := hS107.bring 2 rfl
                have hS109 := hS108.bring 3 rfl
                have hS110 := hS109.bring 6 rfl
                have hS111 := hS110.bring 6 rfl
                have hS112 := hS111.bring 6 rfl
                have hS113 := hS112.bring 6 rfl
                obtain rfl := Option.some.inj h
                exact go_fin2 fun a hF => hQ _ _ _ (Outs.again ⟨b7, (.slice Z1 (List.replicate ((x3).toNat) (0 : Int)).length cz1), (.slice Z2 (List.replicate l0.length (0 : Int)).length cz2), hS113, hF.weaken ⟨by kernel_rfl, by kernel_rfl, by kernel_rfl, by kernel_rfl, by kernel_rfl, by kernel_rfl, by kernel_rfl, trivial⟩⟩)
              exact go_nomore2
            exact go_nomore2
          refine go_alt2 (fun KK hKK => ?_) ?_
          · refine ge_one2 ?_
            refine ge_make (α := Int) (d := 78) (t := 24) (el := 3) (bytes := 8) (l := l0.length) (c := l0.length) (x := (.tmp 77)) (y := (.tmp 77)) (ty := 24) (k1 := .i64) (k2 := .i64) (li := (l0.length : Int)) (ci := (l0.length : Int)) (z := .int .i64 0) (z' := (0 : Int)) (by kernel_rfl) (by kernel_rfl) (by kernel_rfl) rfl rfl (by kernel_rfl) (by kernel_rfl) rfl hS101 (Nat.le_refl _) rfl (by omega) fun v3 w25 _ hS102 => ?_
            refine ge_nil fun a hF => hKK _ _ (RS.of2 (l := [.loaded ⟨b1, 0, none⟩ (.slice A0 l0.length c0)]) (by kernel_rfl) ⟨hS101.cell 3 rfl rfl, trivial⟩ ⟨hS102.cell 4 rfl rfl, trivial⟩) ?_ a hF
            refine go_alt2 (fun KK hKK => ?_) ?_
            · refine ge_one2 ?_
              refine ge_make (α := Int) (d := 75) (t := 24) (el := 3) (bytes := 8) (l := ((x3).toNat)) (c := ((x3).toNat)) (x := (.tmp 74)) (y := (.tmp 74)) (ty := 24) (k1 := .i64) (k2 := .i64) (li := x3) (ci := x3) (z := .int .i64 0) (z' := (0 : Int)) (by kernel_rfl) (by kernel_rfl) (by kernel_rfl) (Int.toNat_of_nonneg hc11).symm (Int.toNat_of_nonneg hc11).symm (by kernel_rfl) (by kernel_rfl) rfl hS102 (Nat.le_refl _) rfl (by omega) fun v4 w26 _ hS103 => ?_
              refine ge_nil fun a hF => hKK _ _ (RS.of2 (l := [.loaded ⟨b1, 0, none⟩ (.slice A0 l0.length c0)]) (by kernel_rfl) ⟨hS102.cell 4 rfl rfl, trivial⟩ ⟨hS103.cell 5 rfl rfl, trivial⟩) ?_ a hF
              obtain ⟨Z1, cz1, rfl⟩ := hS103.open 0 rfl
              obtain ⟨Z2, cz2, rfl⟩ := hS103.open 1 rfl
              refine go2_batch [5] (ans := []) (vs := [(79, .agg #[(.slice Z1 (List.replicate ((x3).toNat) (0 : Int)).length cz1), (.slice Z2 (List.replicate l0.length (0 : Int)).length cz2)])]) (l := []) (by kernel_rfl) trivial mem_nil ?_
              refine go_alt2 (fun KK hKK => ?_) ?_
              · have hS104 := hS103.bring 2 rfl
                refine ge_set (b := b7) (j := 0) (cs := #[.slice none 0 0, .slice none 0 0]) (t := 36) (vs := [(.slice Z1 (List.replicate ((x3).toNat) (0 : Int)).length cz1), (.slice Z2 (List.replicate l0.length (0 : Int)).length cz2)]) hS104 (by kernel_rfl) rfl rfl fun w27 hS105 => ?_
                have hS106 : St w0 w27 [Own.blk b7 (.cells #[(.slice Z1 (List.replicate ((x3).toNat) (0 : Int)).length cz1), (.slice Z2 (List.replicate l0.length (0 : Int)).length cz2)] 36 (0, 0)), Own.of (.slice Z1 (List.replicate ((x3).toNat) (0 : Int)).length cz1) 3 (List.replicate ((x3).toNat) (0 : Int)), Own.of (.slice Z2 (List.replicate l0.length (0 : Int)).length cz2) 3 (List.replicate l0.length (0 : Int)), Own.blk b3 (.cells #[.int .i64 0, .int .i64 0] 39 (0, 0)), Own.blk b2 (.cells #[.slice none 0 0, .slice none 0 0] 36 (0, 0)), Own.blk b1 (.cells #[.slice A0 l0.length c0] 49 (0, 0)), Own.map (κ := Int) (ν := Int) b5 mp3] := hS105
                refine ge_nil fun a hF => hKK _ _ (RS.of2 (l := []) (by kernel_rfl) trivial trivial) ?_ a hF
                have hS107 := hS106.bring 6 rfl
                have hS108 := hS107.bring 3 rfl
                have hS109 := hS108.bring 3 rfl
                have hS110 := hS109.bring 6 rfl
                have hS111 := hS110.bring 6 rfl
                have hS112 := hS111.bring 6 rfl
                have hS113 := hS112.bring 6 rfl
                obtain rfl := Option.some.inj h
                exact go_fin2 fun a hF => hQ _ _ _ (Outs.again ⟨b7, (.slice Z1 (List.replicate ((x3).toNat) (0 : Int)).length cz1), (.slice Z2 (List.replicate l0.length (0 : Int)).length cz2), hS113, hF.weaken ⟨by kernel_rfl, by kernel_rfl, by kernel_rfl, by kernel_rfl, by kernel_rfl, by kernel_rfl, by kernel_rfl, trivial⟩⟩)
              exact go_nomore2
            exact go_nomore2
          exact go_nomore2
        exact go_nomore2
      · rw [if_neg hc13] at h
        cases h
    · rw [if_neg hc12] at h
      cases h
  · rw [if_neg hc11] at h
    cases h
abbrev redo_Play.A3 (K : Nat) (w0 : World) (l0 : List SJob) (A0 : Option Addr) (c0 : Nat) (x1 : Int) (l2 : List Int) (A2 : Option Addr) (c2 : Nat) (x3 : Int) (hR0 : RdL w0 A0 l0) (hL0 : l0.length ≤ c0) (hR2 : RdL w0 A2 l2) (hL2 : l2.length ≤ c2) (b1 : Nat) (b2 : Nat) (b3 : Nat) (r1 : SFault) (b4 : Nat) (hc1 : r1.Code = 0) (hc6 : ¬ ((l2.length : Int) > 4000)) (b5 : Nat) (mp3 : List (Int × Int)) (b8 : Nat) (m3 : List Int) (m4 : List Int) (Z3 : Option Addr) (cz3 : Nat) (Z4 : Option Addr) (cz4 : Nat) : ((List Int) × (List Int)) → Act → World → Prop := fun (s : (List Int) × (List Int)) a w => ∃ (b9 : Nat) (v7 : Value) (v8 : Value), St w0 w [Own.blk b9 (.cells #[v8] 24 (0, 0)), Own.blk b8 (.cells #[(.slice Z3 m3.length cz3), (.slice Z4 m4.length cz4)] 36 (0, 0)), Own.blk b3 (.cells #[.int .i64 0, .int .i64 0] 39 (0, 0)), Own.blk b2 (.cells #[.slice none 0 0, .slice none 0 0] 36 (0, 0)), Own.blk b1 (.cells #[.slice A0 l0.length c0] 49 (0, 0)), Own.of v7 3 s.1, Own.of v8 3 s.2, Own.of (.slice Z3 m3.length cz3) 3 m3, Own.of (.slice Z4 m4.length cz4) 3 m4, Own.map (κ := Int) (ν := Int) b5 mp3] ∧ Frm 175 a [(1, .int .i64 x1), (3, .int .i64 x3), (4, .pointer (some ⟨b1, 0, none⟩)), (8, .pointer (some ⟨b2, 0, none⟩)), (9, .pointer (some ⟨b3, 0, none⟩)), (11, .map (some b5)), (14, .pointer (some ⟨b8, 0, none⟩)), (15, .pointer (some ⟨b9, 0, none⟩)), (16, v7)]
abbrev redo_Play.B3 (K : Nat) (w0 : World) (l0 : List SJob) (A0 : Option Addr) (c0 : Nat) (x1 : Int) (l2 : List Int) (A2 : Option Addr) (c2 : Nat) (x3 : Int) (hR0 : RdL w0 A0 l0) (hL0 : l0.length ≤ c0) (hR2 : RdL w0 A2 l2) (hL2 : l2.length ≤ c2) (b1 : Nat) (b2 : Nat) (b3 : Nat) (r1 : SFault) (b4 : Nat) (hc1 : r1.Code = 0) (hc6 : ¬ ((l2.length : Int) > 4000)) (b5 : Nat) (mp3 : List (Int × Int)) (b8 : Nat) (m3 : List Int) (m4 : List Int) (Z3 : Option Addr) (cz3 : Nat) (Z4 : Option Addr) (cz4 : Nat) : (SPlayed × SFault) → Exit → Act → World → Prop := Rets Tryd.prog Tryd.f69 (redo_Play.Post w0)
theorem redo_Play_p3 (K : Nat) (w0 : World) (l0 : List SJob) (A0 : Option Addr) (c0 : Nat) (x1 : Int) (l2 : List Int) (A2 : Option Addr) (c2 : Nat) (x3 : Int) (hR0 : RdL w0 A0 l0) (hL0 : l0.length ≤ c0) (hR2 : RdL w0 A2 l2) (hL2 : l2.length ≤ c2) (b1 : Nat) (b2 : Nat) (b3 : Nat) (r1 : SFault) (b4 : Nat) (hc1 : r1.Code = 0) (hc6 : ¬ ((l2.length : Int) > 4000)) (b5 : Nat) (mp3 : List (Int × Int)) (b8 : Nat) (m3 : List Int) (m4 : List Int) (Z3 : Option Addr) (cz3 : Nat) (Z4 : Option Addr) (cz4 : Nat) (o : ((List Int) × (List Int)) ⊕ (SPlayed × SFault)) (h : redo_Play.p3 l0 = some o) (w : World) (hS : St w0 w [Own.blk b8 (.cells #[(.slice Z3 m3.length cz3), (.slice Z4 m4.length cz4)] 36 (0, 0)), Own.blk b3 (.cells #[.int .i64 0, .int .i64 0] 39 (0, 0)), Own.blk b2 (.cells #[.slice none 0 0, .slice none 0 0] 36 (0, 0)), Own.blk b1 (.cells #[.slice A0 l0.length c0] 49 (0, 0)), Own.of (.slice Z3 m3.length cz3) 3 m3, Own.of (.slice Z4 m4.length cz4) 3 m4, Own.map (κ := Int) (ν := Int) b5 mp3]) (Q : Exit → Act → World → Prop) (hQ : ∀ x a w, Outs (redo_Play.A3 K w0 l0 A0 c0 x1 l2 A2 c2 x3 hR0 hL0 hR2 hL2 b1 b2 b3 r1 b4 hc1 hc6 b5 mp3 b8 m3 m4 Z3 cz3 Z4 cz4) (redo_Play.B3 K w0 l0 A0 c0 x1 l2 A2 c2 x3 hR0 hL0 hR2 hL2 b1 b2 b3 r1 b4 hc1 hc6 b5 mp3 b8 m3 m4 Z3 cz3 Z4 cz4) o x a w → Q x a w) : WE Tryd.prog 175 (subF Tryd.f69 [1, 1, 1, 1, 1, 1, 1, 0]) Q [(1, .int .i64 x1), (3, .int .i64 x3), (4, .pointer (some ⟨b1, 0, none⟩)), (8, .pointer (some ⟨b2, 0, none⟩)), (9, .pointer (some ⟨b3, 0, none⟩)), (11, .map (some b5)), (14, .pointer (some ⟨b8, 0, none⟩))] w := by
  simp only [redo_Play.p3] at h
  refine we_orders2 (by kernel_rfl) [(0, [⟨b1, 0, none⟩]), (3, [⟨b1, 0, none⟩])] (.vals [0] (.vals [1] (.vals [3] (.vals [4] (.alt 2 1 (.alt 5 1 (.alt 6 1 (.alt 7 2 (.vals [8] .fin) .nomore) .nomore) (.alt 6 1 (.alt 5 1 (.alt 7 2 (.vals [8] .fin) .nomore) (.alt 7 2 (.alt 5 1 (.vals [8] .fin) .nomore) .nomore)) .nomore)) (.alt 5 1 (.alt 2 1 (.alt 6 1 (.alt 7 2 (.vals [8] .fin) .nomore) .nomore) (.alt 6 1 (.alt 2 1 (.alt 7 2 (.vals [8] .fin) .nomore) .nomore) .nomore)) (.alt 6 1 (.alt 2 1 (.alt 5 1 (.alt 7 2 (.vals [8] .fin) .nomore) (.alt 7 2 (.alt 5 1 (.vals [8] .fin) .nomore) .nomore)) (.alt 5 1 (.alt 2 1 (.alt 7 2 (.vals [8] .fin) .nomore) .nomore) .nomore)) .nomore))))))) (by kernel_rfl) ?_
  have hS115 := hS.drew
  refine go2_batch [0] (ans := [.val (.slice A0 l0.length c0)]) (vs := [(80, .slice A0 l0.length c0)]) (l := [.loaded ⟨b1, 0, none⟩ (.slice A0 l0.length c0)]) (by kernel_rfl) ⟨hS115.cell 3 rfl rfl, trivial⟩ (mem_one (by kernel_rfl)) ?_
  refine go2_batch [1] (ans := []) (vs := [(81, .int .i64 (l0.length : Int))]) (l := []) (by kernel_rfl) trivial mem_nil ?_
  refine go2_batch [3] (ans := [.val (.slice A0 l0.length c0)]) (vs := [(83, .slice A0 l0.length c0)]) (l := [.loaded ⟨b1, 0, none⟩ (.slice A0 l0.length c0)]) (by kernel_rfl) ⟨hS115.cell 3 rfl rfl, trivial⟩ (mem_one (by kernel_rfl)) ?_
  refine go2_batch [4] (ans := []) (vs := [(84, .int .i64 (l0.length : Int))]) (l := []) (by kernel_rfl) trivial mem_nil ?_
  by_cases hc14 : l0.length ≤ 17592186044416
  · rw [if_pos hc14] at h
    refine go_alt2 (fun KK hKK => ?_) ?_
    · refine ge_one2 ?_
      refine ge_make (α := Int) (d := 82) (t := 24) (el := 3) (bytes := 8) (l := l0.length) (c := l0.length) (x := (.tmp 81)) (y := (.tmp 81)) (ty := 24) (k1 := .i64) (k2 := .i64) (li := (l0.length : Int)) (ci := (l0.length : Int)) (z := .int .i64 0) (z' := (0 : Int)) (by kernel_rfl) (by kernel_rfl) (by kernel_rfl) rfl rfl (by kernel_rfl) (by kernel_rfl) rfl hS115 (Nat.le_refl _) rfl (by omega) fun v9 w29 _ hS116 => ?_
      refine ge_nil fun a hF => hKK _ _ (RS.of2 (l := [.loaded ⟨b1, 0, none⟩ (.slice A0 l0.length c0), .loaded ⟨b1, 0, none⟩ (.slice A0 l0.length c0)]) (by kernel_rfl) ⟨hS115.cell 3 rfl rfl, hS115.cell 3 rfl rfl, trivial⟩ ⟨hS116.cell 4 rfl rfl, hS116.cell 4 rfl rfl, trivial⟩) ?_ a hF
      refine go_alt2 (fun KK hKK => ?_) ?_
      · refine ge_one2 ?_
        refine ge_make (α := Int) (d := 85) (t := 24) (el := 3) (bytes := 8) (l := l0.length) (c := l0.length) (x := (.tmp 84)) (y := (.tmp 84)) (ty := 24) (k1 := .i64) (k2 := .i64) (li := (l0.length : Int)) (ci := (l0.length : Int)) (z := .int .i64 0) (z' := (0 : Int)) (by kernel_rfl) (by kernel_rfl) (by kernel_rfl) rfl rfl (by kernel_rfl) (by kernel_rfl) rfl hS116 (Nat.le_refl _) rfl (by omega) fun v10 w30 _ hS117 => ?_
        refine ge_nil fun a hF => hKK _ _ (RS.of2 (l := [.loaded ⟨b1, 0, none⟩ (.slice A0 l0.length c0), .loaded ⟨b1, 0, none⟩ (.slice A0 l0.length c0)]) (by kernel_rfl) ⟨hS116.cell 4 rfl rfl, hS116.cell 4 rfl rfl, trivial⟩ ⟨hS117.cell 5 rfl rfl, hS117.cell 5 rfl rfl, trivial⟩) ?_ a hF
        refine go_alt2 (fun KK hKK => ?_) ?_
        · refine ge_one2 ?_
          refine ge_new (d := some 15) (o := .cells #[.slice none 0 0] 24) (v := fun b => .pointer (some ⟨b, 0, none⟩)) hS117 (fun b => by kernel_rfl) fun b10 w31 hx9 hS118 => ?_
          refine ge_nil fun a hF => hKK _ _ (RS.of2 (l := [.loaded ⟨b1, 0, none⟩ (.slice A0 l0.length c0), .loaded ⟨b1, 0, none⟩ (.slice A0 l0.length c0)]) (by kernel_rfl) ⟨hS117.cell 5 rfl rfl, hS117.cell 5 rfl rfl, trivial⟩ ⟨hS118.cell 6 rfl rfl, hS118.cell 6 rfl rfl, trivial⟩) ?_ a hF
          refine go_alt2 (fun KK hKK => ?_) ?_
          · obtain ⟨Z5, cz5, rfl⟩ := hS118.open 2 rfl
            refine ge_set (b := b10) (j := 0) (cs := #[.slice none 0 0]) (t := 24) (vs := [(.slice Z5 (List.replicate l0.length (0 : Int)).length cz5)]) hS118 (by kernel_rfl) rfl rfl fun w32 hS119 => ?_
            have hS120 : St w0 w32 [Own.blk b10 (.cells #[(.slice Z5 (List.replicate l0.length (0 : Int)).length cz5)] 24 (0, 0)), Own.of v10 3 (List.replicate l0.length (0 : Int)), Own.of (.slice Z5 (List.replicate l0.length (0 : Int)).length cz5) 3 (List.replicate l0.length (0 : Int)), Own.blk b8 (.cells #[(.slice Z3 m3.length cz3), (.slice Z4 m4.length cz4)] 36 (0, 0)), Own.blk b3 (.cells #[.int .i64 0, .int .i64 0] 39 (0, 0)), Own.blk b2 (.cells #[.slice none 0 0, .slice none 0 0] 36 (0, 0)), Own.blk b1 (.cells #[.slice A0 l0.length c0] 49 (0, 0)), Own.of (.slice Z3 m3.length cz3) 3 m3, Own.of (.slice Z4 m4.length cz4) 3 m4, Own.map (κ := Int) (ν := Int) b5 mp3] := hS119
            refine ge_nil fun a hF => hKK _ _ (RS.of2 (l := [.loaded ⟨b1, 0, none⟩ (.slice A0 l0.length c0)]) (by kernel_rfl) ⟨hS118.cell 6 rfl rfl, trivial⟩ ⟨hS120.cell 6 rfl rfl, trivial⟩) ?_ a hF
            refine go2_batch [8] (ans := []) (vs := [(16, v10)]) (l := []) (by kernel_rfl) trivial mem_nil ?_
            have hS121 := hS120.bring 9 rfl
            have hS122 := hS121.bring 9 rfl
            have hS123 := hS122.bring 9 rfl
            have hS124 := hS123.bring 5 rfl
            have hS125 := hS124.bring 5 rfl
            have hS126 := hS125.bring 9 rfl
            have hS127 := hS126.bring 9 rfl
            have hS128 := hS127.bring 9 rfl
            have hS129 := hS128.bring 9 rfl
            have hS130 := hS129.bring 9 rfl
            obtain rfl := Option.some.inj h
            exact go_fin2 fun a hF => hQ _ _ _ (Outs.again ⟨b10, v10, (.slice Z5 (List.replicate l0.length (0 : Int)).length cz5), hS130, hF.weaken ⟨by kernel_rfl, by kernel_rfl, by kernel_rfl, by kernel_rfl, by kernel_rfl, by kernel_rfl, by kernel_rfl, by kernel_rfl, by kernel_rfl, trivial⟩⟩)
          exact go_nomore2
        exact go_nomore2
      refine go_alt2 (fun KK hKK => ?_) ?_
      · refine ge_one2 ?_
        refine ge_new (d := some 15) (o := .cells #[.slice none 0 0] 24) (v := fun b => .pointer (some ⟨b, 0, none⟩)) hS116 (fun b => by kernel_rfl) fun b10 w30 hx9 hS117 => ?_
        refine ge_nil fun a hF => hKK _ _ (RS.of2 (l := [.loaded ⟨b1, 0, none⟩ (.slice A0 l0.length c0), .loaded ⟨b1, 0, none⟩ (.slice A0 l0.length c0)]) (by kernel_rfl) ⟨hS116.cell 4 rfl rfl, hS116.cell 4 rfl rfl, trivial⟩ ⟨hS117.cell 5 rfl rfl, hS117.cell 5 rfl rfl, trivial⟩) ?_ a hF
        refine go_alt2 (fun KK hKK => ?_) ?_
        · refine ge_one2 ?_
          refine ge_make (α := Int) (d := 85) (t := 24) (el := 3) (bytes := 8) (l := l0.length) (c := l0.length) (x := (.tmp 84)) (y := (.tmp 84)) (ty := 24) (k1 := .i64) (k2 := .i64) (li := (l0.length : Int)) (ci := (l0.length : Int)) (z := .int .i64 0) (z' := (0 : Int)) (by kernel_rfl) (by kernel_rfl) (by kernel_rfl) rfl rfl (by kernel_rfl) (by kernel_rfl) rfl hS117 (Nat.le_refl _) rfl (by omega) fun v10 w31 _ hS118 => ?_
          refine ge_nil fun a hF => hKK _ _ (RS.of2 (l := [.loaded ⟨b1, 0, none⟩ (.slice A0 l0.length c0), .loaded ⟨b1, 0, none⟩ (.slice A0 l0.length c0)]) (by kernel_rfl) ⟨hS117.cell 5 rfl rfl, hS117.cell 5 rfl rfl, trivial⟩ ⟨hS118.cell 6 rfl rfl, hS118.cell 6 rfl rfl, trivial⟩) ?_ a hF
          refine go_alt2 (fun KK hKK => ?_) ?_
          · obtain ⟨Z5, cz5, rfl⟩ := hS118.open 2 rfl
            have hS119 := hS118.bring 1 rfl
            refine ge_set (b := b10) (j := 0) (cs := #[.slice none 0 0]) (t := 24) (vs := [(.slice Z5 (List.replicate l0.length (0 : Int)).length cz5)]) hS119 (by kernel_rfl) rfl rfl fun w32 hS120 => ?_
            have hS121 : St w0 w32 [Own.blk b10 (.cells #[(.slice Z5 (List.replicate l0.length (0 : Int)).length cz5)] 24 (0, 0)), Own.of v10 3 (List.replicate l0.length (0 : Int)), Own.of (.slice Z5 (List.replicate l0.length (0 : Int)).length cz5) 3 (List.replicate l0.length (0 : Int)), Own.blk b8 (.cells #[(.slice Z3 m3.length cz3), (.slice Z4 m4.length cz4)] 36 (0, 0)), Own.blk b3 (.cells #[.int .i64 0, .int .i64 0] 39 (0, 0)), Own.blk b2 (.cells #[.slice none 0 0, .slice none 0 0] 36 (0, 0)), Own.blk b1 (.cells #[.slice A0 l0.length c0] 49 (0, 0)), Own.of (.slice Z3 m3.length cz3) 3 m3, Own.of (.slice Z4 m4.length cz4) 3 m4, Own.map (κ := Int) (ν := Int) b5 mp3] := hS120
            refine ge_nil fun a hF => hKK _ _ (RS.of2 (l := [.loaded ⟨b1, 0, none⟩ (.slice A0 l0.length c0)]) (by kernel_rfl) ⟨hS118.cell 6 rfl rfl, trivial⟩ ⟨hS121.cell 6 rfl rfl, trivial⟩) ?_ a hF
            refine go2_batch [8] (ans := []) (vs := [(16, v10)]) (l := []) (by kernel_rfl) trivial mem_nil ?_
            have hS122 := hS121.bring 9 rfl
            have hS123 := hS122.bring 9 rfl
            have hS124 := hS123.bring 9 rfl
            have hS125 := hS124.bring 5 rfl
            have hS126 := hS125.bring 5 rfl
            have hS127 := hS126.bring 9 rfl
            have hS128 := hS127.bring 9 rfl
            have hS129 := hS128.bring 9 rfl
            have hS130 := hS129.bring 9 rfl
            have hS131 := hS130.bring 9 rfl
            obtain rfl := Option.some.inj h
            exact go_fin2 fun a hF => hQ _ _ _ (Outs.again ⟨b10, v10, (.slice Z5 (List.replicate l0.length (0 : Int)).length cz5), hS131, hF.weaken ⟨by kernel_rfl, by kernel_rfl, by kernel_rfl, by kernel_rfl, by kernel_rfl, by kernel_rfl, by kernel_rfl, by kernel_rfl, by kernel_rfl, trivial⟩⟩)
          exact go_nomore2
        refine go_alt2 (fun KK hKK => ?_) ?_
        · obtain ⟨Z5, cz5, rfl⟩ := hS117.open 1 rfl
          refine ge_set (b := b10) (j := 0) (cs := #[.slice none 0 0]) (t := 24) (vs := [(.slice Z5 (List.replicate l0.length (0 : Int)).length cz5)]) hS117 (by kernel_rfl) rfl rfl fun w31 hS118 => ?_
          have hS119 : St w0 w31 [Own.blk b10 (.cells #[(.slice Z5 (List.replicate l0.length (0 : Int)).length cz5)] 24 (0, 0)), Own.of (.slice Z5 (List.replicate l0.length (0 : Int)).length cz5) 3 (List.replicate l0.length (0 : Int)), Own.blk b8 (.cells #[(.slice Z3 m3.length cz3), (.slice Z4 m4.length cz4)] 36 (0, 0)), Own.blk b3 (.cells #[.int .i64 0, .int .i64 0] 39 (0, 0)), Own.blk b2 (.cells #[.slice none 0 0, .slice none 0 0] 36 (0, 0)), Own.blk b1 (.cells #[.slice A0 l0.length c0] 49 (0, 0)), Own.of (.slice Z3 m3.length cz3) 3 m3, Own.of (.slice Z4 m4.length cz4) 3 m4, Own.map (κ := Int) (ν := Int) b5 mp3] := hS118
          refine ge_nil fun a hF => hKK _ _ (RS.of2 (l := [.loaded ⟨b1, 0, none⟩ (.slice A0 l0.length c0)]) (by kernel_rfl) ⟨hS117.cell 5 rfl rfl, trivial⟩ ⟨hS119.cell 5 rfl rfl, trivial⟩) ?_ a hF
          refine go_alt2 (fun KK hKK => ?_) ?_
          · refine ge_one2 ?_
            refine ge_make (α := Int) (d := 85) (t := 24) (el := 3) (bytes := 8) (l := l0.length) (c := l0.length) (x := (.tmp 84)) (y := (.tmp 84)) (ty := 24) (k1 := .i64) (k2 := .i64) (li := (l0.length : Int)) (ci := (l0.length : Int)) (z := .int .i64 0) (z' := (0 : Int)) (by kernel_rfl) (by kernel_rfl) (by kernel_rfl) rfl rfl (by kernel_rfl) (by kernel_rfl) rfl hS119 (Nat.le_refl _) rfl (by omega) fun v10 w32 _ hS120 => ?_
            refine ge_nil fun a hF => hKK _ _ (RS.of2 (l := [.loaded ⟨b1, 0, none⟩ (.slice A0 l0.length c0), .loaded ⟨b1, 0, none⟩ (.slice A0 l0.length c0)]) (by kernel_rfl) ⟨hS119.cell 5 rfl rfl, hS119.cell 5 rfl rfl, trivial⟩ ⟨hS120.cell 6 rfl rfl, hS120.cell 6 rfl rfl, trivial⟩) ?_ a hF
            refine go2_batch [8] (ans := []) (vs := [(16, v10)]) (l := []) (by kernel_rfl) trivial mem_nil ?_
            have hS121 := hS120.bring 9 rfl
            have hS122 := hS121.bring 9 rfl
            have hS123 := hS122.bring 9 rfl
            have hS124 := hS123.bring 5 rfl
            have hS125 := hS124.bring 4 rfl
            have hS126 := hS125.bring 9 rfl
            have hS127 := hS126.bring 9 rfl
            have hS128 := hS127.bring 9 rfl
            have hS129 := hS128.bring 9 rfl
            have hS130 := hS129.bring 9 rfl
            obtain rfl := Option.some.inj h
            exact go_fin2 fun a hF => hQ _ _ _ (Outs.again ⟨b10, v10, (.slice Z5 (List.replicate l0.length (0 : Int)).length cz5), hS130, hF.weaken ⟨by kernel_rfl, by kernel_rfl, by kernel_rfl, by kernel_rfl, by kernel_rfl, by kernel_rfl, by kernel_rfl, by kernel_rfl, by kernel_rfl, trivial⟩⟩)
          exact go_nomore2
        exact go_nomore2
      exact go_nomore2
    refine go_alt2 (fun KK hKK => ?_) ?_
    · refine ge_one2 ?_
      refine ge_make (α := Int) (d := 85) (t := 24) (el := 3) (bytes := 8) (l := l0.length) (c := l0.length) (x := (.tmp 84)) (y := (.tmp 84)) (ty := 24) (k1 := .i64) (k2 := .i64) (li := (l0.length : Int)) (ci := (l0.length : Int)) (z := .int .i64 0) (z' := (0 : Int)) (by kernel_rfl) (by kernel_rfl) (by kernel_rfl) rfl rfl (by kernel_rfl) (by kernel_rfl) rfl hS115 (Nat.le_refl _) rfl (by omega) fun v9 w29 _ hS116 => ?_
      refine ge_nil fun a hF => hKK _ _ (RS.of2 (l := [.loaded ⟨b1, 0, none⟩ (.slice A0 l0.length c0), .loaded ⟨b1, 0, none⟩ (.slice A0 l0.length c0)]) (by kernel_rfl) ⟨hS115.cell 3 rfl rfl, hS115.cell 3 rfl rfl, trivial⟩ ⟨hS116.cell 4 rfl rfl, hS116.cell 4 rfl rfl, trivial⟩) ?_ a hF
      refine go_alt2 (fun KK hKK => ?_) ?_
      · refine ge_one2 ?_
        refine ge_make (α := Int) (d := 82) (t := 24) (el := 3) (bytes := 8) (l := l0.length) (c := l0.length) (x := (.tmp 81)) (y := (.tmp 81)) (ty := 24) (k1 := .i64) (k2 := .i64) (li := (l0.length : Int)) (ci := (l0.length : Int)) (z := .int .i64 0) (z' := (0 : Int)) (by kernel_rfl) (by kernel_rfl) (by kernel_rfl) rfl rfl (by kernel_rfl) (by kernel_rfl) rfl hS116 (Nat.le_refl _) rfl (by omega) fun v10 w30 _ hS117 => ?_
        refine ge_nil fun a hF => hKK _ _ (RS.of2 (l := [.loaded ⟨b1, 0, none⟩ (.slice A0 l0.length c0), .loaded ⟨b1, 0, none⟩ (.slice A0 l0.length c0)]) (by kernel_rfl) ⟨hS116.cell 4 rfl rfl, hS116.cell 4 rfl rfl, trivial⟩ ⟨hS117.cell 5 rfl rfl, hS117.cell 5 rfl rfl, trivial⟩) ?_ a hF
        refine go_alt2 (fun KK hKK => ?_) ?_
        · refine ge_one2 ?_
          refine ge_new (d := some 15) (o := .cells #[.slice none 0 0] 24) (v := fun b => .pointer (some ⟨b, 0, none⟩)) hS117 (fun b => by kernel_rfl) fun b10 w31 hx9 hS118 => ?_
          refine ge_nil fun a hF => hKK _ _ (RS.of2 (l := [.loaded ⟨b1, 0, none⟩ (.slice A0 l0.length c0), .loaded ⟨b1, 0, none⟩ (.slice A0 l0.length c0)]) (by kernel_rfl) ⟨hS117.cell 5 rfl rfl, hS117.cell 5 rfl rfl, trivial⟩ ⟨hS118.cell 6 rfl rfl, hS118.cell 6 rfl rfl, trivial⟩) ?_ a hF
          refine go_alt2 (fun KK hKK => ?_) ?_
          · obtain ⟨Z5, cz5, rfl⟩ := hS118.open 1 rfl
            refine ge_set (b := b10) (j := 0) (cs := #[.slice none 0 0]) (t := 24) (vs := [(.slice Z5 (List.replicate l0.length (0 : Int)).length cz5)]) hS118 (by kernel_rfl) rfl rfl fun w32 hS119 => ?_
            have hS120 : St w0 w32 [Own.blk b10 (.cells #[(.slice Z5 (List.replicate l0.length (0 : Int)).length cz5)] 24 (0, 0)), Own.of (.slice Z5 (List.replicate l0.length (0 : Int)).length cz5) 3 (List.replicate l0.length (0 : Int)), Own.of v9 3 (List.replicate l0.length (0 : Int)), Own.blk b8 (.cells #[(.slice Z3 m3.length cz3), (.slice Z4 m4.length cz4)] 36 (0, 0)), Own.blk b3 (.cells #[.int .i64 0, .int .i64 0] 39 (0, 0)), Own.blk b2 (.cells #[.slice none 0 0, .slice none 0 0] 36 (0, 0)), Own.blk b1 (.cells #[.slice A0 l0.length c0] 49 (0, 0)), Own.of (.slice Z3 m3.length cz3) 3 m3, Own.of (.slice Z4 m4.length cz4) 3 m4, Own.map (κ := Int) (ν := Int) b5 mp3] := hS119
            refine ge_nil fun a hF => hKK _ _ (RS.of2 (l := [.loaded ⟨b1, 0, none⟩ (.slice A0 l0.length c0)]) (by kernel_rfl) ⟨hS118.cell 6 rfl rfl, trivial⟩ ⟨hS120.cell 6 rfl rfl, trivial⟩) ?_ a hF
            refine go2_batch [8] (ans := []) (vs := [(16, v9)]) (l := []) (by kernel_rfl) trivial mem_nil ?_
            have hS121 := hS120.bring 9 rfl
            have hS122 := hS121.bring 9 rfl
            have hS123 := hS122.bring 9 rfl
            have hS124 := hS123.bring 4 rfl
            have hS125 := hS124.bring 5 rfl
            have hS126 := hS125.bring 9 rfl
            have hS127 := hS126.bring 9 rfl
            have hS128 := hS127.bring 9 rfl
            have hS129 := hS128.bring 9 rfl
            have hS130 := hS129.bring 9 rfl
            obtain rfl := Option.some.inj h
            exact go_fin2 fun a hF => hQ _ _ _ (Outs.again ⟨b10, v9, (.slice Z5 (List.replicate l0.length (0 : Int)).length cz5), hS130, hF.weaken ⟨by kernel_rfl, by kernel_rfl, by kernel_rfl, by kernel_rfl, by kernel_rfl, by kernel_rfl, by kernel_rfl, by kernel_rfl, by kernel_rfl, trivial⟩⟩)
          exact go_nomore2
        exact go_nomore2
      refine go_alt2 (fun KK hKK => ?_) ?_
      · refine ge_one2 ?_
        refine ge_new (d := some 15) (o := .cells #[.slice none 0 0] 24) (v := fun b => .pointer (some ⟨b, 0, none⟩)) hS116 (fun b => by kernel_rfl) fun b10 w30 hx9 hS117 => ?_
        refine ge_nil fun a hF => hKK _ _ (RS.of2 (l := [.loaded ⟨b1, 0, none⟩ (.slice A0 l0.length c0), .loaded ⟨b1, 0, none⟩ (.slice A0 l0.length c0)]) (by kernel_rfl) ⟨hS116.cell 4 rfl rfl, hS116.cell 4 rfl rfl, trivial⟩ ⟨hS117.cell 5 rfl rfl, hS117.cell 5 rfl rfl, trivial⟩) ?_ a hF
        refine go_alt2 (fun KK hKK => ?_) ?_
        · refine ge_one2 ?_
          refine ge_make (α := Int) (d := 82) (t := 24) (el := 3) (bytes := 8) (l := l0.length) (c := l0.length) (x := (.tmp 81)) (y := (.tmp 81)) (ty := 24) (k1 := .i64) (k2 := .i64) (li := (l0.length : Int)) (ci := (l0.length : Int)) (z := .int .i64 0) (z' := (0 : Int)) (by kernel_rfl) (by kernel_rfl) (by kernel_rfl) rfl rfl (by kernel_rfl) (by kernel_rfl) rfl hS117 (Nat.le_refl _) rfl (by omega) fun v10 w31 _ hS118 => ?_
          refine ge_nil fun a hF => hKK _ _ (RS.of2 (l := [.loaded ⟨b1, 0, none⟩ (.slice A0 l0.length c0), .loaded ⟨b1, 0, none⟩ (.slice A0 l0.length c0)]) (by kernel_rfl) ⟨hS117.cell 5 rfl rfl, hS117.cell 5 rfl rfl, trivial⟩ ⟨hS118.cell 6 rfl rfl, hS118.cell 6 rfl rfl, trivial⟩) ?_ a hF
          refine go_alt2 (fun KK hKK => ?_) ?_
          · obtain ⟨Z5, cz5, rfl⟩ := hS118.open 0 rfl
            have hS119 := hS118.bring 1 rfl
            refine ge_set (b := b10) (j := 0) (cs := #[.slice none 0 0]) (t := 24) (vs := [(.slice Z5 (List.replicate l0.length (0 : Int)).length cz5)]) hS119 (by kernel_rfl) rfl rfl fun w32 hS120 => ?_
            have hS121 : St w0 w32 [Own.blk b10 (.cells #[(.slice Z5 (List.replicate l0.length (0 : Int)).length cz5)] 24 (0, 0)), Own.of (.slice Z5 (List.replicate l0.length (0 : Int)).length cz5) 3 (List.replicate l0.length (0 : Int)), Own.of v9 3 (List.replicate l0.length (0 : Int)), Own.blk b8 (.cells #[(.slice Z3 m3.length cz3), (.slice Z4 m4.length cz4)] 36 (0, 0)), Own.blk b3 (.cells #[.int .i64 0, .int .i64 0] 39 (0, 0)), Own.blk b2 (.cells #[.slice none 0 0, .slice none 0 0] 36 (0, 0)), Own.blk b1 (.cells #[.slice A0 l0.length c0] 49 (0, 0)), Own.of (.slice Z3 m3.length cz3) 3 m3, Own.of (.slice Z4 m4.length cz4) 3 m4, Own.map (κ := Int) (ν := Int) b5 mp3] := hS120
            refine ge_nil fun a hF => hKK _ _ (RS.of2 (l := [.loaded ⟨b1, 0, none⟩ (.slice A0 l0.length c0)]) (by kernel_rfl) ⟨hS118.cell 6 rfl rfl, trivial⟩ ⟨hS121.cell 6 rfl rfl, trivial⟩) ?_ a hF
            refine go2_batch [8] (ans := []) (vs := [(16, v9)]) (l := []) (by kernel_rfl) trivial mem_nil ?_
            have hS122 := hS121.bring 9 rfl
            have hS123 := hS122.bring 9 rfl
            have hS124 := hS123.bring 9 rfl
            have hS125 := hS124.bring 4 rfl
            have hS126 := hS125.bring 5 rfl
            have hS127 := hS126.bring 9 rfl
            have hS128 := hS127.bring 9 rfl
            have hS129 := hS128.bring 9 rfl
            have hS130 := hS129.bring 9 rfl
            have hS131 := hS130.bring 9 rfl
            obtain rfl := Option.some.inj h
            exact go_fin2 fun a hF => hQ _ _ _ (Outs.again ⟨b10, v9, (.slice Z5 (List.replicate l0.length (0 : Int)).length cz5), hS131, hF.weaken ⟨by kernel_rfl, by kernel_rfl, by kernel_rfl, by kernel_rfl, by kernel_rfl, by kernel_rfl, by kernel_rfl, by kernel_rfl, by kernel_rfl, trivial⟩⟩)
          exact go_nomore2
        exact go_nomore2
      exact go_nomore2
    refine go_alt2 (fun KK hKK => ?_) ?_
    · refine ge_one2 ?_
      refine ge_new (d := some 15) (o := .cells #[.slice none 0 0] 24) (v := fun b => .pointer (some ⟨b, 0, none⟩)) hS115 (fun b => by kernel_rfl) fun b10 w29 hx9 hS116 => ?_
      refine ge_nil fun a hF => hKK _ _ (RS.of2 (l := [.loaded ⟨b1, 0, none⟩ (.slice A0 l0.length c0), .loaded ⟨b1, 0, none⟩ (.slice A0 l0.length c0)]) (by kernel_rfl) ⟨hS115.cell 3 rfl rfl, hS115.cell 3 rfl rfl, trivial⟩ ⟨hS116.cell 4 rfl rfl, hS116.cell 4 rfl rfl, trivial⟩) ?_ a hF
      refine go_alt2 (fun KK hKK => ?_) ?_
      · refine ge_one2 ?_
        refine ge_make (α := Int) (d := 82) (t := 24) (el := 3) (bytes := 8) (l := l0.length) (c := l0.length) (x := (.tmp 81)) (y := (.tmp 81)) (ty := 24) (k1 := .i64) (k2 := .i64) (li := (l0.length : Int)) (ci := (l0.length : Int)) (z := .int .i64 0) (z' := (0 : Int)) (by kernel_rfl) (by kernel_rfl) (by kernel_rfl) rfl rfl (by kernel_rfl) (by kernel_rfl) rfl hS116 (Nat.le_refl _) rfl (by omega) fun v9 w30 _ hS117 => ?_
        refine ge_nil fun a hF => hKK _ _ (RS.of2 (l := [.loaded ⟨b1, 0, none⟩ (.slice A0 l0.length c0), .loaded ⟨b1, 0, none⟩ (.slice A0 l0.length c0)]) (by kernel_rfl) ⟨hS116.cell 4 rfl rfl, hS116.cell 4 rfl rfl, trivial⟩ ⟨hS117.cell 5 rfl rfl, hS117.cell 5 rfl rfl, trivial⟩) ?_ a hF
        refine go_alt2 (fun KK hKK => ?_) ?_
        · refine ge_one2 ?_
          refine ge_make (α := Int) (d := 85) (t := 24) (el := 3) (bytes := 8) (l := l0.length) (c := l0.length) (x := (.tmp 84)) (y := (.tmp 84)) (ty := 24) (k1 := .i64) (k2 := .i64) (li := (l0.length : Int)) (ci := (l0.length : Int)) (z := .int .i64 0) (z' := (0 : Int)) (by kernel_rfl) (by kernel_rfl) (by kernel_rfl) rfl rfl (by kernel_rfl) (by kernel_rfl) rfl hS117 (Nat.le_refl _) rfl (by omega) fun v10 w31 _ hS118 => ?_
          refine ge_nil fun a hF => hKK _ _ (RS.of2 (l := [.loaded ⟨b1, 0, none⟩ (.slice A0 l0.length c0), .loaded ⟨b1, 0, none⟩ (.slice A0 l0.length c0)]) (by kernel_rfl) ⟨hS117.cell 5 rfl rfl, hS117.cell 5 rfl rfl, trivial⟩ ⟨hS118.cell 6 rfl rfl, hS118.cell 6 rfl rfl, trivial⟩) ?_ a hF
          refine go_alt2 (fun KK hKK => ?_) ?_
          · obtain ⟨Z5, cz5, rfl⟩ := hS118.open 1 rfl
            have hS119 := hS118.bring 2 rfl
            refine ge_set (b := b10) (j := 0) (cs := #[.slice none 0 0]) (t := 24) (vs := [(.slice Z5 (List.replicate l0.length (0 : Int)).length cz5)]) hS119 (by kernel_rfl) rfl rfl fun w32 hS120 => ?_
            have hS121 : St w0 w32 [Own.blk b10 (.cells #[(.slice Z5 (List.replicate l0.length (0 : Int)).length cz5)] 24 (0, 0)), Own.of v10 3 (List.replicate l0.length (0 : Int)), Own.of (.slice Z5 (List.replicate l0.length (0 : Int)).length cz5) 3 (List.replicate l0.length (0 : Int)), Own.blk b8 (.cells #[(.slice Z3 m3.length cz3), (.slice Z4 m4.length cz4)] 36 (0, 0)), Own.blk b3 (.cells #[.int .i64 0, .int .i64 0] 39 (0, 0)), Own.blk b2 (.cells #[.slice none 0 0, .slice none 0 0] 36 (0, 0)), Own.blk b1 (.cells #[.slice A0 l0.length c0] 49 (0, 0)), Own.of (.slice Z3 m3.length cz3) 3 m3, Own.of (.slice Z4 m4.length cz4) 3 m4, Own.map (κ := Int) (ν := Int) b5 mp3] := hS120
            refine ge_nil fun a hF => hKK _ _ (RS.of2 (l := [.loaded ⟨b1, 0, none⟩ (.slice A0 l0.length c0)]) (by kernel_rfl) ⟨hS118.cell 6 rfl rfl, trivial⟩ ⟨hS121.cell 6 rfl rfl, trivial⟩) ?_ a hF
            refine go2_batch [8] (ans := []) (vs := [(16, v10)]) (l := []) (by kernel_rfl) trivial mem_nil ?_
            have hS122 := hS121.bring 9 rfl
            have hS123 := hS122.bring 9 rfl
            have hS124 := hS123.bring 9 rfl
            have hS125 := hS124.bring 5 rfl
            have hS126 := hS125.bring 5 rfl
            have hS127 := hS126.bring 9 rfl
            have hS128 := hS127.bring 9 rfl
            have hS129 := hS128.bring 9 rfl
            have hS130 := hS129.bring 9 rfl
            have hS131 := hS130.bring 9 rfl
            obtain rfl := Option.some.inj h
            exact go_fin2 fun a hF => hQ _ _ _ (Outs.again ⟨b10, v10, (.slice Z5 (List.replicate l0.length (0 : Int)).length cz5), hS131, hF.weaken ⟨by kernel_rfl, by kernel_rfl, by kernel_rfl, by kernel_rfl, by kernel_rfl, by kernel_rfl, by kernel_rfl, by kernel_rfl, by kernel_rfl, trivial⟩⟩)
          exact go_nomore2
        refine go_alt2 (fun KK hKK => ?_) ?_
        · obtain ⟨Z5, cz5, rfl⟩ := hS117.open 0 rfl
          have hS118 := hS117.bring 1 rfl
          refine ge_set (b := b10) (j := 0) (cs := #[.slice none 0 0]) (t := 24) (vs := [(.slice Z5 (List.replicate l0.length (0 : Int)).length cz5)]) hS118 (by kernel_rfl) rfl rfl fun w31 hS119 => ?_
          have hS120 : St w0 w31 [Own.blk b10 (.cells #[(.slice Z5 (List.replicate l0.length (0 : Int)).length cz5)] 24 (0, 0)), Own.of (.slice Z5 (List.replicate l0.length (0 : Int)).length cz5) 3 (List.replicate l0.length (0 : Int)), Own.blk b8 (.cells #[(.slice Z3 m3.length cz3), (.slice Z4 m4.length cz4)] 36 (0, 0)), Own.blk b3 (.cells #[.int .i64 0, .int .i64 0] 39 (0, 0)), Own.blk b2 (.cells #[.slice none 0 0, .slice none 0 0] 36 (0, 0)), Own.blk b1 (.cells #[.slice A0 l0.length c0] 49 (0, 0)), Own.of (.slice Z3 m3.length cz3) 3 m3, Own.of (.slice Z4 m4.length cz4) 3 m4, Own.map (κ := Int) (ν := Int) b5 mp3] := hS119
          refine ge_nil fun a hF => hKK _ _ (RS.of2 (l := [.loaded ⟨b1, 0, none⟩ (.slice A0 l0.length c0)]) (by kernel_rfl) ⟨hS117.cell 5 rfl rfl, trivial⟩ ⟨hS120.cell 5 rfl rfl, trivial⟩) ?_ a hF
          refine go_alt2 (fun KK hKK => ?_) ?_
          · refine ge_one2 ?_
            refine ge_make (α := Int) (d := 85) (t := 24) (el := 3) (bytes := 8) (l := l0.length) (c := l0.length) (x := (.tmp 84)) (y := (.tmp 84)) (ty := 24) (k1 := .i64) (k2 := .i64) (li := (l0.length : Int)) (ci := (l0.length : Int)) (z := .int .i64 0) (z' := (0 : Int)) (by kernel_rfl) (by kernel_rfl) (by kernel_rfl) rfl rfl (by kernel_rfl) (by kernel_rfl) rfl hS120 (Nat.le_refl _) rfl (by omega) fun v10 w32 _ hS121 => ?_
            refine ge_nil fun a hF => hKK _ _ (RS.of2 (l := [.loaded ⟨b1, 0, none⟩ (.slice A0 l0.length c0), .loaded ⟨b1, 0, none⟩ (.slice A0 l0.length c0)]) (by kernel_rfl) ⟨hS120.cell 5 rfl rfl, hS120.cell 5 rfl rfl, trivial⟩ ⟨hS121.cell 6 rfl rfl, hS121.cell 6 rfl rfl, trivial⟩) ?_ a hF
            refine go2_batch [8] (ans := []) (vs := [(16, v10)]) (l := []) (by kernel_rfl) trivial mem_nil ?_
            have hS122 := hS121.bring 9 rfl
            have hS123 := hS122.bring 9 rfl
            have hS124 := hS123.bring 9 rfl
            have hS125 := hS124.bring 5 rfl
            have hS126 := hS125.bring 4 rfl
            have hS127 := hS126.bring 9 rfl
            have hS128 := hS127.bring 9 rfl
            have hS129 := hS128.bring 9 rfl
            have hS130 := hS129.bring 9 rfl
            have hS131 := hS130.bring 9 rfl
            obtain rfl := Option.some.inj h
            exact go_fin2 fun a hF => hQ _ _ _ (Outs.again ⟨b10, v10, (.slice Z5 (List.replicate l0.length (0 : Int)).length cz5), hS131, hF.weaken ⟨by kernel_rfl, by kernel_rfl, by kernel_rfl, by kernel_rfl, by kernel_rfl, by kernel_rfl, by kernel_rfl, by kernel_rfl, by kernel_rfl, trivial⟩⟩)
          exact go_nomore2
        exact go_nomore2
      refine go_alt2 (fun KK hKK => ?_) ?_
      · refine ge_one2 ?_
        refine ge_make (α := Int) (d := 85) (t := 24) (el := 3) (bytes := 8) (l := l0.length) (c := l0.length) (x := (.tmp 84)) (y := (.tmp 84)) (ty := 24) (k1 := .i64) (k2 := .i64) (li := (l0.length : Int)) (ci := (l0.length : Int)) (z := .int .i64 0) (z' := (0 : Int)) (by kernel_rfl) (by kernel_rfl) (by kernel_rfl) rfl rfl (by kernel_rfl) (by kernel_rfl) rfl hS116 (Nat.le_refl _) rfl (by omega) fun v9 w30 _ hS117 => ?_
        refine ge_nil fun a hF => hKK _ _ (RS.of2 (l := [.loaded ⟨b1, 0, none⟩ (.slice A0 l0.length c0), .loaded ⟨b1, 0, none⟩ (.slice A0 l0.length c0)]) (by kernel_rfl) ⟨hS116.cell 4 rfl rfl, hS116.cell 4 rfl rfl, trivial⟩ ⟨hS117.cell 5 rfl rfl, hS117.cell 5 rfl rfl, trivial⟩) ?_ a hF
        refine go_alt2 (fun KK hKK => ?_) ?_
        · refine ge_one2 ?_
          refine ge_make (α := Int) (d := 82) (t := 24) (el := 3) (bytes := 8) (l := l0.length) (c := l0.length) (x := (.tmp 81)) (y := (.tmp 81)) (ty := 24) (k1 := .i64) (k2 := .i64) (li := (l0.length : Int)) (ci := (l0.length : Int)) (z := .int .i64 0) (z' := (0 : Int)) (by kernel_rfl) (by kernel_rfl) (by kernel_rfl) rfl rfl (by kernel_rfl) (by kernel_rfl) rfl hS117 (Nat.le_refl _) rfl (by omega) fun v10 w31 _ hS118 => ?_
          refine ge_nil fun a hF => hKK _ _ (RS.of2 (l := [.loaded ⟨b1, 0, none⟩ (.slice A0 l0.length c0), .loaded ⟨b1, 0, none⟩ (.slice A0 l0.length c0)]) (by kernel_rfl) ⟨hS117.cell 5 rfl rfl, hS117.cell 5 rfl rfl, trivial⟩ ⟨hS118.cell 6 rfl rfl, hS118.cell 6 rfl rfl, trivial⟩) ?_ a hF
          refine go_alt2 (fun KK hKK => ?_) ?_
          · obtain ⟨Z5, cz5, rfl⟩ := hS118.open 0 rfl
            have hS119 := hS118.bring 2 rfl
            refine ge_set (b := b10) (j := 0) (cs := #[.slice none 0 0]) (t := 24) (vs := [(.slice Z5 (List.replicate l0.length (0 : Int)).length cz5)]) hS119 (by kernel_rfl) rfl rfl fun w32 hS120 => ?_
            have hS121 : St w0 w32 [Own.blk b10 (.cells #[(.slice Z5 (List.replicate l0.length (0 : Int)).length cz5)] 24 (0, 0)), Own.of (.slice Z5 (List.replicate l0.length (0 : Int)).length cz5) 3 (List.replicate l0.length (0 : Int)), Own.of v9 3 (List.replicate l0.length (0 : Int)), Own.blk b8 (.cells #[(.slice Z3 m3.length cz3), (.slice Z4 m4.length cz4)] 36 (0, 0)), Own.blk b3 (.cells #[.int .i64 0, .int .i64 0] 39 (0, 0)), Own.blk b2 (.cells #[.slice none 0 0, .slice none 0 0] 36 (0, 0)), Own.blk b1 (.cells #[.slice A0 l0.length c0] 49 (0, 0)), Own.of (.slice Z3 m3.length cz3) 3 m3, Own.of (.slice Z4 m4.length cz4) 3 m4, Own.map (κ := Int) (ν := Int) b5 mp3] := hS120
            refine ge_nil fun a hF => hKK _ _ (RS.of2 (l := [.loaded ⟨b1, 0, none⟩ (.slice A0 l0.length c0)]) (by kernel_rfl) ⟨hS118.cell 6 rfl rfl, trivial⟩ ⟨hS121.cell 6 rfl rfl, trivial⟩) ?_ a hF
            refine go2_batch [8] (ans := []) (vs := [(16, v9)]) (l := []) (by kernel_rfl) trivial mem_nil ?_
            have hS122 := hS121.bring 9 rfl
            have hS123 := hS122.bring 9 rfl
            have hS124 := hS123.bring 9 rfl
            have hS125 := hS124.bring 4 rfl
            have hS126 := hS125.bring 5 rfl
            have hS127 := hS126.bring 9 rfl
            have hS128 := hS127.bring 9 rfl
            have hS129 := hS128.bring 9 rfl
            have hS130 := hS129.bring 9 rfl
            have hS131 := hS130.bring 9 rfl
            obtain rfl := Option.some.inj h
            exact go_fin2 fun a hF => hQ _ _ _ (Outs.again ⟨b10, v9, (.slice Z5 (List.replicate l0.length (0 : Int)).length cz5), hS131, hF.weaken ⟨by kernel_rfl, by kernel_rfl, by kernel_rfl, by kernel_rfl, by kernel_rfl, by kernel_rfl, by kernel_rfl, by kernel_rfl, by kernel_rfl, trivial⟩⟩)
          exact go_nomore2
        exact go_nomore2
      exact go_nomore2
    exact go_nomore2
  · rw [if_neg hc14] at h
    cases h
abbrev redo_Play.A4 (K : Nat) (w0 : World) (l0 : List SJob) (A0 : Option Addr) (c0 : Nat) (x1 : Int) (l2 : List Int) (A2 : Option Addr) (c2 : Nat) (x3 : Int) (hR0 : RdL w0 A0 l0) (hL0 : l0.length ≤ c0) (hR2 : RdL w0 A2 l2) (hL2 : l2.length ≤ c2) (b1 : Nat) (b2 : Nat) (b3 : Nat) (r1 : SFault) (b4 : Nat) (hc1 : r1.Code = 0) (hc6 : ¬ ((l2.length : Int) > 4000)) (b5 : Nat) (mp3 : List (Int × Int)) (b8 : Nat) (m3 : List Int) (m4 : List Int) (Z3 : Option Addr) (cz3 : Nat) (Z4 : Option Addr) (cz4 : Nat) (b11 : Nat) (m7 : List Int) (m8 : List Int) (Z6 : Option Addr) (cz6 : Nat) (Z7 : Option Addr) (cz7 : Nat) : (Nat × (List Int) × (List Int)) → Act → World → Prop := fun (s : Nat × (List Int) × (List Int)) a w => St w0 w [Own.blk b11 (.cells #[(.slice Z7 s.2.1.length cz7)] 24 (0, 0)), Own.blk b8 (.cells #[(.slice Z3 m3.length cz3), (.slice Z4 s.2.2.length cz4)] 36 (0, 0)), Own.blk b3 (.cells #[.int .i64 0, .int .i64 0] 39 (0, 0)), Own.blk b2 (.cells #[.slice none 0 0, .slice none 0 0] 36 (0, 0)), Own.blk b1 (.cells #[.slice A0 l0.length c0] 49 (0, 0)), Own.of (.slice Z6 m7.length cz6) 3 m7, Own.of (.slice Z7 s.2.1.length cz7) 3 s.2.1, Own.of (.slice Z3 m3.length cz3) 3 m3, Own.of (.slice Z4 s.2.2.length cz4) 3 s.2.2, Own.map (κ := Int) (ν := Int) b5 mp3] ∧ Frm 175 a [(1, .int .i64 x1), (3, .int .i64 x3), (4, .pointer (some ⟨b1, 0, none⟩)), (8, .pointer (some ⟨b2, 0, none⟩)), (9, .pointer (some ⟨b3, 0, none⟩)), (11, .map (some b5)), (14, .pointer (some ⟨b8, 0, none⟩)), (15, .pointer (some ⟨b11, 0, none⟩)), (16, (.slice Z6 m7.length cz6)), (86, .slice A0 l0.length c0), (87, .int .i64 (l0.length : Int)), (88, .int .i64 (s.1 : Int))]
abbrev redo_Play.B4 (K : Nat) (w0 : World) (l0 : List SJob) (A0 : Option Addr) (c0 : Nat) (x1 : Int) (l2 : List Int) (A2 : Option Addr) (c2 : Nat) (x3 : Int) (hR0 : RdL w0 A0 l0) (hL0 : l0.length ≤ c0) (hR2 : RdL w0 A2 l2) (hL2 : l2.length ≤ c2) (b1 : Nat) (b2 : Nat) (b3 : Nat) (r1 : SFault) (b4 : Nat) (hc1 : r1.Code = 0) (hc6 : ¬ ((l2.length : Int) > 4000)) (b5 : Nat) (mp3 : List (Int × Int)) (b8 : Nat) (m3 : List Int) (m4 : List Int) (Z3 : Option Addr) (cz3 : Nat) (Z4 : Option Addr) (cz4 : Nat) (b11 : Nat) (m7 : List Int) (m8 : List Int) (Z6 : Option Addr) (cz6 : Nat) (Z7 : Option Addr) (cz7 : Nat) : (((List Int) × (List Int)) ⊕ (SPlayed × SFault)) → Exit → Act → World → Prop := Exits 2 (fun (s : (List Int) × (List Int)) a w => St w0 w [Own.blk b11 (.cells #[(.slice Z7 s.1.length cz7)] 24 (0, 0)), Own.blk b8 (.cells #[(.slice Z3 m3.length cz3), (.slice Z4 s.2.length cz4)] 36 (0, 0)), Own.blk b3 (.cells #[.int .i64 0, .int .i64 0] 39 (0, 0)), Own.blk b2 (.cells #[.slice none 0 0, .slice none 0 0] 36 (0, 0)), Own.blk b1 (.cells #[.slice A0 l0.length c0] 49 (0, 0)), Own.of (.slice Z6 m7.length cz6) 3 m7, Own.of (.slice Z7 s.1.length cz7) 3 s.1, Own.of (.slice Z3 m3.length cz3) 3 m3, Own.of (.slice Z4 s.2.length cz4) 3 s.2, Own.map (κ := Int) (ν := Int) b5 mp3] ∧ Frm 175 a [(1, .int .i64 x1), (3, .int .i64 x3), (4, .pointer (some ⟨b1, 0, none⟩)), (8, .pointer (some ⟨b2, 0, none⟩)), (9, .pointer (some ⟨b3, 0, none⟩)), (11, .map (some b5)), (14, .pointer (some ⟨b8, 0, none⟩)), (15, .pointer (some ⟨b11, 0, none⟩)), (16, (.slice Z6 m7.length cz6))]) (Rets Tryd.prog Tryd.f69 (redo_Play.Post w0))
theorem redo_Play_r4 (K : Nat) (w0 : World) (l0 : List SJob) (A0 : Option Addr) (c0 : Nat) (x1 : Int) (l2 : List Int) (A2 : Option Addr) (c2 : Nat) (x3 : Int) (hR0 : RdL w0 A0 l0) (hL0 : l0.length ≤ c0) (hR2 : RdL w0 A2 l2) (hL2 : l2.length ≤ c2) (b1 : Nat) (b2 : Nat) (b3 : Nat) (r1 : SFault) (b4 : Nat) (hc1 : r1.Code = 0) (hc6 : ¬ ((l2.length : Int) > 4000)) (b5 : Nat) (mp3 : List (Int × Int)) (b8 : Nat) (m3 : List Int) (m4 : List Int) (Z3 : Option Addr) (cz3 : Nat) (Z4 : Option Addr) (cz4 : Nat) (b11 : Nat) (m7 : List Int) (m8 : List Int) (Z6 : Option Addr) (cz6 : Nat) (Z7 : Option Addr) (cz7 : Nat) (s : Nat × (List Int) × (List Int)) (o : (Nat × (List Int) × (List Int)) ⊕ (((List Int) × (List Int)) ⊕ (SPlayed × SFault))) (h : redo_Play.r4 l0 s = some o) (a : Act) (w : World) (hA : redo_Play.A4 K w0 l0 A0 c0 x1 l2 A2 c2 x3 hR0 hL0 hR2 hL2 b1 b2 b3 r1 b4 hc1 hc6 b5 mp3 b8 m3 m4 Z3 cz3 Z4 cz4 b11 m7 m8 Z6 cz6 Z7 cz7 s a w) (Q : Exit → Act → World → Prop) (hQ : ∀ x a w, Outs (redo_Play.A4 K w0 l0 A0 c0 x1 l2 A2 c2 x3 hR0 hL0 hR2 hL2 b1 b2 b3 r1 b4 hc1 hc6 b5 mp3 b8 m3 m4 Z3 cz3 Z4 cz4 b11 m7 m8 Z6 cz6 Z7 cz7) (redo_Play.B4 K w0 l0 A0 c0 x1 l2 A2 c2 x3 hR0 hL0 hR2 hL2 b1 b2 b3 r1 b4 hc1 hc6 b5 mp3 b8 m3 m4 Z3 cz3 Z4 cz4 b11 m7 m8 Z6 cz6 Z7 cz7) o x a w → Q x a w) : (subF Tryd.f69 [1, 1, 1, 1, 1, 1, 1, 1, 0, 1, 0, 0]).wp Tryd.prog Q a w := by
  obtain ⟨i2, m9, m10⟩ := s
  obtain ⟨hS, hF⟩ := hA
  replace hS : St w0 w [Own.blk b11 (.cells #[(.slice Z7 m9.length cz7)] 24 (0, 0)), Own.blk b8 (.cells #[(.slice Z3 m3.length cz3), (.slice Z4 m10.length cz4)] 36 (0, 0)), Own.blk b3 (.cells #[.int .i64 0, .int .i64 0] 39 (0, 0)), Own.blk b2 (.cells #[.slice none 0 0, .slice none 0 0] 36 (0, 0)), Own.blk b1 (.cells #[.slice A0 l0.length c0] 49 (0, 0)), Own.of (.slice Z6 m7.length cz6) 3 m7, Own.of (.slice Z7 m9.length cz7) 3 m9, Own.of (.slice Z3 m3.length cz3) 3 m3, Own.of (.slice Z4 m10.length cz4) 3 m10, Own.map (κ := Int) (ν := Int) b5 mp3] := hS
  simp only [redo_Play.r4] at h
  refine (?_ : WE Tryd.prog 175 (subF Tryd.f69 [1, 1, 1, 1, 1, 1, 1, 1, 0, 1, 0, 0]) Q [(1, .int .i64 x1), (3, .int .i64 x3), (4, .pointer (some ⟨b1, 0, none⟩)), (8, .pointer (some ⟨b2, 0, none⟩)), (9, .pointer (some ⟨b3, 0, none⟩)), (11, .map (some b5)), (14, .pointer (some ⟨b8, 0, none⟩)), (15, .pointer (some ⟨b11, 0, none⟩)), (16, (.slice Z6 m7.length cz6)), (86, .slice A0 l0.length c0), (87, .int .i64 (l0.length : Int)), (88, .int .i64 (i2 : Int))] w) a hF
  clear hF a
  refine we_seq fun K28 hK28 => ?_
  refine we_region [(0, 0)] rfl ?_
  refine ge_batch [0] (ans := []) (vs := [(89, .bool (decide ((i2 : Int) < (l0.length : Int))))]) (l := []) (by kernel_rfl) trivial ?_
  refine ge_nil fun a hF => hK28 _ _ ?_ a hF
  refine we_seq fun K29 hK29 => ?_
  by_cases hc15 : (i2 : Int) < (l0.length : Int)
  · rw [if_pos hc15] at h
    refine we_known (t := 89) (b := decide ((i2 : Int) < (l0.length : Int))) (v := true) (by kernel_rfl) (decide_eq_true hc15) ?_
    refine we_true (by kernel_rfl) ?_
    refine we_skip fun a hF => hK29 _ _ ?_ a hF
    refine we_seq fun K30 hK30 => ?_
    refine we_block ?_
    refine we_seq fun K31 hK31 => ?_
    refine we_region [(0, 0), (1, 0), (2, 0), (3, 1), (4, 0), (5, 2)] rfl ?_
    refine ge_batch [0] (ans := []) (vs := [(90, .int .i64 (i2 : Int))]) (l := []) (by kernel_rfl) trivial ?_
    rcases hx10 : l0[i2]? with _ | e3
    · rw [hx10] at h; cases h
    rw [hx10] at h
    simp only [] at h
    refine ge_index (d := 91) (ty := 0) (t := 49) (el := 58) (sz := 5) (m := l0.length) (c := c0) (x := (.tmp 86)) (y := (.tmp 88)) (A := A0) (k' := .i64) (j := (i2 : Int)) (jn := i2) (b0 := blkOf A0) (o0 := offOf A0) (by kernel_rfl) (by kernel_rfl) (by kernel_rfl) (by kernel_rfl) (by kernel_rfl) ((hS.rd hR0).eqSome (pos_of_get hx10)) rfl (lt_of_get hx10) ?_
    refine ge_batch [2] (ans := [.val (.int .i64 e3.Task), .val (.int .i64 e3.At), .val (.int .i64 e3.C), .val (.int .i64 e3.Due), .val (.int .i64 e3.P)]) (vs := [(92, .agg #[.int .i64 e3.Task, .int .i64 e3.At, .int .i64 e3.C, .int .i64 e3.Due, .int .i64 e3.P])]) (l := [.loaded ⟨blkOf A0, offOf A0 + i2 * 5, none⟩ (.int .i64 e3.Task), .loaded ⟨blkOf A0, offOf A0 + i2 * 5 + 1, none⟩ (.int .i64 e3.At), .loaded ⟨blkOf A0, offOf A0 + i2 * 5 + 2, none⟩ (.int .i64 e3.C), .loaded ⟨blkOf A0, offOf A0 + i2 * 5 + 3, none⟩ (.int .i64 e3.Due), .loaded ⟨blkOf A0, offOf A0 + i2 * 5 + 4, none⟩ (.int .i64 e3.P)]) (by kernel_rfl) ⟨RdL.cell (j := 0) (hS.rd hR0) hx10 rfl, RdL.cell (j := 1) (hS.rd hR0) hx10 rfl, RdL.cell (j := 2) (hS.rd hR0) hx10 rfl, RdL.cell (j := 3) (hS.rd hR0) hx10 rfl, RdL.cell (j := 4) (hS.rd hR0) hx10 rfl, trivial⟩ ?_
    refine ge_new (d := some 18) (o := .cells #[.int .i64 0, .int .i64 0, .int .i64 0, .int .i64 0, .int .i64 0] 58) (v := fun b => .pointer (some ⟨b, 0, none⟩)) hS (fun b => by kernel_rfl) fun b12 w34 hx11 hS143 => ?_
    refine ge_batch [4] (ans := []) (vs := [(17, .int .i64 (i2 : Int))]) (l := []) (by kernel_rfl) trivial ?_
    refine ge_set (b := b12) (j := 0) (cs := #[.int .i64 0, .int .i64 0, .int .i64 0, .int .i64 0, .int .i64 0]) (t := 58) (vs := [.int .i64 e3.Task, .int .i64 e3.At, .int .i64 e3.C, .int .i64 e3.Due, .int .i64 e3.P]) hS143 (by kernel_rfl) rfl rfl fun w35 hS144 => ?_
    have hS145 : St w0 w35 [Own.blk b12 (.cells #[.int .i64 e3.Task, .int .i64 e3.At, .int .i64 e3.C, .int .i64 e3.Due, .int .i64 e3.P] 58 (0, 0)), Own.blk b11 (.cells #[(.slice Z7 m9.length cz7)] 24 (0, 0)), Own.blk b8 (.cells #[(.slice Z3 m3.length cz3), (.slice Z4 m10.length cz4)] 36 (0, 0)), Own.blk b3 (.cells #[.int .i64 0, .int .i64 0] 39 (0, 0)), Own.blk b2 (.cells #[.slice none 0 0, .slice none 0 0] 36 (0, 0)), Own.blk b1 (.cells #[.slice A0 l0.length c0] 49 (0, 0)), Own.of (.slice Z6 m7.length cz6) 3 m7, Own.of (.slice Z7 m9.length cz7) 3 m9, Own.of (.slice Z3 m3.length cz3) 3 m3, Own.of (.slice Z4 m10.length cz4) 3 m10, Own.map (κ := Int) (ν := Int) b5 mp3] := hS144
    refine ge_nil fun a hF => hK31 _ _ ?_ a hF
    refine we_orders2 (by kernel_rfl) [(0, [⟨b11, 0, none⟩]), (3, [⟨b8, 1, none⟩]), (6, [⟨b12, 2, none⟩])] (.vals [0] (.vals [1] (.vals [2] (.vals [3] (.vals [4] (.vals [5] (.vals [6] (.vals [7] (.alt 8 2 (.vals [9] (.alt 10 2 .fin .nomore)) .nomore))))))))) (by kernel_rfl) ?_
    have hS146 := hS145.drew
    refine go2_batch [0] (ans := [.val ((.slice Z7 m9.length cz7))]) (vs := [(93, (.slice Z7 m9.length cz7))]) (l := [.loaded ⟨b11, 0, none⟩ ((.slice Z7 m9.length cz7))]) (by kernel_rfl) ⟨hS146.cell 1 rfl rfl, trivial⟩ (mem_one (by kernel_rfl)) ?_
    refine go2_batch [1, 2] (ans := []) (vs := [(95, .pointer (some ⟨b8, 1, none⟩)), (94, .int .i64 (i2 : Int))]) (l := []) (by kernel_rfl) trivial mem_nil ?_
    refine go2_batch [3] (ans := [.val ((.slice Z4 m10.length cz4))]) (vs := [(96, (.slice Z4 m10.length cz4))]) (l := [.loaded ⟨b8, 1, none⟩ ((.slice Z4 m10.length cz4))]) (by kernel_rfl) ⟨hS146.cell 2 rfl rfl, trivial⟩ (mem_one (by kernel_rfl)) ?_
    refine go2_batch [4, 5] (ans := []) (vs := [(98, .pointer (some ⟨b12, 2, none⟩)), (97, .int .i64 (i2 : Int))]) (l := []) (by kernel_rfl) trivial mem_nil ?_
    refine go2_batch [6] (ans := [.val (.int .i64 e3.C)]) (vs := [(99, .int .i64 e3.C)]) (l := [.loaded ⟨b12, 2, none⟩ (.int .i64 e3.C)]) (by kernel_rfl) ⟨hS146.cell 0 rfl rfl, trivial⟩ (mem_one (by kernel_rfl)) ?_
    rcases hx12 : m9[i2]? with _ | e4
    · rw [hx12] at h; cases h
    rw [hx12] at h
    simp only [] at h
    refine go2_index (d := 100) (ty := 0) (t := 24) (el := 3) (sz := 1) (m := m9.length) (c := cz7) (x := (.tmp 93)) (y := (.tmp 94)) (A := Z7) (k' := .i64) (j := (i2 : Int)) (jn := i2) (b0 := blkOf Z7) (o0 := offOf Z7) (by kernel_rfl) (by kernel_rfl) (by kernel_rfl) (by kernel_rfl) (by kernel_rfl) ((hS146.rdAt 7 rfl).eqSome (pos_of_get hx12)) rfl (lt_of_get hx12) ?_
    refine go_alt2 (fun KK hKK => ?_) ?_
    · have hS147 := hS146.bring 7 rfl
      refine ge_seti (α := Int) (A := Z7) (nn := m9.length) (c := cz7) (t := 3) (l := m9) (x := e4) (x' := e3.C) (jn := i2) (j := 0) (vs := [.int .i64 e3.C]) (l' := [.stored ⟨blkOf Z7, offOf Z7 + i2 * 1, none⟩ (.int .i64 e3.C)]) hS147 (by kernel_rfl) (by kernel_rfl) hx12 rfl rfl rfl fun w36 hS148 => ?_
      have hS149 : St w0 w36 [Own.of (.slice Z7 m9.length cz7) 3 (m9.set i2 e3.C), Own.blk b12 (.cells #[.int .i64 e3.Task, .int .i64 e3.At, .int .i64 e3.C, .int .i64 e3.Due, .int .i64 e3.P] 58 (0, 0)), Own.blk b11 (.cells #[(.slice Z7 m9.length cz7)] 24 (0, 0)), Own.blk b8 (.cells #[(.slice Z3 m3.length cz3), (.slice Z4 m10.length cz4)] 36 (0, 0)), Own.blk b3 (.cells #[.int .i64 0, .int .i64 0] 39 (0, 0)), Own.blk b2 (.cells #[.slice none 0 0, .slice none 0 0] 36 (0, 0)), Own.blk b1 (.cells #[.slice A0 l0.length c0] 49 (0, 0)), Own.of (.slice Z6 m7.length cz6) 3 m7, Own.of (.slice Z3 m3.length cz3) 3 m3, Own.of (.slice Z4 m10.length cz4) 3 m10, Own.map (κ := Int) (ν := Int) b5 mp3] := hS148
      have hE1 : m9.length = (m9.set i2 e3.C).length := hS149.lenAt 0 rfl
      have hS150 : St w0 w36 [Own.of (.slice Z7 (m9.set i2 e3.C).length cz7) 3 (m9.set i2 e3.C), Own.blk b12 (.cells #[.int .i64 e3.Task, .int .i64 e3.At, .int .i64 e3.C, .int .i64 e3.Due, .int .i64 e3.P] 58 (0, 0)), Own.blk b11 (.cells #[(.slice Z7 (m9.set i2 e3.C).length cz7)] 24 (0, 0)), Own.blk b8 (.cells #[(.slice Z3 m3.length cz3), (.slice Z4 m10.length cz4)] 36 (0, 0)), Own.blk b3 (.cells #[.int .i64 0, .int .i64 0] 39 (0, 0)), Own.blk b2 (.cells #[.slice none 0 0, .slice none 0 0] 36 (0, 0)), Own.blk b1 (.cells #[.slice A0 l0.length c0] 49 (0, 0)), Own.of (.slice Z6 m7.length cz6) 3 m7, Own.of (.slice Z3 m3.length cz3) 3 m3, Own.of (.slice Z4 m10.length cz4) 3 m10, Own.map (κ := Int) (ν := Int) b5 mp3] := by rw [← hE1]; exact hS149
      refine ge_same (t := 93) (v := (.slice Z7 m9.length cz7)) (v' := (.slice Z7 (m9.set i2 e3.C).length cz7)) (by kernel_rfl) (by rw [hE1]) ?_
      refine ge_nil fun a hF => hKK _ _ (RS.of2 (l := [.loaded ⟨b8, 1, none⟩ ((.slice Z4 m10.length cz4))]) (by kernel_rfl) ⟨hS146.cell 2 rfl rfl, trivial⟩ ⟨hS150.cell 3 rfl rfl, trivial⟩) ?_ a hF
      rcases hx13 : m10[i2]? with _ | e5
      · rw [hx13] at h; cases h
      rw [hx13] at h
      simp only [] at h
      refine go2_index (d := 101) (ty := 0) (t := 24) (el := 3) (sz := 1) (m := m10.length) (c := cz4) (x := (.tmp 96)) (y := (.tmp 97)) (A := Z4) (k' := .i64) (j := (i2 : Int)) (jn := i2) (b0 := blkOf Z4) (o0 := offOf Z4) (by kernel_rfl) (by kernel_rfl) (by kernel_rfl) (by kernel_rfl) (by kernel_rfl) ((hS150.rdAt 9 rfl).eqSome (pos_of_get hx13)) rfl (lt_of_get hx13) ?_
      refine go_alt2 (fun KK hKK => ?_) ?_
      · have hS151 := hS150.bring 9 rfl
        refine ge_seti (α := Int) (A := Z4) (nn := m10.length) (c := cz4) (t := 3) (l := m10) (x := e5) (x' := (-1)) (jn := i2) (j := 0) (vs := [.int .i64 (-1)]) (l' := [.stored ⟨blkOf Z4, offOf Z4 + i2 * 1, none⟩ (.int .i64 (-1))]) hS151 (by kernel_rfl) (by kernel_rfl) hx13 rfl rfl rfl fun w37 hS152 => ?_
        have hS153 : St w0 w37 [Own.of (.slice Z4 m10.length cz4) 3 (m10.set i2 (-1)), Own.of (.slice Z7 (m9.set i2 e3.C).length cz7) 3 (m9.set i2 e3.C), Own.blk b12 (.cells #[.int .i64 e3.Task, .int .i64 e3.At, .int .i64 e3.C, .int .i64 e3.Due, .int .i64 e3.P] 58 (0, 0)), Own.blk b11 (.cells #[(.slice Z7 (m9.set i2 e3.C).length cz7)] 24 (0, 0)), Own.blk b8 (.cells #[(.slice Z3 m3.length cz3), (.slice Z4 m10.length cz4)] 36 (0, 0)), Own.blk b3 (.cells #[.int .i64 0, .int .i64 0] 39 (0, 0)), Own.blk b2 (.cells #[.slice none 0 0, .slice none 0 0] 36 (0, 0)), Own.blk b1 (.cells #[.slice A0 l0.length c0] 49 (0, 0)), Own.of (.slice Z6 m7.length cz6) 3 m7, Own.of (.slice Z3 m3.length cz3) 3 m3, Own.map (κ := Int) (ν := Int) b5 mp3] := hS152
        have hE2 : m10.length = (m10.set i2 (-1)).length := hS153.lenAt 0 rfl
        have hS154 : St w0 w37 [Own.of (.slice Z4 (m10.set i2 (-1)).length cz4) 3 (m10.set i2 (-1)), Own.of (.slice Z7 (m9.set i2 e3.C).length cz7) 3 (m9.set i2 e3.C), Own.blk b12 (.cells #[.int .i64 e3.Task, .int .i64 e3.At, .int .i64 e3.C, .int .i64 e3.Due, .int .i64 e3.P] 58 (0, 0)), Own.blk b11 (.cells #[(.slice Z7 (m9.set i2 e3.C).length cz7)] 24 (0, 0)), Own.blk b8 (.cells #[(.slice Z3 m3.length cz3), (.slice Z4 (m10.set i2 (-1)).length cz4)] 36 (0, 0)), Own.blk b3 (.cells #[.int .i64 0, .int .i64 0] 39 (0, 0)), Own.blk b2 (.cells #[.slice none 0 0, .slice none 0 0] 36 (0, 0)), Own.blk b1 (.cells #[.slice A0 l0.length c0] 49 (0, 0)), Own.of (.slice Z6 m7.length cz6) 3 m7, Own.of (.slice Z3 m3.length cz3) 3 m3, Own.map (κ := Int) (ν := Int) b5 mp3] := by rw [← hE2]; exact hS153
        refine ge_same (t := 96) (v := (.slice Z4 m10.length cz4)) (v' := (.slice Z4 (m10.set i2 (-1)).length cz4)) (by kernel_rfl) (by rw [hE2]) ?_
        refine ge_nil fun a hF => hKK _ _ (RS.of2 (l := []) (by kernel_rfl) trivial trivial) ?_ a hF
        refine go_fin2 fun a hF => hK30 _ _ ?_ a hF
        refine we_region [(0, 0), (1, 0)] rfl ?_
        refine ge_addn (d := 102) (ty := 3) (x := (.tmp 88)) (y := (.const (.int .i64 1))) (t := 3) (t2 := 3) (k := .i64) (m := i2) (by kernel_rfl) (by kernel_rfl) (by kernel_rfl) (by have h0 := hR0.small; omega) ?_
        refine ge_batch [1] (ans := []) (vs := [(88, .int .i64 ((i2 + 1 : Nat) : Int))]) (l := []) (by kernel_rfl) trivial ?_
        have hS155 := hS154.bring 10 rfl
        have hS156 := hS155.bring 1 rfl
        have hS157 := hS156.bring 10 rfl
        have hS158 := hS157.bring 3 rfl
        have hS159 := hS158.bring 10 rfl
        have hS160 := hS159.bring 10 rfl
        have hS161 := hS160.bring 10 rfl
        have hS162 := hS161.bring 10 rfl
        have hS163 := hS162.bring 10 rfl
        have hS164 := hS163.bring 10 rfl
        have hS165 := hS164.takeN 10
        obtain rfl := Option.some.inj h
        exact ge_nil fun a hF => hQ _ _ _ (Outs.again ⟨hS165, hF.weaken ⟨by kernel_rfl, by kernel_rfl, by kernel_rfl, by kernel_rfl, by kernel_rfl, by kernel_rfl, by kernel_rfl, by kernel_rfl, by kernel_rfl, by kernel_rfl, by kernel_rfl, by kernel_rfl, trivial⟩⟩)
      exact go_nomore2
    exact go_nomore2
  · rw [if_neg hc15] at h
    refine we_known (t := 89) (b := decide ((i2 : Int) < (l0.length : Int))) (v := false) (by kernel_rfl) (decide_eq_false hc15) ?_
    refine we_false (by kernel_rfl) ?_
    have hS166 := hS.bring 9 rfl
    have hS167 := hS166.bring 9 rfl
    have hS168 := hS167.bring 9 rfl
    have hS169 := hS168.bring 9 rfl
    have hS170 := hS169.bring 9 rfl
    have hS171 := hS170.bring 9 rfl
    have hS172 := hS171.bring 9 rfl
    have hS173 := hS172.bring 9 rfl
    have hS174 := hS173.bring 9 rfl
    have hS175 := hS174.bring 9 rfl
    obtain rfl := Option.some.inj h
    exact we_exit fun a hF => hQ _ _ _ (Outs.out nofun (Exits.here ⟨hS175, hF.weaken ⟨by kernel_rfl, by kernel_rfl, by kernel_rfl, by kernel_rfl, by kernel_rfl, by kernel_rfl, by kernel_rfl, by kernel_rfl, by kernel_rfl, trivial⟩⟩))
abbrev redo_Play.A6 (K : Nat) (w0 : World) (l0 : List SJob) (A0 : Option Addr) (c0 : Nat) (x1 : Int) (l2 : List Int) (A2 : Option Addr) (c2 : Nat) (x3 : Int) (hR0 : RdL w0 A0 l0) (hL0 : l0.length ≤ c0) (hR2 : RdL w0 A2 l2) (hL2 : l2.length ≤ c2) (b1 : Nat) (b2 : Nat) (b3 : Nat) (r1 : SFault) (b4 : Nat) (hc1 : r1.Code = 0) (hc6 : ¬ ((l2.length : Int) > 4000)) (b5 : Nat) (mp3 : List (Int × Int)) (b8 : Nat) (m3 : List Int) (m4 : List Int) (Z3 : Option Addr) (cz3 : Nat) (Z4 : Option Addr) (cz4 : Nat) (b11 : Nat) (m7 : List Int) (m8 : List Int) (Z6 : Option Addr) (cz6 : Nat) (Z7 : Option Addr) (cz7 : Nat) (m13 : List Int) (m14 : List Int) (z1 : Int) (m15 : List Int) (m16 : List Int) (m17 : List Int) (m18 : List Int) (hc16 : z1 < x3) (b13 : Nat) (r2 : Int) (hc17 : 0 ≤ z1) (e6 : Int) (hx15 : m17[(z1).toNat]? = some e6) (hc18 : ¬ (r2 < 0)) (hc19 : ((mget mp3 z1).getD 0) = 1) : ((List Int) × (List Int)) → Act → World → Prop := fun (s : (List Int) × (List Int)) a w => St w0 w [Own.blk b11 (.cells #[(.slice Z7 s.2.length cz7)] 24 (0, 0)), Own.blk b8 (.cells #[(.slice Z3 (m17.set ((z1).toNat) r2).length cz3), (.slice Z4 m18.length cz4)] 36 (0, 0)), Own.blk b3 (.cells #[.int .i64 0, .int .i64 0] 39 (0, 0)), Own.blk b2 (.cells #[.slice none 0 0, .slice none 0 0] 36 (0, 0)), Own.blk b1 (.cells #[.slice A0 l0.length c0] 49 (0, 0)), Own.of (.slice Z6 s.1.length cz6) 3 s.1, Own.of (.slice Z7 s.2.length cz7) 3 s.2, Own.of (.slice Z3 (m17.set ((z1).toNat) r2).length cz3) 3 (m17.set ((z1).toNat) r2), Own.of (.slice Z4 m18.length cz4) 3 m18, Own.map (κ := Int) (ν := Int) b5 mp3] ∧ Frm 175 a [(1, .int .i64 x1), (4, .pointer (some ⟨b1, 0, none⟩)), (8, .pointer (some ⟨b2, 0, none⟩)), (9, .pointer (some ⟨b3, 0, none⟩)), (11, .map (some b5)), (14, .pointer (some ⟨b8, 0, none⟩)), (15, .pointer (some ⟨b11, 0, none⟩)), (16, (.slice Z6 s.1.length cz6)), (103, .int .i64 x3), (104, .int .i64 z1)]
abbrev redo_Play.B6 (K : Nat) (w0 : World) (l0 : List SJob) (A0 : Option Addr) (c0 : Nat) (x1 : Int) (l2 : List Int) (A2 : Option Addr) (c2 : Nat) (x3 : Int) (hR0 : RdL w0 A0 l0) (hL0 : l0.length ≤ c0) (hR2 : RdL w0 A2 l2) (hL2 : l2.length ≤ c2) (b1 : Nat) (b2 : Nat) (b3 : Nat) (r1 : SFault) (b4 : Nat) (hc1 : r1.Code = 0) (hc6 : ¬ ((l2.length : Int) > 4000)) (b5 : Nat) (mp3 : List (Int × Int)) (b8 : Nat) (m3 : List Int) (m4 : List Int) (Z3 : Option Addr) (cz3 : Nat) (Z4 : Option Addr) (cz4 : Nat) (b11 : Nat) (m7 : List Int) (m8 : List Int) (Z6 : Option Addr) (cz6 : Nat) (Z7 : Option Addr) (cz7 : Nat) (m13 : List Int) (m14 : List Int) (z1 : Int) (m15 : List Int) (m16 : List Int) (m17 : List Int) (m18 : List Int) (hc16 : z1 < x3) (b13 : Nat) (r2 : Int) (hc17 : 0 ≤ z1) (e6 : Int) (hx15 : m17[(z1).toNat]? = some e6) (hc18 : ¬ (r2 < 0)) (hc19 : ((mget mp3 z1).getD 0) = 1) : (SPlayed × SFault) → Exit → Act → World → Prop := Rets Tryd.prog Tryd.f69 (redo_Play.Post w0)
theorem redo_Play_p6 (K : Nat) (w0 : World) (l0 : List SJob) (A0 : Option Addr) (c0 : Nat) (x1 : Int) (l2 : List Int) (A2 : Option Addr) (c2 : Nat) (x3 : Int) (hR0 : RdL w0 A0 l0) (hL0 : l0.length ≤ c0) (hR2 : RdL w0 A2 l2) (hL2 : l2.length ≤ c2) (b1 : Nat) (b2 : Nat) (b3 : Nat) (r1 : SFault) (b4 : Nat) (hc1 : r1.Code = 0) (hc6 : ¬ ((l2.length : Int) > 4000)) (b5 : Nat) (mp3 : List (Int × Int)) (b8 : Nat) (m3 : List Int) (m4 : List Int) (Z3 : Option Addr) (cz3 : Nat) (Z4 : Option Addr) (cz4 : Nat) (b11 : Nat) (m7 : List Int) (m8 : List Int) (Z6 : Option Addr) (cz6 : Nat) (Z7 : Option Addr) (cz7 : Nat) (m13 : List Int) (m14 : List Int) (z1 : Int) (m15 : List Int) (m16 : List Int) (m17 : List Int) (m18 : List Int) (hc16 : z1 < x3) (b13 : Nat) (r2 : Int) (hc17 : 0 ≤ z1) (e6 : Int) (hx15 : m17[(z1).toNat]? = some e6) (hc18 : ¬ (r2 < 0)) (hc19 : ((mget mp3 z1).getD 0) = 1) (o : ((List Int) × (List Int)) ⊕ (SPlayed × SFault)) (h : redo_Play.p6 m15 m16 r2 = some o) (w : World) (hS : St w0 w [Own.of (.slice Z3 (m17.set ((z1).toNat) r2).length cz3) 3 (m17.set ((z1).toNat) r2), Own.blk b13 (.cells #[.int .i64 z1] 3 (0, 0)), Own.blk b11 (.cells #[(.slice Z7 m16.length cz7)] 24 (0, 0)), Own.blk b8 (.cells #[(.slice Z3 (m17.set ((z1).toNat) r2).length cz3), (.slice Z4 m18.length cz4)] 36 (0, 0)), Own.blk b3 (.cells #[.int .i64 0, .int .i64 0] 39 (0, 0)), Own.blk b2 (.cells #[.slice none 0 0, .slice none 0 0] 36 (0, 0)), Own.blk b1 (.cells #[.slice A0 l0.length c0] 49 (0, 0)), Own.of (.slice Z6 m15.length cz6) 3 m15, Own.of (.slice Z7 m16.length cz7) 3 m16, Own.of (.slice Z4 m18.length cz4) 3 m18, Own.map (κ := Int) (ν := Int) b5 mp3]) (Q : Exit → Act → World → Prop) (hQ : ∀ x a w, Outs (redo_Play.A6 K w0 l0 A0 c0 x1 l2 A2 c2 x3 hR0 hL0 hR2 hL2 b1 b2 b3 r1 b4 hc1 hc6 b5 mp3 b8 m3 m4 Z3 cz3 Z4 cz4 b11 m7 m8 Z6 cz6 Z7 cz7 m13 m14 z1 m15 m16 m17 m18 hc16 b13 r2 hc17 e6 hx15 hc18 hc19) (redo_Play.B6 K w0 l0 A0 c0 x1 l2 A2 c2 x3 hR0 hL0 hR2 hL2 b1 b2 b3 r1 b4 hc1 hc6 b5 mp3 b8 m3 m4 Z3 cz3 Z4 cz4 b11 m7 m8 Z6 cz6 Z7 cz7 m13 m14 z1 m15 m16 m17 m18 hc16 b13 r2 hc17 e6 hx15 hc18 hc19) o x a w → Q x a w) : WE Tryd.prog 175 (subF Tryd.f69 [1, 1, 1, 1, 1, 1, 1, 1, 1, 0, 1, 0, 0, 1, 1, 0, 0, 1, 1, 1, 1, 0, 1, 0, 0]) Q [(1, .int .i64 x1), (4, .pointer (some ⟨b1, 0, none⟩)), (8, .pointer (some ⟨b2, 0, none⟩)), (9, .pointer (some ⟨b3, 0, none⟩)), (11, .map (some b5)), (14, .pointer (some ⟨b8, 0, none⟩)), (15, .pointer (some ⟨b11, 0, none⟩)), (16, (.slice Z6 m15.length cz6)), (19, .pointer (some ⟨b13, 0, none⟩)), (20, .int .i64 r2), (103, .int .i64 x3), (104, .int .i64 z1), (105, .bool true), (106, .int .i64 z1), (107, .slice A0 l0.length c0), (108, .func (.func 131) #[] #[.pointer (some ⟨b1, 0, none⟩), .pointer (some ⟨b13, 0, none⟩), .pointer (some ⟨b11, 0, none⟩)]), (109, .int .i64 r2), (110, .pointer (some ⟨b8, 0, none⟩)), (111, (.slice Z3 (m17.set ((z1).toNat) r2).length cz3)), (112, .int .i64 z1), (113, .int .i64 r2), (114, .pointer (some ⟨blkOf Z3, offOf Z3 + (z1).toNat * 1, none⟩)), (115, .int .i64 r2), (116, .bool false), (117, .map (some b5)), (118, .int .i64 z1), (119, .int .i64 ((mget mp3 z1).getD 0)), (120, .bool true)] w := by
  simp only [redo_Play.p6] at h
  refine we_orders2 (by kernel_rfl) [(0, [⟨b11, 0, none⟩]), (4, [⟨b11, 0, none⟩]), (7, [⟨blkOf Z7, offOf Z7 + ((r2).toNat) * 1, none⟩]), (11, [⟨blkOf Z6, offOf Z6 + ((r2).toNat) * 1, none⟩])] (.vals [0] (.vals [1] (.vals [2] (.vals [3] (.vals [4] (.vals [5] (.vals [6] (.vals [7] (.vals [8] (.vals [9] (.vals [10] (.vals [11] (.vals [12] (.vals [13] (.alt 14 2 (.vals [15] (.alt 16 2 .fin .nomore)) .nomore))))))))))))))) (by kernel_rfl) ?_
  have hS207 := hS.drew
  refine go2_batch [0] (ans := [.val ((.slice Z7 m16.length cz7))]) (vs := [(121, (.slice Z7 m16.length cz7))]) (l := [.loaded ⟨b11, 0, none⟩ ((.slice Z7 m16.length cz7))]) (by kernel_rfl) ⟨hS207.cell 2 rfl rfl, trivial⟩ (mem_one (by kernel_rfl)) ?_
  refine go2_batch [1, 2, 3] (ans := []) (vs := [(124, .int .i64 r2), (123, (.slice Z6 m15.length cz6)), (122, .int .i64 r2)]) (l := []) (by kernel_rfl) trivial mem_nil ?_
  refine go2_batch [4] (ans := [.val ((.slice Z7 m16.length cz7))]) (vs := [(125, (.slice Z7 m16.length cz7))]) (l := [.loaded ⟨b11, 0, none⟩ ((.slice Z7 m16.length cz7))]) (by kernel_rfl) ⟨hS207.cell 2 rfl rfl, trivial⟩ (mem_one (by kernel_rfl)) ?_
  refine go2_batch [5] (ans := []) (vs := [(126, .int .i64 r2)]) (l := []) (by kernel_rfl) trivial mem_nil ?_
  by_cases hc20 : 0 ≤ r2
  · rw [if_pos hc20] at h
    rcases hx16 : m16[(r2).toNat]? with _ | e7
    · rw [hx16] at h; cases h
    rw [hx16] at h
    simp only [] at h
    refine go2_index (d := 127) (ty := 0) (t := 24) (el := 3) (sz := 1) (m := m16.length) (c := cz7) (x := (.tmp 125)) (y := (.tmp 126)) (A := Z7) (k' := .i64) (j := r2) (jn := ((r2).toNat)) (b0 := blkOf Z7) (o0 := offOf Z7) (by kernel_rfl) (by kernel_rfl) (by kernel_rfl) (by kernel_rfl) (by kernel_rfl) ((hS207.rdAt 8 rfl).eqSome (pos_of_get hx16)) (Int.toNat_of_nonneg hc20).symm (lt_of_get hx16) ?_
    refine go2_batch [7] (ans := [.val (.int .i64 e7)]) (vs := [(128, .int .i64 e7)]) (l := [.loaded ⟨blkOf Z7, offOf Z7 + ((r2).toNat) * 1, none⟩ (.int .i64 e7)]) (by kernel_rfl) ⟨RdL.cell (j := 0) (hS207.rdAt 8 rfl) hx16 rfl, trivial⟩ (mem_one (by kernel_rfl)) ?_
    refine go2_batch [8, 9] (ans := []) (vs := [(130, .int .i64 r2), (129, (.slice Z6 m15.length cz6))]) (l := []) (by kernel_rfl) trivial mem_nil ?_
    rcases hx17 : m15[(r2).toNat]? with _ | e8
    · rw [hx17] at h; cases h
    rw [hx17] at h
    simp only [] at h
    refine go2_index (d := 131) (ty := 0) (t := 24) (el := 3) (sz := 1) (m := m15.length) (c := cz6) (x := (.tmp 129)) (y := (.tmp 130)) (A := Z6) (k' := .i64) (j := r2) (jn := ((r2).toNat)) (b0 := blkOf Z6) (o0 := offOf Z6) (by kernel_rfl) (by kernel_rfl) (by kernel_rfl) (by kernel_rfl) (by kernel_rfl) ((hS207.rdAt 7 rfl).eqSome (pos_of_get hx17)) (Int.toNat_of_nonneg hc20).symm (lt_of_get hx17) ?_
    refine go2_batch [11] (ans := [.val (.int .i64 e8)]) (vs := [(132, .int .i64 e8)]) (l := [.loaded ⟨blkOf Z6, offOf Z6 + ((r2).toNat) * 1, none⟩ (.int .i64 e8)]) (by kernel_rfl) ⟨RdL.cell (j := 0) (hS207.rdAt 7 rfl) hx17 rfl, trivial⟩ (mem_one (by kernel_rfl)) ?_
    refine go2_batch [12] (ans := []) (vs := [(133, .int .i64 (IntKind.i64.wrap (e7 + e8)))]) (l := []) (by kernel_rfl) trivial mem_nil ?_
    refine go2_index (d := 134) (ty := 0) (t := 24) (el := 3) (sz := 1) (m := m16.length) (c := cz7) (x := (.tmp 121)) (y := (.tmp 122)) (A := Z7) (k' := .i64) (j := r2) (jn := ((r2).toNat)) (b0 := blkOf Z7) (o0 := offOf Z7) (by kernel_rfl) (by kernel_rfl) (by kernel_rfl) (by kernel_rfl) (by kernel_rfl) ((hS207.rdAt 8 rfl).eqSome (pos_of_get hx16)) (Int.toNat_of_nonneg hc20).symm (lt_of_get hx16) ?_
    refine go_alt2 (fun KK hKK => ?_) ?_
    · have hS208 := hS207.bring 8 rfl
      refine ge_seti (α := Int) (A := Z7) (nn := m16.length) (c := cz7) (t := 3) (l := m16) (x := e7) (x' := (IntKind.i64.wrap (e7 + e8))) (jn := ((r2).toNat)) (j := 0) (vs := [.int .i64 (IntKind.i64.wrap (e7 + e8))]) (l' := [.stored ⟨blkOf Z7, offOf Z7 + ((r2).toNat) * 1, none⟩ (.int .i64 (IntKind.i64.wrap (e7 + e8)))]) hS208 (by kernel_rfl) (by kernel_rfl) hx16 rfl rfl rfl fun w43 hS209 => ?_
      have hS210 : St w0 w43 [Own.of (.slice Z7 m16.length cz7) 3 (m16.set ((r2).toNat) (IntKind.i64.wrap (e7 + e8))), Own.of (.slice Z3 (m17.set ((z1).toNat) r2).length cz3) 3 (m17.set ((z1).toNat) r2), Own.blk b13 (.cells #[.int .i64 z1] 3 (0, 0)), Own.blk b11 (.cells #[(.slice Z7 m16.length cz7)] 24 (0, 0)), Own.blk b8 (.cells #[(.slice Z3 (m17.set ((z1).toNat) r2).length cz3), (.slice Z4 m18.length cz4)] 36 (0, 0)), Own.blk b3 (.cells #[.int .i64 0, .int .i64 0] 39 (0, 0)), Own.blk b2 (.cells #[.slice none 0 0, .slice none 0 0] 36 (0, 0)), Own.blk b1 (.cells #[.slice A0 l0.length c0] 49 (0, 0)), Own.of (.slice Z6 m15.length cz6) 3 m15, Own.of (.slice Z4 m18.length cz4) 3 m18, Own.map (κ := Int) (ν := Int) b5 mp3] := hS209
      have hE4 : m16.length = (m16.set ((r2).toNat) (IntKind.i64.wrap (e7 + e8))).length := hS210.lenAt 0 rfl
      have hS211 : St w0 w43 [Own.of (.slice Z7 (m16.set ((r2).toNat) (IntKind.i64.wrap (e7 + e8))).length cz7) 3 (m16.set ((r2).toNat) (IntKind.i64.wrap (e7 + e8))), Own.of (.slice Z3 (m17.set ((z1).toNat) r2).length cz3) 3 (m17.set ((z1).toNat) r2), Own.blk b13 (.cells #[.int .i64 z1] 3 (0, 0)), Own.blk b11 (.cells #[(.slice Z7 (m16.set ((r2).toNat) (IntKind.i64.wrap (e7 + e8))).length cz7)] 24 (0, 0)), Own.blk b8 (.cells #[(.slice Z3 (m17.set ((z1).toNat) r2).length cz3), (.slice Z4 m18.length cz4)] 36 (0, 0)), Own.blk b3 (.cells #[.int .i64 0, .int .i64 0] 39 (0, 0)), Own.blk b2 (.cells #[.slice none 0 0, .slice none 0 0] 36 (0, 0)), Own.blk b1 (.cells #[.slice A0 l0.length c0] 49 (0, 0)), Own.of (.slice Z6 m15.length cz6) 3 m15, Own.of (.slice Z4 m18.length cz4) 3 m18, Own.map (κ := Int) (ν := Int) b5 mp3] := by rw [← hE4]; exact hS210
      refine ge_same (t := 121) (v := (.slice Z7 m16.length cz7)) (v' := (.slice Z7 (m16.set ((r2).toNat) (IntKind.i64.wrap (e7 + e8))).length cz7)) (by kernel_rfl) (by rw [hE4]) ?_
      refine ge_same (t := 125) (v := (.slice Z7 m16.length cz7)) (v' := (.slice Z7 (m16.set ((r2).toNat) (IntKind.i64.wrap (e7 + e8))).length cz7)) (by kernel_rfl) (by rw [hE4]) ?_
      refine ge_nil fun a hF => hKK _ _ (RS.of2 (l := []) (by kernel_rfl) trivial trivial) ?_ a hF
      refine go2_index (d := 135) (ty := 0) (t := 24) (el := 3) (sz := 1) (m := m15.length) (c := cz6) (x := (.tmp 123)) (y := (.tmp 124)) (A := Z6) (k' := .i64) (j := r2) (jn := ((r2).toNat)) (b0 := blkOf Z6) (o0 := offOf Z6) (by kernel_rfl) (by kernel_rfl) (by kernel_rfl) (by kernel_rfl) (by kernel_rfl) ((hS211.rdAt 8 rfl).eqSome (pos_of_get hx17)) (Int.toNat_of_nonneg hc20).symm (lt_of_get hx17) ?_
      refine go_alt2 (fun KK hKK => ?_) ?_
      · have hS212 := hS211.bring 8 rfl
        refine ge_seti (α := Int) (A := Z6) (nn := m15.length) (c := cz6) (t := 3) (l := m15) (x := e8) (x' := 0) (jn := ((r2).toNat)) (j := 0) (vs := [.int .i64 0]) (l' := [.stored ⟨blkOf Z6, offOf Z6 + ((r2).toNat) * 1, none⟩ (.int .i64 0)]) hS212 (by kernel_rfl) (by kernel_rfl) hx17 rfl rfl rfl fun w44 hS213 => ?_
        have hS214 : St w0 w44 [Own.of (.slice Z6 m15.length cz6) 3 (m15.set ((r2).toNat) 0), Own.of (.slice Z7 (m16.set ((r2).toNat) (IntKind.i64.wrap (e7 + e8))).length cz7) 3 (m16.set ((r2).toNat) (IntKind.i64.wrap (e7 + e8))), Own.of (.slice Z3 (m17.set ((z1).toNat) r2).length cz3) 3 (m17.set ((z1).toNat) r2), Own.blk b13 (.cells #[.int .i64 z1] 3 (0, 0)), Own.blk b11 (.cells #[(.slice Z7 (m16.set ((r2).toNat) (IntKind.i64.wrap (e7 + e8))).length cz7)] 24 (0, 0)), Own.blk b8 (.cells #[(.slice Z3 (m17.set ((z1).toNat) r2).length cz3), (.slice Z4 m18.length cz4)] 36 (0, 0)), Own.blk b3 (.cells #[.int .i64 0, .int .i64 0] 39 (0, 0)), Own.blk b2 (.cells #[.slice none 0 0, .slice none 0 0] 36 (0, 0)), Own.blk b1 (.cells #[.slice A0 l0.length c0] 49 (0, 0)), Own.of (.slice Z4 m18.length cz4) 3 m18, Own.map (κ := Int) (ν := Int) b5 mp3] := hS213
        have hE5 : m15.length = (m15.set ((r2).toNat) 0).length := hS214.lenAt 0 rfl
        have hS215 : St w0 w44 [Own.of (.slice Z6 (m15.set ((r2).toNat) 0).length cz6) 3 (m15.set ((r2).toNat) 0), Own.of (.slice Z7 (m16.set ((r2).toNat) (IntKind.i64.wrap (e7 + e8))).length cz7) 3 (m16.set ((r2).toNat) (IntKind.i64.wrap (e7 + e8))), Own.of (.slice Z3 (m17.set ((z1).toNat) r2).length cz3) 3 (m17.set ((z1).toNat) r2), Own.blk b13 (.cells #[.int .i64 z1] 3 (0, 0)), Own.blk b11 (.cells #[(.slice Z7 (m16.set ((r2).toNat) (IntKind.i64.wrap (e7 + e8))).length cz7)] 24 (0, 0)), Own.blk b8 (.cells #[(.slice Z3 (m17.set ((z1).toNat) r2).length cz3), (.slice Z4 m18.length cz4)] 36 (0, 0)), Own.blk b3 (.cells #[.int .i64 0, .int .i64 0] 39 (0, 0)), Own.blk b2 (.cells #[.slice none 0 0, .slice none 0 0] 36 (0, 0)), Own.blk b1 (.cells #[.slice A0 l0.length c0] 49 (0, 0)), Own.of (.slice Z4 m18.length cz4) 3 m18, Own.map (κ := Int) (ν := Int) b5 mp3] := by rw [← hE5]; exact hS214
        refine ge_same (t := 16) (v := (.slice Z6 m15.length cz6)) (v' := (.slice Z6 (m15.set ((r2).toNat) 0).length cz6)) (by kernel_rfl) (by rw [hE5]) ?_
        refine ge_same (t := 123) (v := (.slice Z6 m15.length cz6)) (v' := (.slice Z6 (m15.set ((r2).toNat) 0).length cz6)) (by kernel_rfl) (by rw [hE5]) ?_
        refine ge_same (t := 129) (v := (.slice Z6 m15.length cz6)) (v' := (.slice Z6 (m15.set ((r2).toNat) 0).length cz6)) (by kernel_rfl) (by rw [hE5]) ?_
        refine ge_nil fun a hF => hKK _ _ (RS.of2 (l := []) (by kernel_rfl) trivial trivial) ?_ a hF
        have hS216 := hS215.bring 10 rfl
        have hS217 := hS216.bring 10 rfl
        have hS218 := hS217.bring 4 rfl
        have hS219 := hS218.bring 4 rfl
        have hS220 := hS219.bring 4 rfl
        have hS221 := hS220.bring 10 rfl
        have hS222 := hS221.bring 10 rfl
        have hS223 := hS222.bring 10 rfl
        have hS224 := hS223.bring 10 rfl
        have hS225 := hS224.bring 10 rfl
        have hS226 := hS225.takeN 10
        obtain rfl := Option.some.inj h
        exact go_fin2 fun a hF => hQ _ _ _ (Outs.again ⟨hS226, hF.weaken ⟨by kernel_rfl, by kernel_rfl, by kernel_rfl, by kernel_rfl, by kernel_rfl, by kernel_rfl, by kernel_rfl, by kernel_rfl, by kernel_rfl, by kernel_rfl, trivial⟩⟩)
      exact go_nomore2
    exact go_nomore2
  · rw [if_neg hc20] at h
    cases h
abbrev redo_Play.A7 (K : Nat) (w0 : World) (l0 : List SJob) (A0 : Option Addr) (c0 : Nat) (x1 : Int) (l2 : List Int) (A2 : Option Addr) (c2 : Nat) (x3 : Int) (hR0 : RdL w0 A0 l0) (hL0 : l0.length ≤ c0) (hR2 : RdL w0 A2 l2) (hL2 : l2.length ≤ c2) (b1 : Nat) (b2 : Nat) (b3 : Nat) (r1 : SFault) (b4 : Nat) (hc1 : r1.Code = 0) (hc6 : ¬ ((l2.length : Int) > 4000)) (b5 : Nat) (mp3 : List (Int × Int)) (b8 : Nat) (m3 : List Int) (m4 : List Int) (Z3 : Option Addr) (cz3 : Nat) (Z4 : Option Addr) (cz4 : Nat) (b11 : Nat) (m7 : List Int) (m8 : List Int) (Z6 : Option Addr) (cz6 : Nat) (Z7 : Option Addr) (cz7 : Nat) (m13 : List Int) (m14 : List Int) (z1 : Int) (m15 : List Int) (m16 : List Int) (m17 : List Int) (m18 : List Int) (hc16 : z1 < x3) (b13 : Nat) (r2 : Int) (hc17 : 0 ≤ z1) (e6 : Int) (hx15 : m17[(z1).toNat]? = some e6) (hc18 : ¬ (r2 < 0)) (hc19 : ¬ (((mget mp3 z1).getD 0) = 1)) : ((List Int) × (List Int)) → Act → World → Prop := fun (s : (List Int) × (List Int)) a w => St w0 w [Own.blk b13 (.cells #[.int .i64 z1] 3 (0, 0)), Own.blk b11 (.cells #[(.slice Z7 s.2.length cz7)] 24 (0, 0)), Own.blk b8 (.cells #[(.slice Z3 (m17.set ((z1).toNat) r2).length cz3), (.slice Z4 m18.length cz4)] 36 (0, 0)), Own.blk b3 (.cells #[.int .i64 0, .int .i64 0] 39 (0, 0)), Own.blk b2 (.cells #[.slice none 0 0, .slice none 0 0] 36 (0, 0)), Own.blk b1 (.cells #[.slice A0 l0.length c0] 49 (0, 0)), Own.of (.slice Z6 s.1.length cz6) 3 s.1, Own.of (.slice Z7 s.2.length cz7) 3 s.2, Own.of (.slice Z3 (m17.set ((z1).toNat) r2).length cz3) 3 (m17.set ((z1).toNat) r2), Own.of (.slice Z4 m18.length cz4) 3 m18, Own.map (κ := Int) (ν := Int) b5 mp3] ∧ Frm 175 a [(1, .int .i64 x1), (4, .pointer (some ⟨b1, 0, none⟩)), (8, .pointer (some ⟨b2, 0, none⟩)), (9, .pointer (some ⟨b3, 0, none⟩)), (11, .map (some b5)), (14, .pointer (some ⟨b8, 0, none⟩)), (15, .pointer (some ⟨b11, 0, none⟩)), (16, (.slice Z6 s.1.length cz6)), (19, .pointer (some ⟨b13, 0, none⟩)), (20, .int .i64 r2), (103, .int .i64 x3), (104, .int .i64 z1)]
abbrev redo_Play.B7 (K : Nat) (w0 : World) (l0 : List SJob) (A0 : Option Addr) (c0 : Nat) (x1 : Int) (l2 : List Int) (A2 : Option Addr) (c2 : Nat) (x3 : Int) (hR0 : RdL w0 A0 l0) (hL0 : l0.length ≤ c0) (hR2 : RdL w0 A2 l2) (hL2 : l2.length ≤ c2) (b1 : Nat) (b2 : Nat) (b3 : Nat) (r1 : SFault) (b4 : Nat) (hc1 : r1.Code = 0) (hc6 : ¬ ((l2.length : Int) > 4000)) (b5 : Nat) (mp3 : List (Int × Int)) (b8 : Nat) (m3 : List Int) (m4 : List Int) (Z3 : Option Addr) (cz3 : Nat) (Z4 : Option Addr) (cz4 : Nat) (b11 : Nat) (m7 : List Int) (m8 : List Int) (Z6 : Option Addr) (cz6 : Nat) (Z7 : Option Addr) (cz7 : Nat) (m13 : List Int) (m14 : List Int) (z1 : Int) (m15 : List Int) (m16 : List Int) (m17 : List Int) (m18 : List Int) (hc16 : z1 < x3) (b13 : Nat) (r2 : Int) (hc17 : 0 ≤ z1) (e6 : Int) (hx15 : m17[(z1).toNat]? = some e6) (hc18 : ¬ (r2 < 0)) (hc19 : ¬ (((mget mp3 z1).getD 0) = 1)) : (SPlayed × SFault) → Exit → Act → World → Prop := Rets Tryd.prog Tryd.f69 (redo_Play.Post w0)
theorem redo_Play_p7 (K : Nat) (w0 : World) (l0 : List SJob) (A0 : Option Addr) (c0 : Nat) (x1 : Int) (l2 : List Int) (A2 : Option Addr) (c2 : Nat) (x3 : Int) (hR0 : RdL w0 A0 l0) (hL0 : l0.length ≤ c0) (hR2 : RdL w0 A2 l2) (hL2 : l2.length ≤ c2) (b1 : Nat) (b2 : Nat) (b3 : Nat) (r1 : SFault) (b4 : Nat) (hc1 : r1.Code = 0) (hc6 : ¬ ((l2.length : Int) > 4000)) (b5 : Nat) (mp3 : List (Int × Int)) (b8 : Nat) (m3 : List Int) (m4 : List Int) (Z3 : Option Addr) (cz3 : Nat) (Z4 : Option Addr) (cz4 : Nat) (b11 : Nat) (m7 : List Int) (m8 : List Int) (Z6 : Option Addr) (cz6 : Nat) (Z7 : Option Addr) (cz7 : Nat) (m13 : List Int) (m14 : List Int) (z1 : Int) (m15 : List Int) (m16 : List Int) (m17 : List Int) (m18 : List Int) (hc16 : z1 < x3) (b13 : Nat) (r2 : Int) (hc17 : 0 ≤ z1) (e6 : Int) (hx15 : m17[(z1).toNat]? = some e6) (hc18 : ¬ (r2 < 0)) (hc19 : ¬ (((mget mp3 z1).getD 0) = 1)) (o : ((List Int) × (List Int)) ⊕ (SPlayed × SFault)) (h : redo_Play.p7 m15 m16 r2 = some o) (w : World) (hS : St w0 w [Own.of (.slice Z3 (m17.set ((z1).toNat) r2).length cz3) 3 (m17.set ((z1).toNat) r2), Own.blk b13 (.cells #[.int .i64 z1] 3 (0, 0)), Own.blk b11 (.cells #[(.slice Z7 m16.length cz7)] 24 (0, 0)), Own.blk b8 (.cells #[(.slice Z3 (m17.set ((z1).toNat) r2).length cz3), (.slice Z4 m18.length cz4)] 36 (0, 0)), Own.blk b3 (.cells #[.int .i64 0, .int .i64 0] 39 (0, 0)), Own.blk b2 (.cells #[.slice none 0 0, .slice none 0 0] 36 (0, 0)), Own.blk b1 (.cells #[.slice A0 l0.length c0] 49 (0, 0)), Own.of (.slice Z6 m15.length cz6) 3 m15, Own.of (.slice Z7 m16.length cz7) 3 m16, Own.of (.slice Z4 m18.length cz4) 3 m18, Own.map (κ := Int) (ν := Int) b5 mp3]) (Q : Exit → Act → World → Prop) (hQ : ∀ x a w, Outs (redo_Play.A7 K w0 l0 A0 c0 x1 l2 A2 c2 x3 hR0 hL0 hR2 hL2 b1 b2 b3 r1 b4 hc1 hc6 b5 mp3 b8 m3 m4 Z3 cz3 Z4 cz4 b11 m7 m8 Z6 cz6 Z7 cz7 m13 m14 z1 m15 m16 m17 m18 hc16 b13 r2 hc17 e6 hx15 hc18 hc19) (redo_Play.B7 K w0 l0 A0 c0 x1 l2 A2 c2 x3 hR0 hL0 hR2 hL2 b1 b2 b3 r1 b4 hc1 hc6 b5 mp3 b8 m3 m4 Z3 cz3 Z4 cz4 b11 m7 m8 Z6 cz6 Z7 cz7 m13 m14 z1 m15 m16 m17 m18 hc16 b13 r2 hc17 e6 hx15 hc18 hc19) o x a w → Q x a w) : WE Tryd.prog 175 (subF Tryd.f69 [1, 1, 1, 1, 1, 1, 1, 1, 1, 0, 1, 0, 0, 1, 1, 0, 0, 1, 1, 1, 1, 1, 0]) Q [(1, .int .i64 x1), (4, .pointer (some ⟨b1, 0, none⟩)), (8, .pointer (some ⟨b2, 0, none⟩)), (9, .pointer (some ⟨b3, 0, none⟩)), (11, .map (some b5)), (14, .pointer (some ⟨b8, 0, none⟩)), (15, .pointer (some ⟨b11, 0, none⟩)), (16, (.slice Z6 m15.length cz6)), (19, .pointer (some ⟨b13, 0, none⟩)), (20, .int .i64 r2), (103, .int .i64 x3), (104, .int .i64 z1), (105, .bool true), (106, .int .i64 z1), (107, .slice A0 l0.length c0), (108, .func (.func 131) #[] #[.pointer (some ⟨b1, 0, none⟩), .pointer (some ⟨b13, 0, none⟩), .pointer (some ⟨b11, 0, none⟩)]), (109, .int .i64 r2), (110, .pointer (some ⟨b8, 0, none⟩)), (111, (.slice Z3 (m17.set ((z1).toNat) r2).length cz3)), (112, .int .i64 z1), (113, .int .i64 r2), (114, .pointer (some ⟨blkOf Z3, offOf Z3 + (z1).toNat * 1, none⟩)), (115, .int .i64 r2), (116, .bool false), (117, .map (some b5)), (118, .int .i64 z1), (119, .int .i64 ((mget mp3 z1).getD 0)), (120, .bool false)] w := by
  simp only [redo_Play.p7] at h
  refine we_orders2 (by kernel_rfl) [(0, [⟨b11, 0, none⟩]), (4, [⟨b11, 0, none⟩]), (7, [⟨blkOf Z7, offOf Z7 + ((r2).toNat) * 1, none⟩]), (12, [⟨blkOf Z6, offOf Z6 + ((r2).toNat) * 1, none⟩])] (.vals [0] (.vals [1] (.vals [2] (.vals [3] (.vals [4] (.vals [5] (.vals [6] (.vals [7] (.vals [8] (.vals [9] (.vals [10] (.vals [11] (.vals [12] (.vals [13] (.vals [14] (.alt 15 2 (.vals [16] (.alt 17 2 .fin .nomore)) .nomore)))))))))))))))) (by kernel_rfl) ?_
  have hS238 := hS.drew
  refine go2_batch [0] (ans := [.val ((.slice Z7 m16.length cz7))]) (vs := [(136, (.slice Z7 m16.length cz7))]) (l := [.loaded ⟨b11, 0, none⟩ ((.slice Z7 m16.length cz7))]) (by kernel_rfl) ⟨hS238.cell 2 rfl rfl, trivial⟩ (mem_one (by kernel_rfl)) ?_
  refine go2_batch [1, 2, 3] (ans := []) (vs := [(139, .int .i64 r2), (138, (.slice Z6 m15.length cz6)), (137, .int .i64 r2)]) (l := []) (by kernel_rfl) trivial mem_nil ?_
  refine go2_batch [4] (ans := [.val ((.slice Z7 m16.length cz7))]) (vs := [(140, (.slice Z7 m16.length cz7))]) (l := [.loaded ⟨b11, 0, none⟩ ((.slice Z7 m16.length cz7))]) (by kernel_rfl) ⟨hS238.cell 2 rfl rfl, trivial⟩ (mem_one (by kernel_rfl)) ?_
  refine go2_batch [5] (ans := []) (vs := [(141, .int .i64 r2)]) (l := []) (by kernel_rfl) trivial mem_nil ?_
  by_cases hc21 : 0 ≤ r2
  · rw [if_pos hc21] at h
    rcases hx18 : m16[(r2).toNat]? with _ | e9
    · rw [hx18] at h; cases h
    rw [hx18] at h
    simp only [] at h
    refine go2_index (d := 142) (ty := 0) (t := 24) (el := 3) (sz := 1) (m := m16.length) (c := cz7) (x := (.tmp 140)) (y := (.tmp 141)) (A := Z7) (k' := .i64) (j := r2) (jn := ((r2).toNat)) (b0 := blkOf Z7) (o0 := offOf Z7) (by kernel_rfl) (by kernel_rfl) (by kernel_rfl) (by kernel_rfl) (by kernel_rfl) ((hS238.rdAt 8 rfl).eqSome (pos_of_get hx18)) (Int.toNat_of_nonneg hc21).symm (lt_of_get hx18) ?_
    refine go2_batch [7] (ans := [.val (.int .i64 e9)]) (vs := [(143, .int .i64 e9)]) (l := [.loaded ⟨blkOf Z7, offOf Z7 + ((r2).toNat) * 1, none⟩ (.int .i64 e9)]) (by kernel_rfl) ⟨RdL.cell (j := 0) (hS238.rdAt 8 rfl) hx18 rfl, trivial⟩ (mem_one (by kernel_rfl)) ?_
    refine go2_batch [8, 9, 10] (ans := []) (vs := [(146, .int .i64 r2), (145, (.slice Z6 m15.length cz6)), (144, .int .i64 (IntKind.i64.wrap (e9 - 1)))]) (l := []) (by kernel_rfl) trivial mem_nil ?_
    rcases hx19 : m15[(r2).toNat]? with _ | e10
    · rw [hx19] at h; cases h
    rw [hx19] at h
    simp only [] at h
    refine go2_index (d := 147) (ty := 0) (t := 24) (el := 3) (sz := 1) (m := m15.length) (c := cz6) (x := (.tmp 145)) (y := (.tmp 146)) (A := Z6) (k' := .i64) (j := r2) (jn := ((r2).toNat)) (b0 := blkOf Z6) (o0 := offOf Z6) (by kernel_rfl) (by kernel_rfl) (by kernel_rfl) (by kernel_rfl) (by kernel_rfl) ((hS238.rdAt 7 rfl).eqSome (pos_of_get hx19)) (Int.toNat_of_nonneg hc21).symm (lt_of_get hx19) ?_
    refine go2_batch [12] (ans := [.val (.int .i64 e10)]) (vs := [(148, .int .i64 e10)]) (l := [.loaded ⟨blkOf Z6, offOf Z6 + ((r2).toNat) * 1, none⟩ (.int .i64 e10)]) (by kernel_rfl) ⟨RdL.cell (j := 0) (hS238.rdAt 7 rfl) hx19 rfl, trivial⟩ (mem_one (by kernel_rfl)) ?_
    refine go2_batch [13] (ans := []) (vs := [(149, .int .i64 (IntKind.i64.wrap (e10 + 1)))]) (l := []) (by kernel_rfl) trivial mem_nil ?_
    refine go2_index (d := 150) (ty := 0) (t := 24) (el := 3) (sz := 1) (m := m16.length) (c := cz7) (x := (.tmp 136)) (y := (.tmp 137)) (A := Z7) (k' := .i64) (j := r2) (jn := ((r2).toNat)) (b0 := blkOf Z7) (o0 := offOf Z7) (by kernel_rfl) (by kernel_rfl) (by kernel_rfl) (by kernel_rfl) (by kernel_rfl) ((hS238.rdAt 8 rfl).eqSome (pos_of_get hx18)) (Int.toNat_of_nonneg hc21).symm (lt_of_get hx18) ?_
    refine go_alt2 (fun KK hKK => ?_) ?_
    · have hS239 := hS238.bring 8 rfl
      refine ge_seti (α := Int) (A := Z7) (nn := m16.length) (c := cz7) (t := 3) (l := m16) (x := e9) (x' := (IntKind.i64.wrap (e9 - 1))) (jn := ((r2).toNat)) (j := 0) (vs := [.int .i64 (IntKind.i64.wrap (e9 - 1))]) (l' := [.stored ⟨blkOf Z7, offOf Z7 + ((r2).toNat) * 1, none⟩ (.int .i64 (IntKind.i64.wrap (e9 - 1)))]) hS239 (by kernel_rfl) (by kernel_rfl) hx18 rfl rfl rfl fun w46 hS240 => ?_
      have hS241 : St w0 w46 [Own.of (.slice Z7 m16.length cz7) 3 (m16.set ((r2).toNat) (IntKind.i64.wrap (e9 - 1))), Own.of (.slice Z3 (m17.set ((z1).toNat) r2).length cz3) 3 (m17.set ((z1).toNat) r2), Own.blk b13 (.cells #[.int .i64 z1] 3 (0, 0)), Own.blk b11 (.cells #[(.slice Z7 m16.length cz7)] 24 (0, 0)), Own.blk b8 (.cells #[(.slice Z3 (m17.set ((z1).toNat) r2).length cz3), (.slice Z4 m18.length cz4)] 36 (0, 0)), Own.blk b3 (.cells #[.int .i64 0, .int .i64 0] 39 (0, 0)), Own.blk b2 (.cells #[.slice none 0 0, .slice none 0 0] 36 (0, 0)), Own.blk b1 (.cells #[.slice A0 l0.length c0] 49 (0, 0)), Own.of (.slice Z6 m15.length cz6) 3 m15, Own.of (.slice Z4 m18.length cz4) 3 m18, Own.map (κ := Int) (ν := Int) b5 mp3] := hS240
      have hE6 : m16.length = (m16.set ((r2).toNat) (IntKind.i64.wrap (e9 - 1))).length := hS241.lenAt 0 rfl
      have hS242 : St w0 w46 [Own.of (.slice Z7 (m16.set ((r2).toNat) (IntKind.i64.wrap (e9 - 1))).length cz7) 3 (m16.set ((r2).toNat) (IntKind.i64.wrap (e9 - 1))), Own.of (.slice Z3 (m17.set ((z1).toNat) r2).length cz3) 3 (m17.set ((z1).toNat) r2), Own.blk b13 (.cells #[.int .i64 z1] 3 (0, 0)), Own.blk b11 (.cells #[(.slice Z7 (m16.set ((r2).toNat) (IntKind.i64.wrap (e9 - 1))).length cz7)] 24 (0, 0)), Own.blk b8 (.cells #[(.slice Z3 (m17.set ((z1).toNat) r2).length cz3), (.slice Z4 m18.length cz4)] 36 (0, 0)), Own.blk b3 (.cells #[.int .i64 0, .int .i64 0] 39 (0, 0)), Own.blk b2 (.cells #[.slice none 0 0, .slice none 0 0] 36 (0, 0)), Own.blk b1 (.cells #[.slice A0 l0.length c0] 49 (0, 0)), Own.of (.slice Z6 m15.length cz6) 3 m15, Own.of (.slice Z4 m18.length cz4) 3 m18, Own.map (κ := Int) (ν := Int) b5 mp3] := by rw [← hE6]; exact hS241
      refine ge_same (t := 136) (v := (.slice Z7 m16.length cz7)) (v' := (.slice Z7 (m16.set ((r2).toNat) (IntKind.i64.wrap (e9 - 1))).length cz7)) (by kernel_rfl) (by rw [hE6]) ?_
      refine ge_same (t := 140) (v := (.slice Z7 m16.length cz7)) (v' := (.slice Z7 (m16.set ((r2).toNat) (IntKind.i64.wrap (e9 - 1))).length cz7)) (by kernel_rfl) (by rw [hE6]) ?_
      refine ge_nil fun a hF => hKK _ _ (RS.of2 (l := []) (by kernel_rfl) trivial trivial) ?_ a hF
      refine go2_index (d := 151) (ty := 0) (t := 24) (el := 3) (sz := 1) (m := m15.length) (c := cz6) (x := (.tmp 138)) (y := (.tmp 139)) (A := Z6) (k' := .i64) (j := r2) (jn := ((r2).toNat)) (b0 := blkOf Z6) (o0 := offOf Z6) (by kernel_rfl) (by kernel_rfl) (by kernel_rfl) (by kernel_rfl) (by kernel_rfl) ((hS242.rdAt 8 rfl).eqSome (pos_of_get hx19)) (Int.toNat_of_nonneg hc21).symm (lt_of_get hx19) ?_
      refine go_alt2 (fun KK hKK => ?_) ?_
      · have hS243 := hS242.bring 8 rfl
        refine ge_seti (α := Int) (A := Z6) (nn := m15.length) (c := cz6) (t := 3) (l := m15) (x := e10) (x' := (IntKind.i64.wrap (e10 + 1))) (jn := ((r2).toNat)) (j := 0) (vs := [.int .i64 (IntKind.i64.wrap (e10 + 1))]) (l' := [.stored ⟨blkOf Z6, offOf Z6 + ((r2).toNat) * 1, none⟩ (.int .i64 (IntKind.i64.wrap (e10 + 1)))]) hS243 (by kernel_rfl) (by kernel_rfl) hx19 rfl rfl rfl fun w47 hS244 => ?_
        have hS245 : St w0 w47 [Own.of (.slice Z6 m15.length cz6) 3 (m15.set ((r2).toNat) (IntKind.i64.wrap (e10 + 1))), Own.of (.slice Z7 (m16.set ((r2).toNat) (IntKind.i64.wrap (e9 - 1))).length cz7) 3 (m16.set ((r2).toNat) (IntKind.i64.wrap (e9 - 1))), Own.of (.slice Z3 (m17.set ((z1).toNat) r2).length cz3) 3 (m17.set ((z1).toNat) r2), Own.blk b13 (.cells #[.int .i64 z1] 3 (0, 0)), Own.blk b11 (.cells #[(.slice Z7 (m16.set ((r2).toNat) (IntKind.i64.wrap (e9 - 1))).length cz7)] 24 (0, 0)), Own.blk b8 (.cells #[(.slice Z3 (m17.set ((z1).toNat) r2).length cz3), (.slice Z4 m18.length cz4)] 36 (0, 0)), Own.blk b3 (.cells #[.int .i64 0, .int .i64 0] 39 (0, 0)), Own.blk b2 (.cells #[.slice none 0 0, .slice none 0 0] 36 (0, 0)), Own.blk b1 (.cells #[.slice A0 l0.length c0] 49 (0, 0)), Own.of (.slice Z4 m18.length cz4) 3 m18, Own.map (κ := Int) (ν := Int) b5 mp3] := hS244
        have hE7 : m15.length = (m15.set ((r2).toNat) (IntKind.i64.wrap (e10 + 1))).length := hS245.lenAt 0 rfl
        have hS246 : St w0 w47 [Own.of (.slice Z6 (m15.set ((r2).toNat) (IntKind.i64.wrap (e10 + 1))).length cz6) 3 (m15.set ((r2).toNat) (IntKind.i64.wrap (e10 + 1))), Own.of (.slice Z7 (m16.set ((r2).toNat) (IntKind.i64.wrap (e9 - 1))).length cz7) 3 (m16.set ((r2).toNat) (IntKind.i64.wrap (e9 - 1))), Own.of (.slice Z3 (m17.set ((z1).toNat) r2).length cz3) 3 (m17.set ((z1).toNat) r2), Own.blk b13 (.cells #[.int .i64 z1] 3 (0, 0)), Own.blk b11 (.cells #[(.slice Z7 (m16.set ((r2).toNat) (IntKind.i64.wrap (e9 - 1))).length cz7)] 24 (0, 0)), Own.blk b8 (.cells #[(.slice Z3 (m17.set ((z1).toNat) r2).length cz3), (.slice Z4 m18.length cz4)] 36 (0, 0)), Own.blk b3 (.cells #[.int .i64 0, .int .i64 0] 39 (0, 0)), Own.blk b2 (.cells #[.slice none 0 0, .slice none 0 0] 36 (0, 0)), Own.blk b1 (.cells #[.slice A0 l0.length c0] 49 (0, 0)), Own.of (.slice Z4 m18.length cz4) 3 m18, Own.map (κ := Int) (ν := Int) b5 mp3] := by rw [← hE7]; exact hS245
        refine ge_same (t := 16) (v := (.slice Z6 m15.length cz6)) (v' := (.slice Z6 (m15.set ((r2).toNat) (IntKind.i64.wrap (e10 + 1))).length cz6)) (by kernel_rfl) (by rw [hE7]) ?_
        refine ge_same (t := 138) (v := (.slice Z6 m15.length cz6)) (v' := (.slice Z6 (m15.set ((r2).toNat) (IntKind.i64.wrap (e10 + 1))).length cz6)) (by kernel_rfl) (by rw [hE7]) ?_
        refine ge_same (t := 145) (v := (.slice Z6 m15.length cz6)) (v' := (.slice Z6 (m15.set ((r2).toNat) (IntKind.i64.wrap (e10 + 1))).length cz6)) (by kernel_rfl) (by rw [hE7]) ?_
        refine ge_nil fun a hF => hKK _ _ (RS.of2 (l := []) (by kernel_rfl) trivial trivial) ?_ a hF
        have hS247 := hS246.bring 10 rfl
        have hS248 := hS247.bring 10 rfl
        have hS249 := hS248.bring 4 rfl
        have hS250 := hS249.bring 4 rfl
        have hS251 := hS250.bring 4 rfl
        have hS252 := hS251.bring 10 rfl
        have hS253 := hS252.bring 10 rfl
        have hS254 := hS253.bring 10 rfl
        have hS255 := hS254.bring 10 rfl
        have hS256 := hS255.bring 10 rfl
        have hS257 := hS256.bring 10 rfl
        obtain rfl := Option.some.inj h
        exact go_fin2 fun a hF => hQ _ _ _ (Outs.again ⟨hS257, hF.weaken ⟨by kernel_rfl, by kernel_rfl, by kernel_rfl, by kernel_rfl, by kernel_rfl, by kernel_rfl, by kernel_rfl, by kernel_rfl, by kernel_rfl, by kernel_rfl, by kernel_rfl, by kernel_rfl, trivial⟩⟩)
      exact go_nomore2
    exact go_nomore2
  · rw [if_neg hc21] at h
    cases h
abbrev redo_Play.A5 (K : Nat) (w0 : World) (l0 : List SJob) (A0 : Option Addr) (c0 : Nat) (x1 : Int) (l2 : List Int) (A2 : Option Addr) (c2 : Nat) (x3 : Int) (hR0 : RdL w0 A0 l0) (hL0 : l0.length ≤ c0) (hR2 : RdL w0 A2 l2) (hL2 : l2.length ≤ c2) (b1 : Nat) (b2 : Nat) (b3 : Nat) (r1 : SFault) (b4 : Nat) (hc1 : r1.Code = 0) (hc6 : ¬ ((l2.length : Int) > 4000)) (b5 : Nat) (mp3 : List (Int × Int)) (b8 : Nat) (m3 : List Int) (m4 : List Int) (Z3 : Option Addr) (cz3 : Nat) (Z4 : Option Addr) (cz4 : Nat) (b11 : Nat) (m7 : List Int) (m8 : List Int) (Z6 : Option Addr) (cz6 : Nat) (Z7 : Option Addr) (cz7 : Nat) (m13 : List Int) (m14 : List Int) : (Int × (List Int) × (List Int) × (List Int) × (List Int)) → Act → World → Prop := fun (s : Int × (List Int) × (List Int) × (List Int) × (List Int)) a w => St w0 w [Own.blk b11 (.cells #[(.slice Z7 s.2.2.1.length cz7)] 24 (0, 0)), Own.blk b8 (.cells #[(.slice Z3 s.2.2.2.1.length cz3), (.slice Z4 s.2.2.2.2.length cz4)] 36 (0, 0)), Own.blk b3 (.cells #[.int .i64 0, .int .i64 0] 39 (0, 0)), Own.blk b2 (.cells #[.slice none 0 0, .slice none 0 0] 36 (0, 0)), Own.blk b1 (.cells #[.slice A0 l0.length c0] 49 (0, 0)), Own.of (.slice Z6 s.2.1.length cz6) 3 s.2.1, Own.of (.slice Z7 s.2.2.1.length cz7) 3 s.2.2.1, Own.of (.slice Z3 s.2.2.2.1.length cz3) 3 s.2.2.2.1, Own.of (.slice Z4 s.2.2.2.2.length cz4) 3 s.2.2.2.2, Own.map (κ := Int) (ν := Int) b5 mp3] ∧ Frm 175 a [(1, .int .i64 x1), (4, .pointer (some ⟨b1, 0, none⟩)), (8, .pointer (some ⟨b2, 0, none⟩)), (9, .pointer (some ⟨b3, 0, none⟩)), (11, .map (some b5)), (14, .pointer (some ⟨b8, 0, none⟩)), (15, .pointer (some ⟨b11, 0, none⟩)), (16, (.slice Z6 s.2.1.length cz6)), (103, .int .i64 x3), (104, .int .i64 s.1)]
abbrev redo_Play.B5 (K : Nat) (w0 : World) (l0 : List SJob) (A0 : Option Addr) (c0 : Nat) (x1 : Int) (l2 : List Int) (A2 : Option Addr) (c2 : Nat) (x3 : Int) (hR0 : RdL w0 A0 l0) (hL0 : l0.length ≤ c0) (hR2 : RdL w0 A2 l2) (hL2 : l2.length ≤ c2) (b1 : Nat) (b2 : Nat) (b3 : Nat) (r1 : SFault) (b4 : Nat) (hc1 : r1.Code = 0) (hc6 : ¬ ((l2.length : Int) > 4000)) (b5 : Nat) (mp3 : List (Int × Int)) (b8 : Nat) (m3 : List Int) (m4 : List Int) (Z3 : Option Addr) (cz3 : Nat) (Z4 : Option Addr) (cz4 : Nat) (b11 : Nat) (m7 : List Int) (m8 : List Int) (Z6 : Option Addr) (cz6 : Nat) (Z7 : Option Addr) (cz7 : Nat) (m13 : List Int) (m14 : List Int) : (((List Int) × (List Int)) ⊕ (SPlayed × SFault)) → Exit → Act → World → Prop := Exits 4 (fun (s : (List Int) × (List Int)) a w => St w0 w [Own.blk b8 (.cells #[(.slice Z3 s.1.length cz3), (.slice Z4 s.2.length cz4)] 36 (0, 0)), Own.blk b3 (.cells #[.int .i64 0, .int .i64 0] 39 (0, 0)), Own.blk b2 (.cells #[.slice none 0 0, .slice none 0 0] 36 (0, 0)), Own.of (.slice Z3 s.1.length cz3) 3 s.1, Own.of (.slice Z4 s.2.length cz4) 3 s.2] ∧ Frm 175 a [(8, .pointer (some ⟨b2, 0, none⟩)), (9, .pointer (some ⟨b3, 0, none⟩)), (14, .pointer (some ⟨b8, 0, none⟩))]) (Rets Tryd.prog Tryd.f69 (redo_Play.Post w0))
theorem redo_Play_r5 (K : Nat) (w0 : World) (l0 : List SJob) (A0 : Option Addr) (c0 : Nat) (x1 : Int) (l2 : List Int) (A2 : Option Addr) (c2 : Nat) (x3 : Int) (hR0 : RdL w0 A0 l0) (hL0 : l0.length ≤ c0) (hR2 : RdL w0 A2 l2) (hL2 : l2.length ≤ c2) (b1 : Nat) (b2 : Nat) (b3 : Nat) (r1 : SFault) (b4 : Nat) (hc1 : r1.Code = 0) (hc6 : ¬ ((l2.length : Int) > 4000)) (b5 : Nat) (mp3 : List (Int × Int)) (b8 : Nat) (m3 : List Int) (m4 : List Int) (Z3 : Option Addr) (cz3 : Nat) (Z4 : Option Addr) (cz4 : Nat) (b11 : Nat) (m7 : List Int) (m8 : List Int) (Z6 : Option Addr) (cz6 : Nat) (Z7 : Option Addr) (cz7 : Nat) (m13 : List Int) (m14 : List Int) (s : Int × (List Int) × (List Int) × (List Int) × (List Int)) (o : (Int × (List Int) × (List Int) × (List Int) × (List Int)) ⊕ (((List Int) × (List Int)) ⊕ (SPlayed × SFault))) (h : redo_Play.r5 K l0 x1 x3 mp3 s = some o) (a : Act) (w : World) (hA : redo_Play.A5 K w0 l0 A0 c0 x1 l2 A2 c2 x3 hR0 hL0 hR2 hL2 b1 b2 b3 r1 b4 hc1 hc6 b5 mp3 b8 m3 m4 Z3 cz3 Z4 cz4 b11 m7 m8 Z6 cz6 Z7 cz7 m13 m14 s a w) (Q : Exit → Act → World → Prop) (hQ : ∀ x a w, Outs (redo_Play.A5 K w0 l0 A0 c0 x1 l2 A2 c2 x3 hR0 hL0 hR2 hL2 b1 b2 b3 r1 b4 hc1 hc6 b5 mp3 b8 m3 m4 Z3 cz3 Z4 cz4 b11 m7 m8 Z6 cz6 Z7 cz7 m13 m14) (redo_Play.B5 K w0 l0 A0 c0 x1 l2 A2 c2 x3 hR0 hL0 hR2 hL2 b1 b2 b3 r1 b4 hc1 hc6 b5 mp3 b8 m3 m4 Z3 cz3 Z4 cz4 b11 m7 m8 Z6 cz6 Z7 cz7 m13 m14) o x a w → Q x a w) : (subF Tryd.f69 [1, 1, 1, 1, 1, 1, 1, 1, 1, 0, 1, 0, 0]).wp Tryd.prog Q a w := by
  obtain ⟨z1, m15, m16, m17, m18⟩ := s
  obtain ⟨hS, hF⟩ := hA
  replace hS : St w0 w [Own.blk b11 (.cells #[(.slice Z7 m16.length cz7)] 24 (0, 0)), Own.blk b8 (.cells #[(.slice Z3 m17.length cz3), (.slice Z4 m18.length cz4)] 36 (0, 0)), Own.blk b3 (.cells #[.int .i64 0, .int .i64 0] 39 (0, 0)), Own.blk b2 (.cells #[.slice none 0 0, .slice none 0 0] 36 (0, 0)), Own.blk b1 (.cells #[.slice A0 l0.length c0] 49 (0, 0)), Own.of (.slice Z6 m15.length cz6) 3 m15, Own.of (.slice Z7 m16.length cz7) 3 m16, Own.of (.slice Z3 m17.length cz3) 3 m17, Own.of (.slice Z4 m18.length cz4) 3 m18, Own.map (κ := Int) (ν := Int) b5 mp3] := hS
  simp only [redo_Play.r5] at h
  refine (?_ : WE Tryd.prog 175 (subF Tryd.f69 [1, 1, 1, 1, 1, 1, 1, 1, 1, 0, 1, 0, 0]) Q [(1, .int .i64 x1), (4, .pointer (some ⟨b1, 0, none⟩)), (8, .pointer (some ⟨b2, 0, none⟩)), (9, .pointer (some ⟨b3, 0, none⟩)), (11, .map (some b5)), (14, .pointer (some ⟨b8, 0, none⟩)), (15, .pointer (some ⟨b11, 0, none⟩)), (16, (.slice Z6 m15.length cz6)), (103, .int .i64 x3), (104, .int .i64 z1)] w) a hF
  clear hF a
  refine we_seq fun K34 hK34 => ?_
  refine we_region [(0, 0)] rfl ?_
  refine ge_batch [0] (ans := []) (vs := [(105, .bool (decide (z1 < x3)))]) (l := []) (by kernel_rfl) trivial ?_
  refine ge_nil fun a hF => hK34 _ _ ?_ a hF
  refine we_seq fun K35 hK35 => ?_
  by_cases hc16 : z1 < x3
  · rw [if_pos hc16] at h
    refine we_known (t := 105) (b := decide (z1 < x3)) (v := true) (by kernel_rfl) (decide_eq_true hc16) ?_
    refine we_true (by kernel_rfl) ?_
    refine we_skip fun a hF => hK35 _ _ ?_ a hF
    refine we_seq fun K36 hK36 => ?_
    refine we_block ?_
    refine we_seq fun K37 hK37 => ?_
    refine we_region [(0, 0), (1, 1), (2, 2)] rfl ?_
    refine ge_batch [0] (ans := []) (vs := [(106, .int .i64 z1)]) (l := []) (by kernel_rfl) trivial ?_
    refine ge_new (d := some 19) (o := .cells #[.int .i64 0] 3) (v := fun b => .pointer (some ⟨b, 0, none⟩)) hS (fun b => by kernel_rfl) fun b13 w39 hx14 hS187 => ?_
    refine ge_set (b := b13) (j := 0) (cs := #[.int .i64 0]) (t := 3) (vs := [.int .i64 z1]) hS187 (by kernel_rfl) rfl rfl fun w40 hS188 => ?_
    have hS189 : St w0 w40 [Own.blk b13 (.cells #[.int .i64 z1] 3 (0, 0)), Own.blk b11 (.cells #[(.slice Z7 m16.length cz7)] 24 (0, 0)), Own.blk b8 (.cells #[(.slice Z3 m17.length cz3), (.slice Z4 m18.length cz4)] 36 (0, 0)), Own.blk b3 (.cells #[.int .i64 0, .int .i64 0] 39 (0, 0)), Own.blk b2 (.cells #[.slice none 0 0, .slice none 0 0] 36 (0, 0)), Own.blk b1 (.cells #[.slice A0 l0.length c0] 49 (0, 0)), Own.of (.slice Z6 m15.length cz6) 3 m15, Own.of (.slice Z7 m16.length cz7) 3 m16, Own.of (.slice Z3 m17.length cz3) 3 m17, Own.of (.slice Z4 m18.length cz4) 3 m18, Own.map (κ := Int) (ν := Int) b5 mp3] := hS188
    refine ge_nil fun a hF => hK37 _ _ ?_ a hF
    refine we_seq fun K38 hK38 => ?_
    refine we_region [(0, 0), (1, 0), (2, 1), (3, 0)] rfl ?_
    rcases hq7 : sched_First.f K l0 l0 z1 m16 1 with _ | r2
    · rw [hq7] at h; cases h
    rw [hq7] at h
    simp only [] at h
    refine ge_batch [0, 1] (ans := [.val (.slice A0 l0.length c0)]) (vs := [(108, .func (.func 131) #[] #[.pointer (some ⟨b1, 0, none⟩), .pointer (some ⟨b13, 0, none⟩), .pointer (some ⟨b11, 0, none⟩)]), (107, .slice A0 l0.length c0)]) (l := [.loaded ⟨b1, 0, none⟩ (.slice A0 l0.length c0)]) (by kernel_rfl) ⟨hS189.cell 5 rfl rfl, trivial⟩ ?_
    refine ge_call (d := some 109) (f := 130) (args := #[.slice A0 l0.length c0, .func (.func 131) #[] #[.pointer (some ⟨b1, 0, none⟩), .pointer (some ⟨b13, 0, none⟩), .pointer (some ⟨b11, 0, none⟩)], .int .i64 1]) (by kernel_rfl) (sched_First_ok K l0 A0 c0 b1 l0 A0 c0 b13 z1 b11 m16 Z7 cz7 1 _ (hS189.rd hR0) hL0 (hS189.rd hR0) hL0 (hS189.globOf 5 rfl) (hS189.globOf 0 rfl) (hS189.rdAt 7 rfl) (hS189.capAt 7 rfl) (hS189.globOf 1 rfl) _ hq7) ?_
    rintro _ w41 ⟨rfl, hS190⟩
    refine ⟨_, rfl, hS190.below, ?_⟩
    have hS191 := hS189.call hS190
    refine ge_batch [3] (ans := []) (vs := [(20, .int .i64 r2)]) (l := []) (by kernel_rfl) trivial ?_
    refine ge_nil fun a hF => hK38 _ _ ?_ a hF
    refine we_seq fun K39 hK39 => ?_
    refine we_region [(0, 0), (1, 0), (2, 0), (3, 0), (4, 0), (5, 2)] rfl ?_
    refine ge_batch [0, 1, 2, 3] (ans := [.val ((.slice Z3 m17.length cz3)), .val (.int .i64 z1)]) (vs := [(113, .int .i64 r2), (112, .int .i64 z1), (111, (.slice Z3 m17.length cz3)), (110, .pointer (some ⟨b8, 0, none⟩))]) (l := [.loaded ⟨b8, 0, none⟩ ((.slice Z3 m17.length cz3)), .loaded ⟨b13, 0, none⟩ (.int .i64 z1)]) (by kernel_rfl) ⟨hS191.cell 2 rfl rfl, hS191.cell 0 rfl rfl, trivial⟩ ?_
    by_cases hc17 : 0 ≤ z1
    · rw [if_pos hc17] at h
      rcases hx15 : m17[(z1).toNat]? with _ | e6
      · rw [hx15] at h; cases h
      rw [hx15] at h
      simp only [] at h
      refine ge_index (d := 114) (ty := 0) (t := 24) (el := 3) (sz := 1) (m := m17.length) (c := cz3) (x := (.tmp 111)) (y := (.tmp 112)) (A := Z3) (k' := .i64) (j := z1) (jn := ((z1).toNat)) (b0 := blkOf Z3) (o0 := offOf Z3) (by kernel_rfl) (by kernel_rfl) (by kernel_rfl) (by kernel_rfl) (by kernel_rfl) ((hS191.rdAt 8 rfl).eqSome (pos_of_get hx15)) (Int.toNat_of_nonneg hc17).symm (lt_of_get hx15) ?_
      have hS192 := hS191.bring 8 rfl
      refine ge_seti (α := Int) (A := Z3) (nn := m17.length) (c := cz3) (t := 3) (l := m17) (x := e6) (x' := r2) (jn := ((z1).toNat)) (j := 0) (vs := [.int .i64 r2]) (l' := [.stored ⟨blkOf Z3, offOf Z3 + ((z1).toNat) * 1, none⟩ (.int .i64 r2)]) hS192 (by kernel_rfl) (by kernel_rfl) hx15 rfl rfl rfl fun w42 hS193 => ?_
      have hS194 : St w0 w42 [Own.of (.slice Z3 m17.length cz3) 3 (m17.set ((z1).toNat) r2), Own.blk b13 (.cells #[.int .i64 z1] 3 (0, 0)), Own.blk b11 (.cells #[(.slice Z7 m16.length cz7)] 24 (0, 0)), Own.blk b8 (.cells #[(.slice Z3 m17.length cz3), (.slice Z4 m18.length cz4)] 36 (0, 0)), Own.blk b3 (.cells #[.int .i64 0, .int .i64 0] 39 (0, 0)), Own.blk b2 (.cells #[.slice none 0 0, .slice none 0 0] 36 (0, 0)), Own.blk b1 (.cells #[.slice A0 l0.length c0] 49 (0, 0)), Own.of (.slice Z6 m15.length cz6) 3 m15, Own.of (.slice Z7 m16.length cz7) 3 m16, Own.of (.slice Z4 m18.length cz4) 3 m18, Own.map (κ := Int) (ν := Int) b5 mp3] := hS193
      have hE3 : m17.length = (m17.set ((z1).toNat) r2).length := hS194.lenAt 0 rfl
      have hS195 : St w0 w42 [Own.of (.slice Z3 (m17.set ((z1).toNat) r2).length cz3) 3 (m17.set ((z1).toNat) r2), Own.blk b13 (.cells #[.int .i64 z1] 3 (0, 0)), Own.blk b11 (.cells #[(.slice Z7 m16.length cz7)] 24 (0, 0)), Own.blk b8 (.cells #[(.slice Z3 (m17.set ((z1).toNat) r2).length cz3), (.slice Z4 m18.length cz4)] 36 (0, 0)), Own.blk b3 (.cells #[.int .i64 0, .int .i64 0] 39 (0, 0)), Own.blk b2 (.cells #[.slice none 0 0, .slice none 0 0] 36 (0, 0)), Own.blk b1 (.cells #[.slice A0 l0.length c0] 49 (0, 0)), Own.of (.slice Z6 m15.length cz6) 3 m15, Own.of (.slice Z7 m16.length cz7) 3 m16, Own.of (.slice Z4 m18.length cz4) 3 m18, Own.map (κ := Int) (ν := Int) b5 mp3] := by rw [← hE3]; exact hS194
      refine ge_same (t := 111) (v := (.slice Z3 m17.length cz3)) (v' := (.slice Z3 (m17.set ((z1).toNat) r2).length cz3)) (by kernel_rfl) (by rw [hE3]) ?_
      refine ge_nil fun a hF => hK39 _ _ ?_ a hF
      refine we_seq fun K40 hK40 => ?_
      refine we_seq fun K41 hK41 => ?_
      refine we_region [(0, 0), (1, 0)] rfl ?_
      refine ge_batch [0, 1] (ans := []) (vs := [(116, .bool (decide (r2 < 0))), (115, .int .i64 r2)]) (l := []) (by kernel_rfl) trivial ?_
      refine ge_nil fun a hF => hK41 _ _ ?_ a hF
      by_cases hc18 : r2 < 0
      · rw [if_pos hc18] at h
        refine we_known (t := 116) (b := decide (r2 < 0)) (v := true) (by kernel_rfl) (decide_eq_true hc18) ?_
        refine we_true (by kernel_rfl) ?_
        refine we_exit fun a hF => hK36 _ _ ?_ a hF
        refine we_region [(0, 0), (1, 0)] rfl ?_
        refine ge_batch [0, 1] (ans := []) (vs := [(104, .int .i64 (IntKind.i64.wrap (z1 + 1))), (172, .int .i64 (IntKind.i64.wrap (z1 + 1)))]) (l := []) (by kernel_rfl) trivial ?_
        have hS196 := hS195.bring 10 rfl
        have hS197 := hS196.bring 10 rfl
        have hS198 := hS197.bring 2 rfl
        have hS199 := hS198.bring 10 rfl
        have hS200 := hS199.bring 10 rfl
        have hS201 := hS200.bring 10 rfl
        have hS202 := hS201.bring 10 rfl
        have hS203 := hS202.bring 10 rfl
        have hS204 := hS203.bring 10 rfl
        have hS205 := hS204.bring 10 rfl
        have hS206 := hS205.takeN 10
        obtain rfl := Option.some.inj h
        exact ge_nil fun a hF => hQ _ _ _ (Outs.again ⟨hS206, hF.weaken ⟨by kernel_rfl, by kernel_rfl, by kernel_rfl, by kernel_rfl, by kernel_rfl, by kernel_rfl, by kernel_rfl, by kernel_rfl, by kernel_rfl, by kernel_rfl, trivial⟩⟩)
      · rw [if_neg hc18] at h
        refine we_known (t := 116) (b := decide (r2 < 0)) (v := false) (by kernel_rfl) (decide_eq_false hc18) ?_
        refine we_false (by kernel_rfl) ?_
        refine we_skip fun a hF => hK40 _ _ ?_ a hF
        refine we_seq fun K42 hK42 => ?_
        refine we_seq fun K43 hK43 => ?_
        refine we_region [(0, 0), (1, 0), (2, 0), (3, 0)] rfl ?_
        refine ge_batch [0, 1] (ans := [.val (.int .i64 z1)]) (vs := [(118, .int .i64 z1), (117, .map (some b5))]) (l := [.loaded ⟨b13, 0, none⟩ (.int .i64 z1)]) (by kernel_rfl) ⟨hS195.cell 1 rfl rfl, trivial⟩ ?_
        refine ge_lookup (κ := Int) (ν := Int) (d := 119) (b := b5) (q := 10) (t := 161) (kt := 3) (et := 3) (x := (.tmp 117)) (y := (.tmp 118)) (ty := 3) (m := mp3) (k := z1) (z := 0) (v := ((mget mp3 z1).getD 0)) (zv := .int .i64 0) (vv := .int .i64 ((mget mp3 z1).getD 0)) (by kernel_rfl) (by kernel_rfl) (by kernel_rfl) (by kernel_rfl) (by kernel_rfl) (fun w' => by kernel_rfl) rfl hS195 rfl rfl rfl ?_
        refine ge_batch [3] (ans := []) (vs := [(120, .bool (((mget mp3 z1).getD 0) == 1))]) (l := []) (by kernel_rfl) trivial ?_
        refine ge_nil fun a hF => hK43 _ _ ?_ a hF
        by_cases hc19 : ((mget mp3 z1).getD 0) = 1
        · rw [if_pos hc19] at h
          refine we_known (t := 120) (b := (((mget mp3 z1).getD 0) == 1)) (v := true) (by kernel_rfl) (beq_iff_eq.2 hc19) ?_
          refine we_true (by kernel_rfl) ?_
          refine we_seq fun K44 hK44 => ?_
          rcases hq8 : redo_Play.p6 m15 m16 r2 with _ | (⟨m23, m24⟩ | rr1)
          · rw [hq8] at h; cases h
          · rw [hq8] at h
            simp only [] at h
            refine we_keep (e' := [(1, .int .i64 x1), (4, .pointer (some ⟨b1, 0, none⟩)), (8, .pointer (some ⟨b2, 0, none⟩)), (9, .pointer (some ⟨b3, 0, none⟩)), (11, .map (some b5)), (14, .pointer (some ⟨b8, 0, none⟩)), (15, .pointer (some ⟨b11, 0, none⟩)), (16, (.slice Z6 m15.length cz6)), (19, .pointer (some ⟨b13, 0, none⟩)), (20, .int .i64 r2), (103, .int .i64 x3), (104, .int .i64 z1), (105, .bool true), (106, .int .i64 z1), (107, .slice A0 l0.length c0), (108, .func (.func 131) #[] #[.pointer (some ⟨b1, 0, none⟩), .pointer (some ⟨b13, 0, none⟩), .pointer (some ⟨b11, 0, none⟩)]), (109, .int .i64 r2), (110, .pointer (some ⟨b8, 0, none⟩)), (111, (.slice Z3 (m17.set ((z1).toNat) r2).length cz3)), (112, .int .i64 z1), (113, .int .i64 r2), (114, .pointer (some ⟨blkOf Z3, offOf Z3 + (z1).toNat * 1, none⟩)), (115, .int .i64 r2), (116, .bool false), (117, .map (some b5)), (118, .int .i64 z1), (119, .int .i64 ((mget mp3 z1).getD 0)), (120, .bool true)]) ⟨by kernel_rfl, by kernel_rfl, by kernel_rfl, by kernel_rfl, by kernel_rfl, by kernel_rfl, by kernel_rfl, by kernel_rfl, by kernel_rfl, by kernel_rfl, by kernel_rfl, by kernel_rfl, by kernel_rfl, by kernel_rfl, by kernel_rfl, by kernel_rfl, by kernel_rfl, by kernel_rfl, by kernel_rfl, by kernel_rfl, by kernel_rfl, by kernel_rfl, by kernel_rfl, by kernel_rfl, by kernel_rfl, by kernel_rfl, by kernel_rfl, by kernel_rfl, trivial⟩ (redo_Play_p6 K w0 l0 A0 c0 x1 l2 A2 c2 x3 hR0 hL0 hR2 hL2 b1 b2 b3 r1 b4 hc1 hc6 b5 mp3 b8 m3 m4 Z3 cz3 Z4 cz4 b11 m7 m8 Z6 cz6 Z7 cz7 m13 m14 z1 m15 m16 m17 m18 hc16 b13 r2 hc17 e6 hx15 hc18 hc19 _ hq8 _ hS195 _ ?_)
            rintro _ a w45 ⟨rfl, hS227, hF⟩
            replace hS227 : St w0 w45 [Own.blk b11 (.cells #[(.slice Z7 m24.length cz7)] 24 (0, 0)), Own.blk b8 (.cells #[(.slice Z3 (m17.set ((z1).toNat) r2).length cz3), (.slice Z4 m18.length cz4)] 36 (0, 0)), Own.blk b3 (.cells #[.int .i64 0, .int .i64 0] 39 (0, 0)), Own.blk b2 (.cells #[.slice none 0 0, .slice none 0 0] 36 (0, 0)), Own.blk b1 (.cells #[.slice A0 l0.length c0] 49 (0, 0)), Own.of (.slice Z6 m23.length cz6) 3 m23, Own.of (.slice Z7 m24.length cz7) 3 m24, Own.of (.slice Z3 (m17.set ((z1).toNat) r2).length cz3) 3 (m17.set ((z1).toNat) r2), Own.of (.slice Z4 m18.length cz4) 3 m18, Own.map (κ := Int) (ν := Int) b5 mp3] := hS227
            refine hK44 [(1, .int .i64 x1), (4, .pointer (some ⟨b1, 0, none⟩)), (8, .pointer (some ⟨b2, 0, none⟩)), (9, .pointer (some ⟨b3, 0, none⟩)), (11, .map (some b5)), (14, .pointer (some ⟨b8, 0, none⟩)), (15, .pointer (some ⟨b11, 0, none⟩)), (16, (.slice Z6 m23.length cz6)), (103, .int .i64 x3), (104, .int .i64 z1)] w45 ?_ a hF
            refine we_exit fun a hF => hK36 _ _ ?_ a hF
            refine we_region [(0, 0), (1, 0)] rfl ?_
            refine ge_batch [0, 1] (ans := []) (vs := [(104, .int .i64 (IntKind.i64.wrap (z1 + 1))), (172, .int .i64 (IntKind.i64.wrap (z1 + 1)))]) (l := []) (by kernel_rfl) trivial ?_
            have hS228 := hS227.bring 9 rfl
            have hS229 := hS228.bring 9 rfl
            have hS230 := hS229.bring 9 rfl
            have hS231 := hS230.bring 9 rfl
            have hS232 := hS231.bring 9 rfl
            have hS233 := hS232.bring 9 rfl
            have hS234 := hS233.bring 9 rfl
            have hS235 := hS234.bring 9 rfl
            have hS236 := hS235.bring 9 rfl
            have hS237 := hS236.bring 9 rfl
            obtain rfl := Option.some.inj h
            exact ge_nil fun a hF => hQ _ _ _ (Outs.again ⟨hS237, hF.weaken ⟨by kernel_rfl, by kernel_rfl, by kernel_rfl, by kernel_rfl, by kernel_rfl, by kernel_rfl, by kernel_rfl, by kernel_rfl, by kernel_rfl, by kernel_rfl, trivial⟩⟩)
          · rw [hq8] at h
            simp only [] at h
            refine we_keep (e' := [(1, .int .i64 x1), (4, .pointer (some ⟨b1, 0, none⟩)), (8, .pointer (some ⟨b2, 0, none⟩)), (9, .pointer (some ⟨b3, 0, none⟩)), (11, .map (some b5)), (14, .pointer (some ⟨b8, 0, none⟩)), (15, .pointer (some ⟨b11, 0, none⟩)), (16, (.slice Z6 m15.length cz6)), (19, .pointer (some ⟨b13, 0, none⟩)), (20, .int .i64 r2), (103, .int .i64 x3), (104, .int .i64 z1), (105, .bool true), (106, .int .i64 z1), (107, .slice A0 l0.length c0), (108, .func (.func 131) #[] #[.pointer (some ⟨b1, 0, none⟩), .pointer (some ⟨b13, 0, none⟩), .pointer (some ⟨b11, 0, none⟩)]), (109, .int .i64 r2), (110, .pointer (some ⟨b8, 0, none⟩)), (111, (.slice Z3 (m17.set ((z1).toNat) r2).length cz3)), (112, .int .i64 z1), (113, .int .i64 r2), (114, .pointer (some ⟨blkOf Z3, offOf Z3 + (z1).toNat * 1, none⟩)), (115, .int .i64 r2), (116, .bool false), (117, .map (some b5)), (118, .int .i64 z1), (119, .int .i64 ((mget mp3 z1).getD 0)), (120, .bool true)]) ⟨by kernel_rfl, by kernel_rfl, by kernel_rfl, by kernel_rfl, by kernel_rfl, by kernel_rfl, by kernel_rfl, by kernel_rfl, by kernel_rfl, by kernel_rfl, by kernel_rfl, by kernel_rfl, by kernel_rfl, by kernel_rfl, by kernel_rfl, by kernel_rfl, by kernel_rfl, by kernel_rfl, by kernel_rfl, by kernel_rfl, by kernel_rfl, by kernel_rfl, by kernel_rfl, by kernel_rfl, by kernel_rfl, by kernel_rfl, by kernel_rfl, by kernel_rfl, trivial⟩ (redo_Play_p6 K w0 l0 A0 c0 x1 l2 A2 c2 x3 hR0 hL0 hR2 hL2 b1 b2 b3 r1 b4 hc1 hc6 b5 mp3 b8 m3 m4 Z3 cz3 Z4 cz4 b11 m7 m8 Z6 cz6 Z7 cz7 m13 m14 z1 m15 m16 m17 m18 hc16 b13 r2 hc17 e6 hx15 hc18 hc19 _ hq8 _ hS195 _ ?_)
            rintro _ a w1 ⟨_, rfl, hb⟩
            obtain rfl := Option.some.inj h
            exact hQ _ _ _ (Outs.out nofun (Exits.on ⟨rfl, hb⟩))
        · rw [if_neg hc19] at h
          refine we_known (t := 120) (b := (((mget mp3 z1).getD 0) == 1)) (v := false) (by kernel_rfl) (beq_eq_false_iff_ne.2 hc19) ?_
          refine we_false (by kernel_rfl) ?_
          refine we_skip fun a hF => hK42 _ _ ?_ a hF
          refine we_seq fun K45 hK45 => ?_
          rcases hq9 : redo_Play.p7 m15 m16 r2 with _ | (⟨m27, m28⟩ | rr2)
          · rw [hq9] at h; cases h
          · rw [hq9] at h
            simp only [] at h
            refine we_keep (e' := [(1, .int .i64 x1), (4, .pointer (some ⟨b1, 0, none⟩)), (8, .pointer (some ⟨b2, 0, none⟩)), (9, .pointer (some ⟨b3, 0, none⟩)), (11, .map (some b5)), (14, .pointer (some ⟨b8, 0, none⟩)), (15, .pointer (some ⟨b11, 0, none⟩)), (16, (.slice Z6 m15.length cz6)), (19, .pointer (some ⟨b13, 0, none⟩)), (20, .int .i64 r2), (103, .int .i64 x3), (104, .int .i64 z1), (105, .bool true), (106, .int .i64 z1), (107, .slice A0 l0.length c0), (108, .func (.func 131) #[] #[.pointer (some ⟨b1, 0, none⟩), .pointer (some ⟨b13, 0, none⟩), .pointer (some ⟨b11, 0, none⟩)]), (109, .int .i64 r2), (110, .pointer (some ⟨b8, 0, none⟩)), (111, (.slice Z3 (m17.set ((z1).toNat) r2).length cz3)), (112, .int .i64 z1), (113, .int .i64 r2), (114, .pointer (some ⟨blkOf Z3, offOf Z3 + (z1).toNat * 1, none⟩)), (115, .int .i64 r2), (116, .bool false), (117, .map (some b5)), (118, .int .i64 z1), (119, .int .i64 ((mget mp3 z1).getD 0)), (120, .bool false)]) ⟨by kernel_rfl, by kernel_rfl, by kernel_rfl, by kernel_rfl, by kernel_rfl, by kernel_rfl, by kernel_rfl, by kernel_rfl, by kernel_rfl, by kernel_rfl, by kernel_rfl, by kernel_rfl, by kernel_rfl, by kernel_rfl, by kernel_rfl, by kernel_rfl, by kernel_rfl, by kernel_rfl, by kernel_rfl, by kernel_rfl, by kernel_rfl, by kernel_rfl, by kernel_rfl, by kernel_rfl, by kernel_rfl, by kernel_rfl, by kernel_rfl, by kernel_rfl, trivial⟩ (redo_Play_p7 K w0 l0 A0 c0 x1 l2 A2 c2 x3 hR0 hL0 hR2 hL2 b1 b2 b3 r1 b4 hc1 hc6 b5 mp3 b8 m3 m4 Z3 cz3 Z4 cz4 b11 m7 m8 Z6 cz6 Z7 cz7 m13 m14 z1 m15 m16 m17 m18 hc16 b13 r2 hc17 e6 hx15 hc18 hc19 _ hq9 _ hS195 _ ?_)
            rintro _ a w48 ⟨rfl, hS258, hF⟩
            replace hS258 : St w0 w48 [Own.blk b13 (.cells #[.int .i64 z1] 3 (0, 0)), Own.blk b11 (.cells #[(.slice Z7 m28.length cz7)] 24 (0, 0)), Own.blk b8 (.cells #[(.slice Z3 (m17.set ((z1).toNat) r2).length cz3), (.slice Z4 m18.length cz4)] 36 (0, 0)), Own.blk b3 (.cells #[.int .i64 0, .int .i64 0] 39 (0, 0)), Own.blk b2 (.cells #[.slice none 0 0, .slice none 0 0] 36 (0, 0)), Own.blk b1 (.cells #[.slice A0 l0.length c0] 49 (0, 0)), Own.of (.slice Z6 m27.length cz6) 3 m27, Own.of (.slice Z7 m28.length cz7) 3 m28, Own.of (.slice Z3 (m17.set ((z1).toNat) r2).length cz3) 3 (m17.set ((z1).toNat) r2), Own.of (.slice Z4 m18.length cz4) 3 m18, Own.map (κ := Int) (ν := Int) b5 mp3] := hS258
            refine hK45 [(1, .int .i64 x1), (4, .pointer (some ⟨b1, 0, none⟩)), (8, .pointer (some ⟨b2, 0, none⟩)), (9, .pointer (some ⟨b3, 0, none⟩)), (11, .map (some b5)), (14, .pointer (some ⟨b8, 0, none⟩)), (15, .pointer (some ⟨b11, 0, none⟩)), (16, (.slice Z6 m27.length cz6)), (19, .pointer (some ⟨b13, 0, none⟩)), (20, .int .i64 r2), (103, .int .i64 x3), (104, .int .i64 z1)] w48 ?_ a hF
            refine we_seq fun K46 hK46 => ?_
            refine we_seq fun K47 hK47 => ?_
            refine we_region [(0, 0), (1, 0), (2, 0), (3, 0), (4, 0), (5, 0)] rfl ?_
            refine ge_batch [0, 1] (ans := []) (vs := [(153, .int .i64 r2), (152, (.slice Z6 m27.length cz6))]) (l := []) (by kernel_rfl) trivial ?_
            by_cases hc22 : 0 ≤ r2
            · rw [if_pos hc22] at h
              rcases hx20 : m27[(r2).toNat]? with _ | e11
              · rw [hx20] at h; cases h
              rw [hx20] at h
              simp only [] at h
              refine ge_index (d := 154) (ty := 0) (t := 24) (el := 3) (sz := 1) (m := m27.length) (c := cz6) (x := (.tmp 152)) (y := (.tmp 153)) (A := Z6) (k' := .i64) (j := r2) (jn := ((r2).toNat)) (b0 := blkOf Z6) (o0 := offOf Z6) (by kernel_rfl) (by kernel_rfl) (by kernel_rfl) (by kernel_rfl) (by kernel_rfl) ((hS258.rdAt 6 rfl).eqSome (pos_of_get hx20)) (Int.toNat_of_nonneg hc22).symm (lt_of_get hx20) ?_
              refine ge_batch [3, 4, 5] (ans := [.val (.int .i64 e11)]) (vs := [(157, .bool (e11 == x1)), (156, .int .i64 x1), (155, .int .i64 e11)]) (l := [.loaded ⟨blkOf Z6, offOf Z6 + ((r2).toNat) * 1, none⟩ (.int .i64 e11)]) (by kernel_rfl) ⟨RdL.cell (j := 0) (hS258.rdAt 6 rfl) hx20 rfl, trivial⟩ ?_
              refine ge_nil fun a hF => hK47 _ _ ?_ a hF
              by_cases hc23 : e11 = x1
              · rw [if_pos hc23] at h
                refine we_known (t := 157) (b := (e11 == x1)) (v := true) (by kernel_rfl) (beq_iff_eq.2 hc23) ?_
                refine we_true (by kernel_rfl) ?_
                refine we_region [(0, 0), (1, 0), (2, 0), (3, 2)] rfl ?_
                refine ge_batch [0, 1] (ans := []) (vs := [(159, .int .i64 r2), (158, (.slice Z6 m27.length cz6))]) (l := []) (by kernel_rfl) trivial ?_
                refine ge_index (d := 160) (ty := 0) (t := 24) (el := 3) (sz := 1) (m := m27.length) (c := cz6) (x := (.tmp 158)) (y := (.tmp 159)) (A := Z6) (k' := .i64) (j := r2) (jn := ((r2).toNat)) (b0 := blkOf Z6) (o0 := offOf Z6) (by kernel_rfl) (by kernel_rfl) (by kernel_rfl) (by kernel_rfl) (by kernel_rfl) ((hS258.rdAt 6 rfl).eqSome (pos_of_get hx20)) (Int.toNat_of_nonneg hc22).symm (lt_of_get hx20) ?_
                have hS259 := hS258.bring 6 rfl
                refine ge_seti (α := Int) (A := Z6) (nn := m27.length) (c := cz6) (t := 3) (l := m27) (x := e11) (x' := 0) (jn := ((r2).toNat)) (j := 0) (vs := [.int .i64 0]) (l' := [.stored ⟨blkOf Z6, offOf Z6 + ((r2).toNat) * 1, none⟩ (.int .i64 0)]) hS259 (by kernel_rfl) (by kernel_rfl) hx20 rfl rfl rfl fun w49 hS260 => ?_
                have hS261 : St w0 w49 [Own.of (.slice Z6 m27.length cz6) 3 (m27.set ((r2).toNat) 0), Own.blk b13 (.cells #[.int .i64 z1] 3 (0, 0)), Own.blk b11 (.cells #[(.slice Z7 m28.length cz7)] 24 (0, 0)), Own.blk b8 (.cells #[(.slice Z3 (m17.set ((z1).toNat) r2).length cz3), (.slice Z4 m18.length cz4)] 36 (0, 0)), Own.blk b3 (.cells #[.int .i64 0, .int .i64 0] 39 (0, 0)), Own.blk b2 (.cells #[.slice none 0 0, .slice none 0 0] 36 (0, 0)), Own.blk b1 (.cells #[.slice A0 l0.length c0] 49 (0, 0)), Own.of (.slice Z7 m28.length cz7) 3 m28, Own.of (.slice Z3 (m17.set ((z1).toNat) r2).length cz3) 3 (m17.set ((z1).toNat) r2), Own.of (.slice Z4 m18.length cz4) 3 m18, Own.map (κ := Int) (ν := Int) b5 mp3] := hS260
                have hE8 : m27.length = (m27.set ((r2).toNat) 0).length := hS261.lenAt 0 rfl
                have hS262 : St w0 w49 [Own.of (.slice Z6 (m27.set ((r2).toNat) 0).length cz6) 3 (m27.set ((r2).toNat) 0), Own.blk b13 (.cells #[.int .i64 z1] 3 (0, 0)), Own.blk b11 (.cells #[(.slice Z7 m28.length cz7)] 24 (0, 0)), Own.blk b8 (.cells #[(.slice Z3 (m17.set ((z1).toNat) r2).length cz3), (.slice Z4 m18.length cz4)] 36 (0, 0)), Own.blk b3 (.cells #[.int .i64 0, .int .i64 0] 39 (0, 0)), Own.blk b2 (.cells #[.slice none 0 0, .slice none 0 0] 36 (0, 0)), Own.blk b1 (.cells #[.slice A0 l0.length c0] 49 (0, 0)), Own.of (.slice Z7 m28.length cz7) 3 m28, Own.of (.slice Z3 (m17.set ((z1).toNat) r2).length cz3) 3 (m17.set ((z1).toNat) r2), Own.of (.slice Z4 m18.length cz4) 3 m18, Own.map (κ := Int) (ν := Int) b5 mp3] := by rw [← hE8]; exact hS261
                refine ge_same (t := 16) (v := (.slice Z6 m27.length cz6)) (v' := (.slice Z6 (m27.set ((r2).toNat) 0).length cz6)) (by kernel_rfl) (by rw [hE8]) ?_
                refine ge_same (t := 152) (v := (.slice Z6 m27.length cz6)) (v' := (.slice Z6 (m27.set ((r2).toNat) 0).length cz6)) (by kernel_rfl) (by rw [hE8]) ?_
                refine ge_same (t := 158) (v := (.slice Z6 m27.length cz6)) (v' := (.slice Z6 (m27.set ((r2).toNat) 0).length cz6)) (by kernel_rfl) (by rw [hE8]) ?_
                refine ge_nil fun a hF => hK46 _ _ ?_ a hF
                refine we_seq fun K48 hK48 => ?_
                refine we_region [(0, 0), (1, 0), (2, 0), (3, 0), (4, 0)] rfl ?_
                refine ge_batch [0, 1] (ans := [.val ((.slice Z7 m28.length cz7))]) (vs := [(162, .int .i64 r2), (161, (.slice Z7 m28.length cz7))]) (l := [.loaded ⟨b11, 0, none⟩ ((.slice Z7 m28.length cz7))]) (by kernel_rfl) ⟨hS262.cell 2 rfl rfl, trivial⟩ ?_
                rcases hx21 : m28[(r2).toNat]? with _ | e12
                · rw [hx21] at h; cases h
                rw [hx21] at h
                simp only [] at h
                refine ge_index (d := 163) (ty := 0) (t := 24) (el := 3) (sz := 1) (m := m28.length) (c := cz7) (x := (.tmp 161)) (y := (.tmp 162)) (A := Z7) (k' := .i64) (j := r2) (jn := ((r2).toNat)) (b0 := blkOf Z7) (o0 := offOf Z7) (by kernel_rfl) (by kernel_rfl) (by kernel_rfl) (by kernel_rfl) (by kernel_rfl) ((hS262.rdAt 7 rfl).eqSome (pos_of_get hx21)) (Int.toNat_of_nonneg hc22).symm (lt_of_get hx21) ?_
                refine ge_batch [3, 4] (ans := [.val (.int .i64 e12)]) (vs := [(165, .bool (e12 == 0)), (164, .int .i64 e12)]) (l := [.loaded ⟨blkOf Z7, offOf Z7 + ((r2).toNat) * 1, none⟩ (.int .i64 e12)]) (by kernel_rfl) ⟨RdL.cell (j := 0) (hS262.rdAt 7 rfl) hx21 rfl, trivial⟩ ?_
                refine ge_nil fun a hF => hK48 _ _ ?_ a hF
                by_cases hc24 : e12 = 0
                · rw [if_pos hc24] at h
                  refine we_known (t := 165) (b := (e12 == 0)) (v := true) (by kernel_rfl) (beq_iff_eq.2 hc24) ?_
                  refine we_true (by kernel_rfl) ?_
                  refine we_region [(0, 0), (1, 0), (2, 0), (3, 0), (4, 0), (5, 0), (6, 2)] rfl ?_
                  refine ge_batch [0, 1, 2, 3, 4] (ans := [.val ((.slice Z4 m18.length cz4)), .val (.int .i64 z1)]) (vs := [(170, .int .i64 (IntKind.i64.wrap (z1 + 1))), (169, .int .i64 z1), (168, .int .i64 r2), (167, (.slice Z4 m18.length cz4)), (166, .pointer (some ⟨b8, 1, none⟩))]) (l := [.loaded ⟨b8, 1, none⟩ ((.slice Z4 m18.length cz4)), .loaded ⟨b13, 0, none⟩ (.int .i64 z1)]) (by kernel_rfl) ⟨hS262.cell 3 rfl rfl, hS262.cell 1 rfl rfl, trivial⟩ ?_
                  rcases hx22 : m18[(r2).toNat]? with _ | e13
                  · rw [hx22] at h; cases h
                  rw [hx22] at h
                  simp only [] at h
                  refine ge_index (d := 171) (ty := 0) (t := 24) (el := 3) (sz := 1) (m := m18.length) (c := cz4) (x := (.tmp 167)) (y := (.tmp 168)) (A := Z4) (k' := .i64) (j := r2) (jn := ((r2).toNat)) (b0 := blkOf Z4) (o0 := offOf Z4) (by kernel_rfl) (by kernel_rfl) (by kernel_rfl) (by kernel_rfl) (by kernel_rfl) ((hS262.rdAt 9 rfl).eqSome (pos_of_get hx22)) (Int.toNat_of_nonneg hc22).symm (lt_of_get hx22) ?_
                  have hS263 := hS262.bring 9 rfl
                  refine ge_seti (α := Int) (A := Z4) (nn := m18.length) (c := cz4) (t := 3) (l := m18) (x := e13) (x' := (IntKind.i64.wrap (z1 + 1))) (jn := ((r2).toNat)) (j := 0) (vs := [.int .i64 (IntKind.i64.wrap (z1 + 1))]) (l' := [.stored ⟨blkOf Z4, offOf Z4 + ((r2).toNat) * 1, none⟩ (.int .i64 (IntKind.i64.wrap (z1 + 1)))]) hS263 (by kernel_rfl) (by kernel_rfl) hx22 rfl rfl rfl fun w50 hS264 => ?_
                  have hS265 : St w0 w50 [Own.of (.slice Z4 m18.length cz4) 3 (m18.set ((r2).toNat) (IntKind.i64.wrap (z1 + 1))), Own.of (.slice Z6 (m27.set ((r2).toNat) 0).length cz6) 3 (m27.set ((r2).toNat) 0), Own.blk b13 (.cells #[.int .i64 z1] 3 (0, 0)), Own.blk b11 (.cells #[(.slice Z7 m28.length cz7)] 24 (0, 0)), Own.blk b8 (.cells #[(.slice Z3 (m17.set ((z1).toNat) r2).length cz3), (.slice Z4 m18.length cz4)] 36 (0, 0)), Own.blk b3 (.cells #[.int .i64 0, .int .i64 0] 39 (0, 0)), Own.blk b2 (.cells #[.slice none 0 0, .slice none 0 0] 36 (0, 0)), Own.blk b1 (.cells #[.slice A0 l0.length c0] 49 (0, 0)), Own.of (.slice Z7 m28.length cz7) 3 m28, Own.of (.slice Z3 (m17.set ((z1).toNat) r2).length cz3) 3 (m17.set ((z1).toNat) r2), Own.map (κ := Int) (ν := Int) b5 mp3] := hS264
                  have hE9 : m18.length = (m18.set ((r2).toNat) (IntKind.i64.wrap (z1 + 1))).length := hS265.lenAt 0 rfl
                  have hS266 : St w0 w50 [Own.of (.slice Z4 (m18.set ((r2).toNat) (IntKind.i64.wrap (z1 + 1))).length cz4) 3 (m18.set ((r2).toNat) (IntKind.i64.wrap (z1 + 1))), Own.of (.slice Z6 (m27.set ((r2).toNat) 0).length cz6) 3 (m27.set ((r2).toNat) 0), Own.blk b13 (.cells #[.int .i64 z1] 3 (0, 0)), Own.blk b11 (.cells #[(.slice Z7 m28.length cz7)] 24 (0, 0)), Own.blk b8 (.cells #[(.slice Z3 (m17.set ((z1).toNat) r2).length cz3), (.slice Z4 (m18.set ((r2).toNat) (IntKind.i64.wrap (z1 + 1))).length cz4)] 36 (0, 0)), Own.blk b3 (.cells #[.int .i64 0, .int .i64 0] 39 (0, 0)), Own.blk b2 (.cells #[.slice none 0 0, .slice none 0 0] 36 (0, 0)), Own.blk b1 (.cells #[.slice A0 l0.length c0] 49 (0, 0)), Own.of (.slice Z7 m28.length cz7) 3 m28, Own.of (.slice Z3 (m17.set ((z1).toNat) r2).length cz3) 3 (m17.set ((z1).toNat) r2), Own.map (κ := Int) (ν := Int) b5 mp3] := by rw [← hE9]; exact hS265
                  refine ge_same (t := 167) (v := (.slice Z4 m18.length cz4)) (v' := (.slice Z4 (m18.set ((r2).toNat) (IntKind.i64.wrap (z1 + 1))).length cz4)) (by kernel_rfl) (by rw [hE9]) ?_
                  refine ge_nil fun a hF => hK36 _ _ ?_ a hF
                  refine we_region [(0, 0), (1, 0)] rfl ?_
                  refine ge_batch [0, 1] (ans := []) (vs := [(104, .int .i64 (IntKind.i64.wrap (z1 + 1))), (172, .int .i64 (IntKind.i64.wrap (z1 + 1)))]) (l := []) (by kernel_rfl) trivial ?_
                  have hS267 := hS266.bring 10 rfl
                  have hS268 := hS267.bring 1 rfl
                  have hS269 := hS268.bring 10 rfl
                  have hS270 := hS269.bring 10 rfl
                  have hS271 := hS270.bring 4 rfl
                  have hS272 := hS271.bring 10 rfl
                  have hS273 := hS272.bring 10 rfl
                  have hS274 := hS273.bring 10 rfl
                  have hS275 := hS274.bring 10 rfl
                  have hS276 := hS275.bring 10 rfl
                  have hS277 := hS276.takeN 10
                  obtain rfl := Option.some.inj h
                  exact ge_nil fun a hF => hQ _ _ _ (Outs.again ⟨hS277, hF.weaken ⟨by kernel_rfl, by kernel_rfl, by kernel_rfl, by kernel_rfl, by kernel_rfl, by kernel_rfl, by kernel_rfl, by kernel_rfl, by kernel_rfl, by kernel_rfl, trivial⟩⟩)
                · rw [if_neg hc24] at h
                  refine we_known (t := 165) (b := (e12 == 0)) (v := false) (by kernel_rfl) (beq_eq_false_iff_ne.2 hc24) ?_
                  refine we_false (by kernel_rfl) ?_
                  refine we_skip fun a hF => hK36 _ _ ?_ a hF
                  refine we_region [(0, 0), (1, 0)] rfl ?_
                  refine ge_batch [0, 1] (ans := []) (vs := [(104, .int .i64 (IntKind.i64.wrap (z1 + 1))), (172, .int .i64 (IntKind.i64.wrap (z1 + 1)))]) (l := []) (by kernel_rfl) trivial ?_
                  have hS278 := hS262.bring 10 rfl
                  have hS279 := hS278.bring 10 rfl
                  have hS280 := hS279.bring 10 rfl
                  have hS281 := hS280.bring 10 rfl
                  have hS282 := hS281.bring 4 rfl
                  have hS283 := hS282.bring 10 rfl
                  have hS284 := hS283.bring 10 rfl
                  have hS285 := hS284.bring 10 rfl
                  have hS286 := hS285.bring 10 rfl
                  have hS287 := hS286.bring 10 rfl
                  have hS288 := hS287.takeN 10
                  obtain rfl := Option.some.inj h
                  exact ge_nil fun a hF => hQ _ _ _ (Outs.again ⟨hS288, hF.weaken ⟨by kernel_rfl, by kernel_rfl, by kernel_rfl, by kernel_rfl, by kernel_rfl, by kernel_rfl, by kernel_rfl, by kernel_rfl, by kernel_rfl, by kernel_rfl, trivial⟩⟩)
              · rw [if_neg hc23] at h
                refine we_known (t := 157) (b := (e11 == x1)) (v := false) (by kernel_rfl) (beq_eq_false_iff_ne.2 hc23) ?_
                refine we_false (by kernel_rfl) ?_
                refine we_skip fun a hF => hK46 _ _ ?_ a hF
                refine we_seq fun K49 hK49 => ?_
                refine we_region [(0, 0), (1, 0), (2, 0), (3, 0), (4, 0)] rfl ?_
                refine ge_batch [0, 1] (ans := [.val ((.slice Z7 m28.length cz7))]) (vs := [(162, .int .i64 r2), (161, (.slice Z7 m28.length cz7))]) (l := [.loaded ⟨b11, 0, none⟩ ((.slice Z7 m28.length cz7))]) (by kernel_rfl) ⟨hS258.cell 1 rfl rfl, trivial⟩ ?_
                rcases hx23 : m28[(r2).toNat]? with _ | e14
                · rw [hx23] at h; cases h
                rw [hx23] at h
                simp only [] at h
                refine ge_index (d := 163) (ty := 0) (t := 24) (el := 3) (sz := 1) (m := m28.length) (c := cz7) (x := (.tmp 161)) (y := (.tmp 162)) (A := Z7) (k' := .i64) (j := r2) (jn := ((r2).toNat)) (b0 := blkOf Z7) (o0 := offOf Z7) (by kernel_rfl) (by kernel_rfl) (by kernel_rfl) (by kernel_rfl) (by kernel_rfl) ((hS258.rdAt 7 rfl).eqSome (pos_of_get hx23)) (Int.toNat_of_nonneg hc22).symm (lt_of_get hx23) ?_
                refine ge_batch [3, 4] (ans := [.val (.int .i64 e14)]) (vs := [(165, .bool (e14 == 0)), (164, .int .i64 e14)]) (l := [.loaded ⟨blkOf Z7, offOf Z7 + ((r2).toNat) * 1, none⟩ (.int .i64 e14)]) (by kernel_rfl) ⟨RdL.cell (j := 0) (hS258.rdAt 7 rfl) hx23 rfl, trivial⟩ ?_
                refine ge_nil fun a hF => hK49 _ _ ?_ a hF
                by_cases hc25 : e14 = 0
                · rw [if_pos hc25] at h
                  refine we_known (t := 165) (b := (e14 == 0)) (v := true) (by kernel_rfl) (beq_iff_eq.2 hc25) ?_
                  refine we_true (by kernel_rfl) ?_
                  refine we_region [(0, 0), (1, 0), (2, 0), (3, 0), (4, 0), (5, 0), (6, 2)] rfl ?_
                  refine ge_batch [0, 1, 2, 3, 4] (ans := [.val ((.slice Z4 m18.length cz4)), .val (.int .i64 z1)]) (vs := [(170, .int .i64 (IntKind.i64.wrap (z1 + 1))), (169, .int .i64 z1), (168, .int .i64 r2), (167, (.slice Z4 m18.length cz4)), (166, .pointer (some ⟨b8, 1, none⟩))]) (l := [.loaded ⟨b8, 1, none⟩ ((.slice Z4 m18.length cz4)), .loaded ⟨b13, 0, none⟩ (.int .i64 z1)]) (by kernel_rfl) ⟨hS258.cell 2 rfl rfl, hS258.cell 0 rfl rfl, trivial⟩ ?_
                  rcases hx24 : m18[(r2).toNat]? with _ | e15
                  · rw [hx24] at h; cases h
                  rw [hx24] at h
                  simp only [] at h
                  refine ge_index (d := 171) (ty := 0) (t := 24) (el := 3) (sz := 1) (m := m18.length) (c := cz4) (x := (.tmp 167)) (y := (.tmp 168)) (A := Z4) (k' := .i64) (j := r2) (jn := ((r2).toNat)) (b0 := blkOf Z4) (o0 := offOf Z4) (by kernel_rfl) (by kernel_rfl) (by kernel_rfl) (by kernel_rfl) (by kernel_rfl) ((hS258.rdAt 9 rfl).eqSome (pos_of_get hx24)) (Int.toNat_of_nonneg hc22).symm (lt_of_get hx24) ?_
                  have hS289 := hS258.bring 9 rfl
                  refine ge_seti (α := Int) (A := Z4) (nn := m18.length) (c := cz4) (t := 3) (l := m18) (x := e15) (x' := (IntKind.i64.wrap (z1 + 1))) (jn := ((r2).toNat)) (j := 0) (vs := [.int .i64 (IntKind.i64.wrap (z1 + 1))]) (l' := [.stored ⟨blkOf Z4, offOf Z4 + ((r2).toNat) * 1, none⟩ (.int .i64 (IntKind.i64.wrap (z1 + 1)))]) hS289 (by kernel_rfl) (by kernel_rfl) hx24 rfl rfl rfl fun w51 hS290 => ?_
                  have hS291 : St w0 w51 [Own.of (.slice Z4 m18.length cz4) 3 (m18.set ((r2).toNat) (IntKind.i64.wrap (z1 + 1))), Own.blk b13 (.cells #[.int .i64 z1] 3 (0, 0)), Own.blk b11 (.cells #[(.slice Z7 m28.length cz7)] 24 (0, 0)), Own.blk b8 (.cells #[(.slice Z3 (m17.set ((z1).toNat) r2).length cz3), (.slice Z4 m18.length cz4)] 36 (0, 0)), Own.blk b3 (.cells #[.int .i64 0, .int .i64 0] 39 (0, 0)), Own.blk b2 (.cells #[.slice none 0 0, .slice none 0 0] 36 (0, 0)), Own.blk b1 (.cells #[.slice A0 l0.length c0] 49 (0, 0)), Own.of (.slice Z6 m27.length cz6) 3 m27, Own.of (.slice Z7 m28.length cz7) 3 m28, Own.of (.slice Z3 (m17.set ((z1).toNat) r2).length cz3) 3 (m17.set ((z1).toNat) r2), Own.map (κ := Int) (ν := Int) b5 mp3] := hS290
                  have hE10 : m18.length = (m18.set ((r2).toNat) (IntKind.i64.wrap (z1 + 1))).length := hS291.lenAt 0 rfl
                  have hS292 : St w0 w51 [Own.of (.slice Z4 (m18.set ((r2).toNat) (IntKind.i64.wrap (z1 + 1))).length cz4) 3 (m18.set ((r2).toNat) (IntKind.i64.wrap (z1 + 1))), Own.blk b13 (.cells #[.int .i64 z1] 3 (0, 0)), Own.blk b11 (.cells #[(.slice Z7 m28.length cz7)] 24 (0, 0)), Own.blk b8 (.cells #[(.slice Z3 (m17.set ((z1).toNat) r2).length cz3), (.slice Z4 (m18.set ((r2).toNat) (IntKind.i64.wrap (z1 + 1))).length cz4)] 36 (0, 0)), Own.blk b3 (.cells #[.int .i64 0, .int .i64 0] 39 (0, 0)), Own.blk b2 (.cells #[.slice none 0 0, .slice none 0 0] 36 (0, 0)), Own.blk b1 (.cells #[.slice A0 l0.length c0] 49 (0, 0)), Own.of (.slice Z6 m27.length cz6) 3 m27, Own.of (.slice Z7 m28.length cz7) 3 m28, Own.of (.slice Z3 (m17.set ((z1).toNat) r2).length cz3) 3 (m17.set ((z1).toNat) r2), Own.map (κ := Int) (ν := Int) b5 mp3] := by rw [← hE10]; exact hS291
                  refine ge_same (t := 167) (v := (.slice Z4 m18.length cz4)) (v' := (.slice Z4 (m18.set ((r2).toNat) (IntKind.i64.wrap (z1 + 1))).length cz4)) (by kernel_rfl) (by rw [hE10]) ?_
                  refine ge_nil fun a hF => hK36 _ _ ?_ a hF
                  refine we_region [(0, 0), (1, 0)] rfl ?_
                  refine ge_batch [0, 1] (ans := []) (vs := [(104, .int .i64 (IntKind.i64.wrap (z1 + 1))), (172, .int .i64 (IntKind.i64.wrap (z1 + 1)))]) (l := []) (by kernel_rfl) trivial ?_
                  have hS293 := hS292.bring 10 rfl
                  have hS294 := hS293.bring 1 rfl
                  have hS295 := hS294.bring 10 rfl
                  have hS296 := hS295.bring 10 rfl
                  have hS297 := hS296.bring 10 rfl
                  have hS298 := hS297.bring 10 rfl
                  have hS299 := hS298.bring 10 rfl
                  have hS300 := hS299.bring 10 rfl
                  have hS301 := hS300.bring 10 rfl
                  have hS302 := hS301.bring 10 rfl
                  have hS303 := hS302.takeN 10
                  obtain rfl := Option.some.inj h
                  exact ge_nil fun a hF => hQ _ _ _ (Outs.again ⟨hS303, hF.weaken ⟨by kernel_rfl, by kernel_rfl, by kernel_rfl, by kernel_rfl, by kernel_rfl, by kernel_rfl, by kernel_rfl, by kernel_rfl, by kernel_rfl, by kernel_rfl, trivial⟩⟩)
                · rw [if_neg hc25] at h
                  refine we_known (t := 165) (b := (e14 == 0)) (v := false) (by kernel_rfl) (beq_eq_false_iff_ne.2 hc25) ?_
                  refine we_false (by kernel_rfl) ?_
                  refine we_skip fun a hF => hK36 _ _ ?_ a hF
                  refine we_region [(0, 0), (1, 0)] rfl ?_
                  refine ge_batch [0, 1] (ans := []) (vs := [(104, .int .i64 (IntKind.i64.wrap (z1 + 1))), (172, .int .i64 (IntKind.i64.wrap (z1 + 1)))]) (l := []) (by kernel_rfl) trivial ?_
                  have hS304 := hS258.bring 10 rfl
                  have hS305 := hS304.bring 10 rfl
                  have hS306 := hS305.bring 10 rfl
                  have hS307 := hS306.bring 10 rfl
                  have hS308 := hS307.bring 10 rfl
                  have hS309 := hS308.bring 10 rfl
                  have hS310 := hS309.bring 10 rfl
                  have hS311 := hS310.bring 10 rfl
                  have hS312 := hS311.bring 10 rfl
                  have hS313 := hS312.bring 10 rfl
                  have hS314 := hS313.takeN 10
                  obtain rfl := Option.some.inj h
                  exact ge_nil fun a hF => hQ _ _ _ (Outs.again ⟨hS314, hF.weaken ⟨by kernel_rfl, by kernel_rfl, by kernel_rfl, by kernel_rfl, by kernel_rfl, by kernel_rfl, by kernel_rfl, by kernel_rfl, by kernel_rfl, by kernel_rfl, trivial⟩⟩)
            · rw [if_neg hc22] at h
              cases h
          · rw [hq9] at h
            simp only [] at h
            refine we_keep (e' := [(1, .int .i64 x1), (4, .pointer (some ⟨b1, 0, none⟩)), (8, .pointer (some ⟨b2, 0, none⟩)), (9, .pointer (some ⟨b3, 0, none⟩)), (11, .map (some b5)), (14, .pointer (some ⟨b8, 0, none⟩)), (15, .pointer (some ⟨b11, 0, none⟩)), (16, (.slice Z6 m15.length cz6)), (19, .pointer (some ⟨b13, 0, none⟩)), (20, .int .i64 r2), (103, .int .i64 x3), (104, .int .i64 z1), (105, .bool true), (106, .int .i64 z1), (107, .slice A0 l0.length c0), (108, .func (.func 131) #[] #[.pointer (some ⟨b1, 0, none⟩), .pointer (some ⟨b13, 0, none⟩), .pointer (some ⟨b11, 0, none⟩)]), (109, .int .i64 r2), (110, .pointer (some ⟨b8, 0, none⟩)), (111, (.slice Z3 (m17.set ((z1).toNat) r2).length cz3)), (112, .int .i64 z1), (113, .int .i64 r2), (114, .pointer (some ⟨blkOf Z3, offOf Z3 + (z1).toNat * 1, none⟩)), (115, .int .i64 r2), (116, .bool false), (117, .map (some b5)), (118, .int .i64 z1), (119, .int .i64 ((mget mp3 z1).getD 0)), (120, .bool false)]) ⟨by kernel_rfl, by kernel_rfl, by kernel_rfl, by kernel_rfl, by kernel_rfl, by kernel_rfl, by kernel_rfl, by kernel_rfl, by kernel_rfl, by kernel_rfl, by kernel_rfl, by kernel_rfl, by kernel_rfl, by kernel_rfl, by kernel_rfl, by kernel_rfl, by kernel_rfl, by kernel_rfl, by kernel_rfl, by kernel_rfl, by kernel_rfl, by kernel_rfl, by kernel_rfl, by kernel_rfl, by kernel_rfl, by kernel_rfl, by kernel_rfl, by kernel_rfl, trivial⟩ (redo_Play_p7 K w0 l0 A0 c0 x1 l2 A2 c2 x3 hR0 hL0 hR2 hL2 b1 b2 b3 r1 b4 hc1 hc6 b5 mp3 b8 m3 m4 Z3 cz3 Z4 cz4 b11 m7 m8 Z6 cz6 Z7 cz7 m13 m14 z1 m15 m16 m17 m18 hc16 b13 r2 hc17 e6 hx15 hc18 hc19 _ hq9 _ hS195 _ ?_)
            rintro _ a w1 ⟨_, rfl, hb⟩
            obtain rfl := Option.some.inj h
            exact hQ _ _ _ (Outs.out nofun (Exits.on ⟨rfl, hb⟩))
    · rw [if_neg hc17] at h
      cases h
  · rw [if_neg hc16] at h
    refine we_known (t := 105) (b := decide (z1 < x3)) (v := false) (by kernel_rfl) (decide_eq_false hc16) ?_
    refine we_false (by kernel_rfl) ?_
    have hS315 := hS.bring 8 rfl
    have hS316 := hS315.bring 8 rfl
    have hS317 := hS316.bring 5 rfl
    have hS318 := hS317.bring 5 rfl
    have hS319 := hS318.bring 5 rfl
    have hS320 := hS319.takeN 5
    obtain rfl := Option.some.inj h
    exact we_exit fun a hF => hQ _ _ _ (Outs.out nofun (Exits.here ⟨hS320, hF.weaken ⟨by kernel_rfl, by kernel_rfl, by kernel_rfl, trivial⟩⟩))
abbrev redo_Play.A8 (K : Nat) (w0 : World) (l0 : List SJob) (A0 : Option Addr) (c0 : Nat) (x1 : Int) (l2 : List Int) (A2 : Option Addr) (c2 : Nat) (x3 : Int) (hR0 : RdL w0 A0 l0) (hL0 : l0.length ≤ c0) (hR2 : RdL w0 A2 l2) (hL2 : l2.length ≤ c2) (b1 : Nat) (b2 : Nat) (b3 : Nat) (r1 : SFault) (b4 : Nat) (hc1 : ¬ (r1.Code = 0)) : (Int × Int × (List Int) × (List Int)) → Act → World → Prop := fun (s : Int × Int × (List Int) × (List Int)) a w => ∃ (v13 : Value) (v14 : Value), St w0 w [Own.blk b3 (.cells #[.int .i64 s.1, .int .i64 s.2.1] 39 (0, 0)), Own.blk b2 (.cells #[v13, v14] 36 (0, 0)), Own.of v13 3 s.2.2.1, Own.of v14 3 s.2.2.2] ∧ Frm 175 a [(8, .pointer (some ⟨b2, 0, none⟩)), (9, .pointer (some ⟨b3, 0, none⟩))]
abbrev redo_Play.B8 (K : Nat) (w0 : World) (l0 : List SJob) (A0 : Option Addr) (c0 : Nat) (x1 : Int) (l2 : List Int) (A2 : Option Addr) (c2 : Nat) (x3 : Int) (hR0 : RdL w0 A0 l0) (hL0 : l0.length ≤ c0) (hR2 : RdL w0 A2 l2) (hL2 : l2.length ≤ c2) (b1 : Nat) (b2 : Nat) (b3 : Nat) (r1 : SFault) (b4 : Nat) (hc1 : ¬ (r1.Code = 0)) : (SPlayed × SFault) → Exit → Act → World → Prop := Rets Tryd.prog Tryd.f69 (redo_Play.Post w0)
theorem redo_Play_p8 (K : Nat) (w0 : World) (l0 : List SJob) (A0 : Option Addr) (c0 : Nat) (x1 : Int) (l2 : List Int) (A2 : Option Addr) (c2 : Nat) (x3 : Int) (hR0 : RdL w0 A0 l0) (hL0 : l0.length ≤ c0) (hR2 : RdL w0 A2 l2) (hL2 : l2.length ≤ c2) (b1 : Nat) (b2 : Nat) (b3 : Nat) (r1 : SFault) (b4 : Nat) (hc1 : ¬ (r1.Code = 0)) (o : (Int × Int × (List Int) × (List Int)) ⊕ (SPlayed × SFault)) (h : redo_Play.p8 r1 = some o) (w : World) (hS : St w0 w [Own.blk b4 (.cells #[.int .i64 r1.Code, .int .i64 r1.At] 39 (0, 0)), Own.blk b3 (.cells #[.int .i64 0, .int .i64 0] 39 (0, 0)), Own.blk b2 (.cells #[.slice none 0 0, .slice none 0 0] 36 (0, 0)), Own.blk b1 (.cells #[.slice A0 l0.length c0] 49 (0, 0))]) (Q : Exit → Act → World → Prop) (hQ : ∀ x a w, Outs (redo_Play.A8 K w0 l0 A0 c0 x1 l2 A2 c2 x3 hR0 hL0 hR2 hL2 b1 b2 b3 r1 b4 hc1) (redo_Play.B8 K w0 l0 A0 c0 x1 l2 A2 c2 x3 hR0 hL0 hR2 hL2 b1 b2 b3 r1 b4 hc1) o x a w → Q x a w) : WE Tryd.prog 175 (subF Tryd.f69 [1, 0, 1, 1, 0, 0]) Q [(0, .slice A0 l0.length c0), (1, .int .i64 x1), (2, .slice A2 l2.length c2), (3, .int .i64 x3), (4, .pointer (some ⟨b1, 0, none⟩)), (8, .pointer (some ⟨b2, 0, none⟩)), (9, .pointer (some ⟨b3, 0, none⟩)), (10, .pointer (some ⟨b4, 0, none⟩)), (21, .slice A0 l0.length c0), (22, .agg #[.int .i64 r1.Code, .int .i64 r1.At]), (23, .pointer (some ⟨b4, 0, none⟩)), (24, .int .i64 r1.Code), (25, .bool true)] w := by
  simp only [redo_Play.p8] at h
  refine we_orders2 (by kernel_rfl) [(1, [⟨b4, 0, none⟩, ⟨b4, 1, none⟩])] (.vals [0] (.vals [1] (.alt 2 2 (.alt 3 2 .fin .nomore) .nomore))) (by kernel_rfl) ?_
  have hS331 := hS.drew
  refine go2_batch [0] (ans := []) (vs := [(26, .agg #[.slice none 0 0, .slice none 0 0])]) (l := []) (by kernel_rfl) trivial mem_nil ?_
  refine go2_batch [1] (ans := [.val (.int .i64 r1.Code), .val (.int .i64 r1.At)]) (vs := [(27, .agg #[.int .i64 r1.Code, .int .i64 r1.At])]) (l := [.loaded ⟨b4, 0, none⟩ (.int .i64 r1.Code), .loaded ⟨b4, 1, none⟩ (.int .i64 r1.At)]) (by kernel_rfl) ⟨hS331.cell 0 rfl rfl, hS331.cell 0 rfl rfl, trivial⟩ (mem_one (by kernel_rfl)) ?_
  refine go_alt2 (fun KK hKK => ?_) ?_
  · have hS332 := hS331.bring 2 rfl
    refine ge_set (b := b2) (j := 0) (cs := #[.slice none 0 0, .slice none 0 0]) (t := 36) (vs := [.slice none 0 0, .slice none 0 0]) hS332 (by kernel_rfl) rfl rfl fun w55 hS333 => ?_
    have hS334 : St w0 w55 [Own.blk b2 (.cells #[.slice none 0 0, .slice none 0 0] 36 (0, 0)), Own.blk b4 (.cells #[.int .i64 r1.Code, .int .i64 r1.At] 39 (0, 0)), Own.blk b3 (.cells #[.int .i64 0, .int .i64 0] 39 (0, 0)), Own.blk b1 (.cells #[.slice A0 l0.length c0] 49 (0, 0))] := hS333
    refine ge_nil fun a hF => hKK _ _ (RS.of2 (l := [.loaded ⟨b4, 0, none⟩ (.int .i64 r1.Code), .loaded ⟨b4, 1, none⟩ (.int .i64 r1.At)]) (by kernel_rfl) ⟨hS331.cell 0 rfl rfl, hS331.cell 0 rfl rfl, trivial⟩ ⟨hS334.cell 1 rfl rfl, hS334.cell 1 rfl rfl, trivial⟩) ?_ a hF
    refine go_alt2 (fun KK hKK => ?_) ?_
    · have hS335 := hS334.bring 2 rfl
      refine ge_set (b := b3) (j := 0) (cs := #[.int .i64 0, .int .i64 0]) (t := 39) (vs := [.int .i64 r1.Code, .int .i64 r1.At]) hS335 (by kernel_rfl) rfl rfl fun w56 hS336 => ?_
      have hS337 : St w0 w56 [Own.blk b3 (.cells #[.int .i64 r1.Code, .int .i64 r1.At] 39 (0, 0)), Own.blk b2 (.cells #[.slice none 0 0, .slice none 0 0] 36 (0, 0)), Own.blk b4 (.cells #[.int .i64 r1.Code, .int .i64 r1.At] 39 (0, 0)), Own.blk b1 (.cells #[.slice A0 l0.length c0] 49 (0, 0))] := hS336
      refine ge_nil fun a hF => hKK _ _ (RS.of2 (l := []) (by kernel_rfl) trivial trivial) ?_ a hF
      have hS338 := hS337.nil (α := Int) 3
      have hS339 := hS338.nil (α := Int) 3
      have hS340 := hS339.bring 1 rfl
      have hS341 := hS340.bring 1 rfl
      have hS342 := hS341.bring 3 rfl
      have hS343 := hS342.bring 3 rfl
      have hS344 := hS343.takeN 4
      obtain rfl := Option.some.inj h
      exact go_fin2 fun a hF => hQ _ _ _ (Outs.again ⟨(.slice none 0 0), (.slice none 0 0), hS344, hF.weaken ⟨by kernel_rfl, by kernel_rfl, trivial⟩⟩)
    exact go_nomore2
  exact go_nomore2
theorem redo_Play_ok (K : Nat) (l0 : List SJob) (A0 : Option Addr) (c0 : Nat) (x1 : Int) (l2 : List Int) (A2 : Option Addr) (c2 : Nat) (x3 : Int) (w0 : World) (hR0 : RdL w0 A0 l0) (hL0 : l0.length ≤ c0) (hR2 : RdL w0 A2 l2) (hL2 : l2.length ≤ c2) (r : SPlayed × SFault) (h : redo_Play.f K l0 x1 l2 x3 = some r) :
    Calls Tryd.prog 69 #[.slice A0 l0.length c0, .int .i64 x1, .slice A2 l2.length c2, .int .i64 x3] w0 (redo_Play.Post w0 r) := by
  have hS := St.start w0
  unfold redo_Play.f at h
  refine calls_enter (n := 175) (args := [.slice A0 l0.length c0, .int .i64 x1, .slice A2 l2.length c2, .int .i64 x3]) (fn := Tryd.f69) rfl rfl rfl rfl ?_
  show WE _ _ _ _ [(0, .slice A0 l0.length c0), (1, .int .i64 x1), (2, .slice A2 l2.length c2), (3, .int .i64 x3)] _
  refine we_seq fun K1 hK1 => ?_
  refine we_region [(0, 1), (1, 1), (2, 1)] rfl ?_
  refine ge_new (d := some 4) (o := .cells #[.slice A0 l0.length c0] 49) (v := fun b => .pointer (some ⟨b, 0, none⟩)) hS (fun b => by kernel_rfl) fun b1 w1 hx1 hS1 => ?_
  refine ge_new (d := some 8) (o := .cells #[.slice none 0 0, .slice none 0 0] 36) (v := fun b => .pointer (some ⟨b, 0, none⟩)) hS1 (fun b => by kernel_rfl) fun b2 w2 hx2 hS2 => ?_
  refine ge_new (d := some 9) (o := .cells #[.int .i64 0, .int .i64 0] 39) (v := fun b => .pointer (some ⟨b, 0, none⟩)) hS2 (fun b => by kernel_rfl) fun b3 w3 hx3 hS3 => ?_
  refine ge_nil fun a hF => hK1 _ _ ?_ a hF
  refine we_seq fun K2 hK2 => ?_
  refine we_seq fun K3 hK3 => ?_
  refine we_region [(0, 0), (1, 1), (2, 1), (3, 2)] rfl ?_
  rcases hq1 : sched_Check.f K l0 with _ | r1
  · rw [hq1] at h; cases h
  rw [hq1] at h
  simp only [] at h
  refine ge_batch [0] (ans := [.val (.slice A0 l0.length c0)]) (vs := [(21, .slice A0 l0.length c0)]) (l := [.loaded ⟨b1, 0, none⟩ (.slice A0 l0.length c0)]) (by kernel_rfl) ⟨hS3.cell 2 rfl rfl, trivial⟩ ?_
  refine ge_call (d := some 22) (f := 129) (args := #[.slice A0 l0.length c0]) (by kernel_rfl) (sched_Check_ok K l0 A0 c0 _ (hS3.rd hR0) hL0 _ hq1) ?_
  rintro _ w4 ⟨rfl, hS4⟩
  refine ⟨_, rfl, hS4.below, ?_⟩
  have hS5 := hS3.call hS4
  refine ge_new (d := some 10) (o := .cells #[.int .i64 0, .int .i64 0] 39) (v := fun b => .pointer (some ⟨b, 0, none⟩)) hS5 (fun b => by kernel_rfl) fun b4 w5 hx4 hS6 => ?_
  refine ge_set (b := b4) (j := 0) (cs := #[.int .i64 0, .int .i64 0]) (t := 39) (vs := [.int .i64 r1.Code, .int .i64 r1.At]) hS6 (by kernel_rfl) rfl rfl fun w6 hS7 => ?_
  have hS8 : St w0 w6 [Own.blk b4 (.cells #[.int .i64 r1.Code, .int .i64 r1.At] 39 (0, 0)), Own.blk b3 (.cells #[.int .i64 0, .int .i64 0] 39 (0, 0)), Own.blk b2 (.cells #[.slice none 0 0, .slice none 0 0] 36 (0, 0)), Own.blk b1 (.cells #[.slice A0 l0.length c0] 49 (0, 0))] := hS7
  refine ge_nil fun a hF => hK3 _ _ ?_ a hF
  refine we_seq fun K4 hK4 => ?_
  refine we_region [(0, 0), (1, 0), (2, 0)] rfl ?_
  refine ge_batch [0, 1, 2] (ans := [.val (.int .i64 r1.Code)]) (vs := [(25, .bool (r1.Code != 0)), (24, .int .i64 r1.Code), (23, .pointer (some ⟨b4, 0, none⟩))]) (l := [.loaded ⟨b4, 0, none⟩ (.int .i64 r1.Code)]) (by kernel_rfl) ⟨hS8.cell 0 rfl rfl, trivial⟩ ?_
  refine ge_nil fun a hF => hK4 _ _ ?_ a hF
  by_cases hc1 : r1.Code = 0
  · rw [if_pos hc1] at h
    refine we_known (t := 25) (b := (r1.Code != 0)) (v := false) (by kernel_rfl) (bne_eq_false_iff_eq.2 hc1) ?_
    refine we_false (by kernel_rfl) ?_
    refine we_skip fun a hF => hK2 _ _ ?_ a hF
    refine we_seq fun K5 hK5 => ?_
    rcases hq2 : redo_Play.p0 x1 x3 with _ | (_ | rr8)
    · rw [hq2] at h; cases h
    · rw [hq2] at h
      simp only [] at h
      refine we_keep (e' := [(0, .slice A0 l0.length c0), (1, .int .i64 x1), (2, .slice A2 l2.length c2), (3, .int .i64 x3), (4, .pointer (some ⟨b1, 0, none⟩)), (8, .pointer (some ⟨b2, 0, none⟩)), (9, .pointer (some ⟨b3, 0, none⟩)), (10, .pointer (some ⟨b4, 0, none⟩)), (21, .slice A0 l0.length c0), (22, .agg #[.int .i64 r1.Code, .int .i64 r1.At]), (23, .pointer (some ⟨b4, 0, none⟩)), (24, .int .i64 r1.Code), (25, .bool false)]) ⟨by kernel_rfl, by kernel_rfl, by kernel_rfl, by kernel_rfl, by kernel_rfl, by kernel_rfl, by kernel_rfl, by kernel_rfl, by kernel_rfl, by kernel_rfl, by kernel_rfl, by kernel_rfl, by kernel_rfl, trivial⟩ (redo_Play_p0 K w0 l0 A0 c0 x1 l2 A2 c2 x3 hR0 hL0 hR2 hL2 b1 b2 b3 r1 b4 hc1 _ hq2 _ hS8 _ ?_)
      rintro _ a w15 ⟨rfl, hS57, hF⟩
      replace hS57 : St w0 w15 [Own.blk b3 (.cells #[.int .i64 0, .int .i64 0] 39 (0, 0)), Own.blk b2 (.cells #[.slice none 0 0, .slice none 0 0] 36 (0, 0)), Own.blk b1 (.cells #[.slice A0 l0.length c0] 49 (0, 0))] := hS57
      refine hK5 [(1, .int .i64 x1), (2, .slice A2 l2.length c2), (3, .int .i64 x3), (4, .pointer (some ⟨b1, 0, none⟩)), (8, .pointer (some ⟨b2, 0, none⟩)), (9, .pointer (some ⟨b3, 0, none⟩))] w15 ?_ a hF
      refine we_seq fun K11 hK11 => ?_
      refine we_seq fun K12 hK12 => ?_
      refine we_region [(0, 0), (1, 0), (2, 0)] rfl ?_
      refine ge_batch [0, 1, 2] (ans := []) (vs := [(46, .bool (decide ((l2.length : Int) > 4000))), (45, .int .i64 (l2.length : Int)), (44, .slice A2 l2.length c2)]) (l := []) (by kernel_rfl) trivial ?_
      refine ge_nil fun a hF => hK12 _ _ ?_ a hF
      by_cases hc6 : (l2.length : Int) > 4000
      · rw [if_pos hc6] at h
        refine we_known (t := 46) (b := decide ((l2.length : Int) > 4000)) (v := true) (by kernel_rfl) (decide_eq_true hc6) ?_
        refine we_true (by kernel_rfl) ?_
        refine we_seq fun K13 hK13 => ?_
        refine we_region [(0, 0), (1, 0), (2, 2), (3, 2)] rfl ?_
        refine ge_batch [0, 1] (ans := []) (vs := [(48, .agg #[.int .i64 2, .int .i64 0]), (47, .agg #[.slice none 0 0, .slice none 0 0])]) (l := []) (by kernel_rfl) trivial ?_
        have hS58 := hS57.bring 1 rfl
        refine ge_set (b := b2) (j := 0) (cs := #[.slice none 0 0, .slice none 0 0]) (t := 36) (vs := [.slice none 0 0, .slice none 0 0]) hS58 (by kernel_rfl) rfl rfl fun w16 hS59 => ?_
        have hS60 : St w0 w16 [Own.blk b2 (.cells #[.slice none 0 0, .slice none 0 0] 36 (0, 0)), Own.blk b3 (.cells #[.int .i64 0, .int .i64 0] 39 (0, 0)), Own.blk b1 (.cells #[.slice A0 l0.length c0] 49 (0, 0))] := hS59
        have hS61 := hS60.bring 1 rfl
        refine ge_set (b := b3) (j := 0) (cs := #[.int .i64 0, .int .i64 0]) (t := 39) (vs := [.int .i64 2, .int .i64 0]) hS61 (by kernel_rfl) rfl rfl fun w17 hS62 => ?_
        have hS63 : St w0 w17 [Own.blk b3 (.cells #[.int .i64 2, .int .i64 0] 39 (0, 0)), Own.blk b2 (.cells #[.slice none 0 0, .slice none 0 0] 36 (0, 0)), Own.blk b1 (.cells #[.slice A0 l0.length c0] 49 (0, 0))] := hS62
        refine ge_nil fun a hF => hK13 _ _ ?_ a hF
        have hS64 := hS63.nil (α := Int) 3
        have hS65 := hS64.nil (α := Int) 3
        have hS66 := hS65.bring 1 rfl
        have hS67 := hS66.bring 1 rfl
        have hS68 := hS67.takeN 2
        obtain rfl := Option.some.inj h
        exact we_ret (post_ret (rs := [.cell 8 36, .cell 9 39]) (ans := [.val ((.slice none 0 0)), .val ((.slice none 0 0)), .val (.int .i64 2), .val (.int .i64 0)]) (vs := [.agg #[(.slice none 0 0), (.slice none 0 0)], .agg #[.int .i64 2, .int .i64 0]]) (l := [.loaded ⟨b2, 0, none⟩ ((.slice none 0 0)), .loaded ⟨b2, 1, none⟩ ((.slice none 0 0)), .loaded ⟨b3, 0, none⟩ (.int .i64 2), .loaded ⟨b3, 1, none⟩ (.int .i64 0)]) rfl (by kernel_rfl) ⟨hS65.cell 3 rfl rfl, hS65.cell 3 rfl rfl, hS65.cell 2 rfl rfl, hS65.cell 2 rfl rfl, trivial⟩ ⟨(.slice none 0 0), (.slice none 0 0), rfl, hS68⟩)
      · rw [if_neg hc6] at h
        refine we_known (t := 46) (b := decide ((l2.length : Int) > 4000)) (v := false) (by kernel_rfl) (decide_eq_false hc6) ?_
        refine we_false (by kernel_rfl) ?_
        refine we_skip fun a hF => hK11 _ _ ?_ a hF
        refine we_seq fun K14 hK14 => ?_
        refine we_region [(0, 1), (1, 0)] rfl ?_
        refine ge_new (d := some 49) (o := .map #[] 0) (v := fun b => .map (some b)) hS57 (fun b => by kernel_rfl) fun b5 w18 hx5 hS69 => ?_
        have hS70 := hS69.newMap (κ := Int) (ν := Int)
        refine ge_batch [1] (ans := []) (vs := [(11, .map (some b5))]) (l := []) (by kernel_rfl) trivial ?_
        refine ge_nil fun a hF => hK14 _ _ ?_ a hF
        refine we_seq fun K15 hK15 => ?_
        refine we_seq fun K16 hK16 => ?_
        refine we_region [(0, 0), (1, 0), (2, 0)] rfl ?_
        refine ge_batch [0, 1, 2] (ans := []) (vs := [(52, .int .i64 0), (51, .int .i64 (l2.length : Int)), (50, .slice A2 l2.length c2)]) (l := []) (by kernel_rfl) trivial ?_
        refine ge_nil fun a hF => hK16 _ _ ?_ a hF
        refine we_block ?_
        have hS71 := hS70.bring 3 rfl
        have hS72 := hS71.bring 3 rfl
        have hS73 := hS72.bring 3 rfl
        rcases hq3 : iter (redo_Play.r1 l2) K (0, ([] : List (Int × Int))) with _ | (mp3 | rr7)
        · rw [hq3] at h; cases h
        · rw [hq3] at h
          simp only [] at h
          refine we_iter (A := redo_Play.A1 K w0 l0 A0 c0 x1 l2 A2 c2 x3 hR0 hL0 hR2 hL2 b1 b2 b3 r1 b4 hc1 hc6 b5) (B := redo_Play.B1 K w0 l0 A0 c0 x1 l2 A2 c2 x3 hR0 hL0 hR2 hL2 b1 b2 b3 r1 b4 hc1 hc6 b5) hq3 (fun a hF => ⟨hS73, hF.weaken ⟨by kernel_rfl, by kernel_rfl, by kernel_rfl, by kernel_rfl, by kernel_rfl, by kernel_rfl, by kernel_rfl, by kernel_rfl, by kernel_rfl, by kernel_rfl, trivial⟩⟩) (fun s o hf a w hA Q hQ => redo_Play_r1 K w0 l0 A0 c0 x1 l2 A2 c2 x3 hR0 hL0 hR2 hL2 b1 b2 b3 r1 b4 hc1 hc6 b5 s o hf a w hA Q hQ) ?_
          rintro _ a w23 _ ⟨rfl, hS99, hF⟩
          replace hS99 : St w0 w23 [Own.blk b3 (.cells #[.int .i64 0, .int .i64 0] 39 (0, 0)), Own.blk b2 (.cells #[.slice none 0 0, .slice none 0 0] 36 (0, 0)), Own.blk b1 (.cells #[.slice A0 l0.length c0] 49 (0, 0)), Own.map (κ := Int) (ν := Int) b5 mp3] := hS99
          refine hK15 [(1, .int .i64 x1), (3, .int .i64 x3), (4, .pointer (some ⟨b1, 0, none⟩)), (8, .pointer (some ⟨b2, 0, none⟩)), (9, .pointer (some ⟨b3, 0, none⟩)), (11, .map (some b5))] w23 ?_ a hF
          refine we_seq fun K24 hK24 => ?_
          rcases hq4 : redo_Play.p2 l0 x3 with _ | (⟨m3, m4⟩ | rr6)
          · rw [hq4] at h; cases h
          · rw [hq4] at h
            simp only [] at h
            refine we_keep (e' := [(1, .int .i64 x1), (3, .int .i64 x3), (4, .pointer (some ⟨b1, 0, none⟩)), (8, .pointer (some ⟨b2, 0, none⟩)), (9, .pointer (some ⟨b3, 0, none⟩)), (11, .map (some b5))]) ⟨by kernel_rfl, by kernel_rfl, by kernel_rfl, by kernel_rfl, by kernel_rfl, by kernel_rfl, trivial⟩ (redo_Play_p2 K w0 l0 A0 c0 x1 l2 A2 c2 x3 hR0 hL0 hR2 hL2 b1 b2 b3 r1 b4 hc1 hc6 b5 mp3 _ hq4 _ hS99 _ ?_)
            rintro _ a w28 ⟨rfl, b8, v5, v6, hS114, hF⟩
            replace hS114 : St w0 w28 [Own.blk b8 (.cells #[v5, v6] 36 (0, 0)), Own.blk b3 (.cells #[.int .i64 0, .int .i64 0] 39 (0, 0)), Own.blk b2 (.cells #[.slice none 0 0, .slice none 0 0] 36 (0, 0)), Own.blk b1 (.cells #[.slice A0 l0.length c0] 49 (0, 0)), Own.of v5 3 m3, Own.of v6 3 m4, Own.map (κ := Int) (ν := Int) b5 mp3] := hS114
            refine hK24 [(1, .int .i64 x1), (3, .int .i64 x3), (4, .pointer (some ⟨b1, 0, none⟩)), (8, .pointer (some ⟨b2, 0, none⟩)), (9, .pointer (some ⟨b3, 0, none⟩)), (11, .map (some b5)), (14, .pointer (some ⟨b8, 0, none⟩))] w28 ?_ a hF
            refine we_seq fun K25 hK25 => ?_
            obtain ⟨Z3, cz3, rfl⟩ := hS114.open 4 rfl
            obtain ⟨Z4, cz4, rfl⟩ := hS114.open 5 rfl
            rcases hq5 : redo_Play.p3 l0 with _ | (⟨m7, m8⟩ | rr5)
            · rw [hq5] at h; cases h
            · rw [hq5] at h
              simp only [] at h
              refine we_keep (e' := [(1, .int .i64 x1), (3, .int .i64 x3), (4, .pointer (some ⟨b1, 0, none⟩)), (8, .pointer (some ⟨b2, 0, none⟩)), (9, .pointer (some ⟨b3, 0, none⟩)), (11, .map (some b5)), (14, .pointer (some ⟨b8, 0, none⟩))]) ⟨by kernel_rfl, by kernel_rfl, by kernel_rfl, by kernel_rfl, by kernel_rfl, by kernel_rfl, by kernel_rfl, trivial⟩ (redo_Play_p3 K w0 l0 A0 c0 x1 l2 A2 c2 x3 hR0 hL0 hR2 hL2 b1 b2 b3 r1 b4 hc1 hc6 b5 mp3 b8 m3 m4 Z3 cz3 Z4 cz4 _ hq5 _ hS114 _ ?_)
              rintro _ a w33 ⟨rfl, b11, v11, v12, hS132, hF⟩
              replace hS132 : St w0 w33 [Own.blk b11 (.cells #[v12] 24 (0, 0)), Own.blk b8 (.cells #[(.slice Z3 m3.length cz3), (.slice Z4 m4.length cz4)] 36 (0, 0)), Own.blk b3 (.cells #[.int .i64 0, .int .i64 0] 39 (0, 0)), Own.blk b2 (.cells #[.slice none 0 0, .slice none 0 0] 36 (0, 0)), Own.blk b1 (.cells #[.slice A0 l0.length c0] 49 (0, 0)), Own.of v11 3 m7, Own.of v12 3 m8, Own.of (.slice Z3 m3.length cz3) 3 m3, Own.of (.slice Z4 m4.length cz4) 3 m4, Own.map (κ := Int) (ν := Int) b5 mp3] := hS132
              refine hK25 [(1, .int .i64 x1), (3, .int .i64 x3), (4, .pointer (some ⟨b1, 0, none⟩)), (8, .pointer (some ⟨b2, 0, none⟩)), (9, .pointer (some ⟨b3, 0, none⟩)), (11, .map (some b5)), (14, .pointer (some ⟨b8, 0, none⟩)), (15, .pointer (some ⟨b11, 0, none⟩)), (16, v11)] w33 ?_ a hF
              refine we_seq fun K26 hK26 => ?_
              refine we_seq fun K27 hK27 => ?_
              refine we_region [(0, 0), (1, 0), (2, 0)] rfl ?_
              refine ge_batch [0, 1, 2] (ans := [.val (.slice A0 l0.length c0)]) (vs := [(88, .int .i64 0), (87, .int .i64 (l0.length : Int)), (86, .slice A0 l0.length c0)]) (l := [.loaded ⟨b1, 0, none⟩ (.slice A0 l0.length c0)]) (by kernel_rfl) ⟨hS132.cell 4 rfl rfl, trivial⟩ ?_
              refine ge_nil fun a hF => hK27 _ _ ?_ a hF
              refine we_block ?_
              obtain ⟨Z6, cz6, rfl⟩ := hS132.open 5 rfl
              obtain ⟨Z7, cz7, rfl⟩ := hS132.open 6 rfl
              have hS133 := hS132.bring 9 rfl
              have hS134 := hS133.bring 9 rfl
              have hS135 := hS134.bring 9 rfl
              have hS136 := hS135.bring 9 rfl
              have hS137 := hS136.bring 9 rfl
              have hS138 := hS137.bring 9 rfl
              have hS139 := hS138.bring 9 rfl
              have hS140 := hS139.bring 9 rfl
              have hS141 := hS140.bring 9 rfl
              have hS142 := hS141.bring 9 rfl
              rcases hq6 : iter (redo_Play.r4 l0) K (0, m8, m4) with _ | (⟨m13, m14⟩ | rr4)
              · rw [hq6] at h; cases h
              · rw [hq6] at h
                simp only [] at h
                refine we_iter (A := redo_Play.A4 K w0 l0 A0 c0 x1 l2 A2 c2 x3 hR0 hL0 hR2 hL2 b1 b2 b3 r1 b4 hc1 hc6 b5 mp3 b8 m3 m4 Z3 cz3 Z4 cz4 b11 m7 m8 Z6 cz6 Z7 cz7) (B := redo_Play.B4 K w0 l0 A0 c0 x1 l2 A2 c2 x3 hR0 hL0 hR2 hL2 b1 b2 b3 r1 b4 hc1 hc6 b5 mp3 b8 m3 m4 Z3 cz3 Z4 cz4 b11 m7 m8 Z6 cz6 Z7 cz7) hq6 (fun a hF => ⟨hS142, hF.weaken ⟨by kernel_rfl, by kernel_rfl, by kernel_rfl, by kernel_rfl, by kernel_rfl, by kernel_rfl, by kernel_rfl, by kernel_rfl, by kernel_rfl, by kernel_rfl, by kernel_rfl, by kernel_rfl, trivial⟩⟩) (fun s o hf a w hA Q hQ => redo_Play_r4 K w0 l0 A0 c0 x1 l2 A2 c2 x3 hR0 hL0 hR2 hL2 b1 b2 b3 r1 b4 hc1 hc6 b5 mp3 b8 m3 m4 Z3 cz3 Z4 cz4 b11 m7 m8 Z6 cz6 Z7 cz7 s o hf a w hA Q hQ) ?_
                rintro _ a w38 _ ⟨rfl, hS176, hF⟩
                replace hS176 : St w0 w38 [Own.blk b11 (.cells #[(.slice Z7 m13.length cz7)] 24 (0, 0)), Own.blk b8 (.cells #[(.slice Z3 m3.length cz3), (.slice Z4 m14.length cz4)] 36 (0, 0)), Own.blk b3 (.cells #[.int .i64 0, .int .i64 0] 39 (0, 0)), Own.blk b2 (.cells #[.slice none 0 0, .slice none 0 0] 36 (0, 0)), Own.blk b1 (.cells #[.slice A0 l0.length c0] 49 (0, 0)), Own.of (.slice Z6 m7.length cz6) 3 m7, Own.of (.slice Z7 m13.length cz7) 3 m13, Own.of (.slice Z3 m3.length cz3) 3 m3, Own.of (.slice Z4 m14.length cz4) 3 m14, Own.map (κ := Int) (ν := Int) b5 mp3] := hS176
                refine hK26 [(1, .int .i64 x1), (3, .int .i64 x3), (4, .pointer (some ⟨b1, 0, none⟩)), (8, .pointer (some ⟨b2, 0, none⟩)), (9, .pointer (some ⟨b3, 0, none⟩)), (11, .map (some b5)), (14, .pointer (some ⟨b8, 0, none⟩)), (15, .pointer (some ⟨b11, 0, none⟩)), (16, (.slice Z6 m7.length cz6))] w38 ?_ a hF
                refine we_seq fun K32 hK32 => ?_
                refine we_seq fun K33 hK33 => ?_
                refine we_region [(0, 0), (1, 0)] rfl ?_
                refine ge_batch [0, 1] (ans := []) (vs := [(104, .int .i64 0), (103, .int .i64 x3)]) (l := []) (by kernel_rfl) trivial ?_
                refine ge_nil fun a hF => hK33 _ _ ?_ a hF
                refine we_block ?_
                have hS177 := hS176.bring 9 rfl
                have hS178 := hS177.bring 9 rfl
                have hS179 := hS178.bring 9 rfl
                have hS180 := hS179.bring 9 rfl
                have hS181 := hS180.bring 9 rfl
                have hS182 := hS181.bring 9 rfl
                have hS183 := hS182.bring 9 rfl
                have hS184 := hS183.bring 9 rfl
                have hS185 := hS184.bring 9 rfl
                have hS186 := hS185.bring 9 rfl
                rcases hq10 : iter (redo_Play.r5 K l0 x1 x3 mp3) K (0, m7, m13, m3, m14) with _ | (⟨m29, m30⟩ | rr3)
                · rw [hq10] at h; cases h
                · rw [hq10] at h
                  simp only [] at h
                  refine we_iter (A := redo_Play.A5 K w0 l0 A0 c0 x1 l2 A2 c2 x3 hR0 hL0 hR2 hL2 b1 b2 b3 r1 b4 hc1 hc6 b5 mp3 b8 m3 m4 Z3 cz3 Z4 cz4 b11 m7 m8 Z6 cz6 Z7 cz7 m13 m14) (B := redo_Play.B5 K w0 l0 A0 c0 x1 l2 A2 c2 x3 hR0 hL0 hR2 hL2 b1 b2 b3 r1 b4 hc1 hc6 b5 mp3 b8 m3 m4 Z3 cz3 Z4 cz4 b11 m7 m8 Z6 cz6 Z7 cz7 m13 m14) hq10 (fun a hF => ⟨hS186, hF.weaken ⟨by kernel_rfl, by kernel_rfl, by kernel_rfl, by kernel_rfl, by kernel_rfl, by kernel_rfl, by kernel_rfl, by kernel_rfl, by kernel_rfl, by kernel_rfl, trivial⟩⟩) (fun s o hf a w hA Q hQ => redo_Play_r5 K w0 l0 A0 c0 x1 l2 A2 c2 x3 hR0 hL0 hR2 hL2 b1 b2 b3 r1 b4 hc1 hc6 b5 mp3 b8 m3 m4 Z3 cz3 Z4 cz4 b11 m7 m8 Z6 cz6 Z7 cz7 m13 m14 s o hf a w hA Q hQ) ?_
                  rintro _ a w52 _ ⟨rfl, hS321, hF⟩
                  replace hS321 : St w0 w52 [Own.blk b8 (.cells #[(.slice Z3 m29.length cz3), (.slice Z4 m30.length cz4)] 36 (0, 0)), Own.blk b3 (.cells #[.int .i64 0, .int .i64 0] 39 (0, 0)), Own.blk b2 (.cells #[.slice none 0 0, .slice none 0 0] 36 (0, 0)), Own.of (.slice Z3 m29.length cz3) 3 m29, Own.of (.slice Z4 m30.length cz4) 3 m30] := hS321
                  refine hK32 [(8, .pointer (some ⟨b2, 0, none⟩)), (9, .pointer (some ⟨b3, 0, none⟩)), (14, .pointer (some ⟨b8, 0, none⟩))] w52 ?_ a hF
                  refine we_seq fun K50 hK50 => ?_
                  refine we_region [(0, 0), (1, 0), (2, 2), (3, 2)] rfl ?_
                  refine ge_batch [0, 1] (ans := [.val ((.slice Z3 m29.length cz3)), .val ((.slice Z4 m30.length cz4))]) (vs := [(174, .agg #[.int .i64 0, .int .i64 0]), (173, .agg #[(.slice Z3 m29.length cz3), (.slice Z4 m30.length cz4)])]) (l := [.loaded ⟨b8, 0, none⟩ ((.slice Z3 m29.length cz3)), .loaded ⟨b8, 1, none⟩ ((.slice Z4 m30.length cz4))]) (by kernel_rfl) ⟨hS321.cell 0 rfl rfl, hS321.cell 0 rfl rfl, trivial⟩ ?_
                  have hS322 := hS321.bring 2 rfl
                  refine ge_set (b := b2) (j := 0) (cs := #[.slice none 0 0, .slice none 0 0]) (t := 36) (vs := [(.slice Z3 m29.length cz3), (.slice Z4 m30.length cz4)]) hS322 (by kernel_rfl) rfl rfl fun w53 hS323 => ?_
                  have hS324 : St w0 w53 [Own.blk b2 (.cells #[(.slice Z3 m29.length cz3), (.slice Z4 m30.length cz4)] 36 (0, 0)), Own.blk b8 (.cells #[(.slice Z3 m29.length cz3), (.slice Z4 m30.length cz4)] 36 (0, 0)), Own.blk b3 (.cells #[.int .i64 0, .int .i64 0] 39 (0, 0)), Own.of (.slice Z3 m29.length cz3) 3 m29, Own.of (.slice Z4 m30.length cz4) 3 m30] := hS323
                  have hS325 := hS324.bring 2 rfl
                  refine ge_set (b := b3) (j := 0) (cs := #[.int .i64 0, .int .i64 0]) (t := 39) (vs := [.int .i64 0, .int .i64 0]) hS325 (by kernel_rfl) rfl rfl fun w54 hS326 => ?_
                  have hS327 : St w0 w54 [Own.blk b3 (.cells #[.int .i64 0, .int .i64 0] 39 (0, 0)), Own.blk b2 (.cells #[(.slice Z3 m29.length cz3), (.slice Z4 m30.length cz4)] 36 (0, 0)), Own.blk b8 (.cells #[(.slice Z3 m29.length cz3), (.slice Z4 m30.length cz4)] 36 (0, 0)), Own.of (.slice Z3 m29.length cz3) 3 m29, Own.of (.slice Z4 m30.length cz4) 3 m30] := hS326
                  refine ge_nil fun a hF => hK50 _ _ ?_ a hF
                  have hS328 := hS327.bring 4 rfl
                  have hS329 := hS328.bring 4 rfl
                  have hS330 := hS329.takeN 2
                  obtain rfl := Option.some.inj h
                  exact we_ret (post_ret (rs := [.cell 8 36, .cell 9 39]) (ans := [.val ((.slice Z3 m29.length cz3)), .val ((.slice Z4 m30.length cz4)), .val (.int .i64 0), .val (.int .i64 0)]) (vs := [.agg #[(.slice Z3 m29.length cz3), (.slice Z4 m30.length cz4)], .agg #[.int .i64 0, .int .i64 0]]) (l := [.loaded ⟨b2, 0, none⟩ ((.slice Z3 m29.length cz3)), .loaded ⟨b2, 1, none⟩ ((.slice Z4 m30.length cz4)), .loaded ⟨b3, 0, none⟩ (.int .i64 0), .loaded ⟨b3, 1, none⟩ (.int .i64 0)]) rfl (by kernel_rfl) ⟨hS327.cell 1 rfl rfl, hS327.cell 1 rfl rfl, hS327.cell 0 rfl rfl, hS327.cell 0 rfl rfl, trivial⟩ ⟨(.slice Z3 m29.length cz3), (.slice Z4 m30.length cz4), rfl, hS330⟩)
                · rw [hq10] at h
                  simp only [] at h
                  refine we_iter (A := redo_Play.A5 K w0 l0 A0 c0 x1 l2 A2 c2 x3 hR0 hL0 hR2 hL2 b1 b2 b3 r1 b4 hc1 hc6 b5 mp3 b8 m3 m4 Z3 cz3 Z4 cz4 b11 m7 m8 Z6 cz6 Z7 cz7 m13 m14) (B := redo_Play.B5 K w0 l0 A0 c0 x1 l2 A2 c2 x3 hR0 hL0 hR2 hL2 b1 b2 b3 r1 b4 hc1 hc6 b5 mp3 b8 m3 m4 Z3 cz3 Z4 cz4 b11 m7 m8 Z6 cz6 Z7 cz7 m13 m14) hq10 (fun a hF => ⟨hS186, hF.weaken ⟨by kernel_rfl, by kernel_rfl, by kernel_rfl, by kernel_rfl, by kernel_rfl, by kernel_rfl, by kernel_rfl, by kernel_rfl, by kernel_rfl, by kernel_rfl, trivial⟩⟩) (fun s o hf a w hA Q hQ => redo_Play_r5 K w0 l0 A0 c0 x1 l2 A2 c2 x3 hR0 hL0 hR2 hL2 b1 b2 b3 r1 b4 hc1 hc6 b5 mp3 b8 m3 m4 Z3 cz3 Z4 cz4 b11 m7 m8 Z6 cz6 Z7 cz7 m13 m14 s o hf a w hA Q hQ) ?_
                  rintro _ a w1 _ ⟨rfl, hb⟩
                  obtain rfl := Option.some.inj h
                  exact hb
              · rw [hq6] at h
                simp only [] at h
                refine we_iter (A := redo_Play.A4 K w0 l0 A0 c0 x1 l2 A2 c2 x3 hR0 hL0 hR2 hL2 b1 b2 b3 r1 b4 hc1 hc6 b5 mp3 b8 m3 m4 Z3 cz3 Z4 cz4 b11 m7 m8 Z6 cz6 Z7 cz7) (B := redo_Play.B4 K w0 l0 A0 c0 x1 l2 A2 c2 x3 hR0 hL0 hR2 hL2 b1 b2 b3 r1 b4 hc1 hc6 b5 mp3 b8 m3 m4 Z3 cz3 Z4 cz4 b11 m7 m8 Z6 cz6 Z7 cz7) hq6 (fun a hF => ⟨hS142, hF.weaken ⟨by kernel_rfl, by kernel_rfl, by kernel_rfl, by kernel_rfl, by kernel_rfl, by kernel_rfl, by kernel_rfl, by kernel_rfl, by kernel_rfl, by kernel_rfl, by kernel_rfl, by kernel_rfl, trivial⟩⟩) (fun s o hf a w hA Q hQ => redo_Play_r4 K w0 l0 A0 c0 x1 l2 A2 c2 x3 hR0 hL0 hR2 hL2 b1 b2 b3 r1 b4 hc1 hc6 b5 mp3 b8 m3 m4 Z3 cz3 Z4 cz4 b11 m7 m8 Z6 cz6 Z7 cz7 s o hf a w hA Q hQ) ?_
                rintro _ a w1 _ ⟨rfl, hb⟩
                obtain rfl := Option.some.inj h
                exact hb
            · rw [hq5] at h
              simp only [] at h
              refine we_keep (e' := [(1, .int .i64 x1), (3, .int .i64 x3), (4, .pointer (some ⟨b1, 0, none⟩)), (8, .pointer (some ⟨b2, 0, none⟩)), (9, .pointer (some ⟨b3, 0, none⟩)), (11, .map (some b5)), (14, .pointer (some ⟨b8, 0, none⟩))]) ⟨by kernel_rfl, by kernel_rfl, by kernel_rfl, by kernel_rfl, by kernel_rfl, by kernel_rfl, by kernel_rfl, trivial⟩ (redo_Play_p3 K w0 l0 A0 c0 x1 l2 A2 c2 x3 hR0 hL0 hR2 hL2 b1 b2 b3 r1 b4 hc1 hc6 b5 mp3 b8 m3 m4 Z3 cz3 Z4 cz4 _ hq5 _ hS114 _ ?_)
              rintro _ a w1 ⟨_, rfl, hb⟩
              obtain rfl := Option.some.inj h
              exact hb
          · rw [hq4] at h
            simp only [] at h
            refine we_keep (e' := [(1, .int .i64 x1), (3, .int .i64 x3), (4, .pointer (some ⟨b1, 0, none⟩)), (8, .pointer (some ⟨b2, 0, none⟩)), (9, .pointer (some ⟨b3, 0, none⟩)), (11, .map (some b5))]) ⟨by kernel_rfl, by kernel_rfl, by kernel_rfl, by kernel_rfl, by kernel_rfl, by kernel_rfl, trivial⟩ (redo_Play_p2 K w0 l0 A0 c0 x1 l2 A2 c2 x3 hR0 hL0 hR2 hL2 b1 b2 b3 r1 b4 hc1 hc6 b5 mp3 _ hq4 _ hS99 _ ?_)
            rintro _ a w1 ⟨_, rfl, hb⟩
            obtain rfl := Option.some.inj h
            exact hb
        · rw [hq3] at h
          simp only [] at h
          refine we_iter (A := redo_Play.A1 K w0 l0 A0 c0 x1 l2 A2 c2 x3 hR0 hL0 hR2 hL2 b1 b2 b3 r1 b4 hc1 hc6 b5) (B := redo_Play.B1 K w0 l0 A0 c0 x1 l2 A2 c2 x3 hR0 hL0 hR2 hL2 b1 b2 b3 r1 b4 hc1 hc6 b5) hq3 (fun a hF => ⟨hS73, hF.weaken ⟨by kernel_rfl, by kernel_rfl, by kernel_rfl, by kernel_rfl, by kernel_rfl, by kernel_rfl, by kernel_rfl, by kernel_rfl, by kernel_rfl, by kernel_rfl, trivial⟩⟩) (fun s o hf a w hA Q hQ => redo_Play_r1 K w0 l0 A0 c0 x1 l2 A2 c2 x3 hR0 hL0 hR2 hL2 b1 b2 b3 r1 b4 hc1 hc6 b5 s o hf a w hA Q hQ) ?_
          rintro _ a w1 _ ⟨rfl, hb⟩
          obtain rfl := Option.some.inj h
          exact hb
    · rw [hq2] at h
      simp only [] at h
      refine we_keep (e' := [(0, .slice A0 l0.length c0), (1, .int .i64 x1), (2, .slice A2 l2.length c2), (3, .int .i64 x3), (4, .pointer (some ⟨b1, 0, none⟩)), (8, .pointer (some ⟨b2, 0, none⟩)), (9, .pointer (some ⟨b3, 0, none⟩)), (10, .pointer (some ⟨b4, 0, none⟩)), (21, .slice A0 l0.length c0), (22, .agg #[.int .i64 r1.Code, .int .i64 r1.At]), (23, .pointer (some ⟨b4, 0, none⟩)), (24, .int .i64 r1.Code), (25, .bool false)]) ⟨by kernel_rfl, by kernel_rfl, by kernel_rfl, by kernel_rfl, by kernel_rfl, by kernel_rfl, by kernel_rfl, by kernel_rfl, by kernel_rfl, by kernel_rfl, by kernel_rfl, by kernel_rfl, by kernel_rfl, trivial⟩ (redo_Play_p0 K w0 l0 A0 c0 x1 l2 A2 c2 x3 hR0 hL0 hR2 hL2 b1 b2 b3 r1 b4 hc1 _ hq2 _ hS8 _ ?_)
      rintro _ a w1 ⟨_, rfl, hb⟩
      obtain rfl := Option.some.inj h
      exact hb
  · rw [if_neg hc1] at h
    refine we_known (t := 25) (b := (r1.Code != 0)) (v := true) (by kernel_rfl) (bne_iff_ne.2 hc1) ?_
    refine we_true (by kernel_rfl) ?_
    refine we_seq fun K51 hK51 => ?_
    rcases hq11 : redo_Play.p8 r1 with _ | (⟨z4, z5, m33, m34⟩ | rr9)
    · rw [hq11] at h; cases h
    · rw [hq11] at h
      simp only [] at h
      refine we_keep (e' := [(0, .slice A0 l0.length c0), (1, .int .i64 x1), (2, .slice A2 l2.length c2), (3, .int .i64 x3), (4, .pointer (some ⟨b1, 0, none⟩)), (8, .pointer (some ⟨b2, 0, none⟩)), (9, .pointer (some ⟨b3, 0, none⟩)), (10, .pointer (some ⟨b4, 0, none⟩)), (21, .slice A0 l0.length c0), (22, .agg #[.int .i64 r1.Code, .int .i64 r1.At]), (23, .pointer (some ⟨b4, 0, none⟩)), (24, .int .i64 r1.Code), (25, .bool true)]) ⟨by kernel_rfl, by kernel_rfl, by kernel_rfl, by kernel_rfl, by kernel_rfl, by kernel_rfl, by kernel_rfl, by kernel_rfl, by kernel_rfl, by kernel_rfl, by kernel_rfl, by kernel_rfl, by kernel_rfl, trivial⟩ (redo_Play_p8 K w0 l0 A0 c0 x1 l2 A2 c2 x3 hR0 hL0 hR2 hL2 b1 b2 b3 r1 b4 hc1 _ hq11 _ hS8 _ ?_)
      rintro _ a w57 ⟨rfl, v15, v16, hS345, hF⟩
      replace hS345 : St w0 w57 [Own.blk b3 (.cells #[.int .i64 z4, .int .i64 z5] 39 (0, 0)), Own.blk b2 (.cells #[v15, v16] 36 (0, 0)), Own.of v15 3 m33, Own.of v16 3 m34] := hS345
      refine hK51 [(8, .pointer (some ⟨b2, 0, none⟩)), (9, .pointer (some ⟨b3, 0, none⟩))] w57 ?_ a hF
      have hS346 := hS345.bring 3 rfl
      have hS347 := hS346.bring 3 rfl
      have hS348 := hS347.takeN 2
      obtain rfl := Option.some.inj h
      exact we_ret (post_ret (rs := [.cell 8 36, .cell 9 39]) (ans := [.val (v15), .val (v16), .val (.int .i64 z4), .val (.int .i64 z5)]) (vs := [.agg #[v15, v16], .agg #[.int .i64 z4, .int .i64 z5]]) (l := [.loaded ⟨b2, 0, none⟩ (v15), .loaded ⟨b2, 1, none⟩ (v16), .loaded ⟨b3, 0, none⟩ (.int .i64 z4), .loaded ⟨b3, 1, none⟩ (.int .i64 z5)]) rfl (by kernel_rfl) ⟨hS345.cell 1 rfl rfl, hS345.cell 1 rfl rfl, hS345.cell 0 rfl rfl, hS345.cell 0 rfl rfl, trivial⟩ ⟨v15, v16, rfl, hS348⟩)
    · rw [hq11] at h
      simp only [] at h
      refine we_keep (e' := [(0, .slice A0 l0.length c0), (1, .int .i64 x1), (2, .slice A2 l2.length c2), (3, .int .i64 x3), (4, .pointer (some ⟨b1, 0, none⟩)), (8, .pointer (some ⟨b2, 0, none⟩)), (9, .pointer (some ⟨b3, 0, none⟩)), (10, .pointer (some ⟨b4, 0, none⟩)), (21, .slice A0 l0.length c0), (22, .agg #[.int .i64 r1.Code, .int .i64 r1.At]), (23, .pointer (some ⟨b4, 0, none⟩)), (24, .int .i64 r1.Code), (25, .bool true)]) ⟨by kernel_rfl, by kernel_rfl, by kernel_rfl, by kernel_rfl, by kernel_rfl, by kernel_rfl, by kernel_rfl, by kernel_rfl, by kernel_rfl, by kernel_rfl, by kernel_rfl, by kernel_rfl, by kernel_rfl, trivial⟩ (redo_Play_p8 K w0 l0 A0 c0 x1 l2 A2 c2 x3 hR0 hL0 hR2 hL2 b1 b2 b3 r1 b4 hc1 _ hq11 _ hS8 _ ?_)
      rintro _ a w1 ⟨_, rfl, hb⟩
      obtain rfl := Option.some.inj h
      exact hb

structure STask where
  Name : ByteArray
  C : Int
  T : Int
  D : Int
  J : Int
  O : Int
  P : Int
def STask.eqb (x y : STask) : Bool := ((x.Name.toList == y.Name.toList) && ((x.C == y.C) && ((x.T == y.T) && ((x.D == y.D) && ((x.J == y.J) && ((x.O == y.O) && ((x.P == y.P) && true)))))))
instance : Ok STask := ⟨fun x => Ok.ok x.Name ∧ Ok.ok x.C ∧ Ok.ok x.T ∧ Ok.ok x.D ∧ Ok.ok x.J ∧ Ok.ok x.O ∧ Ok.ok x.P ∧ True⟩
instance : Flat STask := ⟨7, fun x => [.string x.Name, .int .i64 x.C, .int .i64 x.T, .int .i64 x.D, .int .i64 x.J, .int .i64 x.O, .int .i64 x.P], fun _ => rfl, fun _ => rfl, by decide⟩

/-! punctual/punctuallaw.three -/
abbrev three.Post (w0 : World) (r : List STask) (e : Ending) (w : World) : Prop := ∃ (v0 : Value), e = .returned (v0) ∧ St w0 w [Own.of v0 51 r]
def three.f : List STask :=
  ([(⟨⟨#[97]⟩, 1, 4, 4, 0, 0, 3⟩ : STask), (⟨⟨#[98]⟩, 2, 6, 6, 0, 0, 2⟩ : STask), (⟨⟨#[99]⟩, 3, 12, 12, 0, 0, 1⟩ : STask)] : List STask)
theorem three_ok  (w0 : World) (r : List STask) (h : three.f = r) :
    Calls Tryd.prog 126 #[] w0 (three.Post w0 r) := by
  have hS := St.start w0
  unfold three.f at h
  refine calls_enter (n := 5) (args := []) (fn := Tryd.f126) rfl rfl rfl rfl ?_
  show WE _ _ _ _ [] _
  refine we_seq fun K1 hK1 => ?_
  refine we_region [(0, 0)] rfl ?_
  refine ge_batch [0] (ans := []) (vs := [(0, .slice none 0 0)]) (l := []) (by kernel_rfl) trivial ?_
  refine ge_nil fun a hF => hK1 _ _ ?_ a hF
  refine we_seq fun K2 hK2 => ?_
  refine we_region [(0, 0), (1, 0), (2, 0), (3, 1), (4, 0)] rfl ?_
  refine ge_batch [0, 1, 2] (ans := []) (vs := [(3, .agg #[.string (⟨#[99]⟩), .int .i64 3, .int .i64 12, .int .i64 12, .int .i64 0, .int .i64 0, .int .i64 1]), (2, .agg #[.string (⟨#[98]⟩), .int .i64 2, .int .i64 6, .int .i64 6, .int .i64 0, .int .i64 0, .int .i64 2]), (1, .agg #[.string (⟨#[97]⟩), .int .i64 1, .int .i64 4, .int .i64 4, .int .i64 0, .int .i64 0, .int .i64 3])]) (l := []) (by kernel_rfl) trivial ?_
  refine ge_new (d := some 4) (o := .cells #[.string (⟨#[97]⟩), .int .i64 1, .int .i64 4, .int .i64 4, .int .i64 0, .int .i64 0, .int .i64 3, .string (⟨#[98]⟩), .int .i64 2, .int .i64 6, .int .i64 6, .int .i64 0, .int .i64 0, .int .i64 2, .string (⟨#[99]⟩), .int .i64 3, .int .i64 12, .int .i64 12, .int .i64 0, .int .i64 0, .int .i64 1] 51) (v := fun b => .slice (some ⟨b, 0, none⟩) 3 3) hS (fun b => by kernel_rfl) fun b1 w1 hx1 hS1 => ?_
  refine ge_batch [4] (ans := []) (vs := [(0, .slice (some ⟨b1, 0, none⟩) 3 3)]) (l := []) (by kernel_rfl) trivial ?_
  refine ge_nil fun a hF => hK2 _ _ ?_ a hF
  have hS2 := hS1.asRow (α := STask) (c := 3) ([(⟨⟨#[97]⟩, 1, 4, 4, 0, 0, 3⟩ : STask), (⟨⟨#[98]⟩, 2, 6, 6, 0, 0, 2⟩ : STask), (⟨⟨#[99]⟩, 3, 12, 12, 0, 0, 1⟩ : STask)] : List STask) (Nat.le_refl _) (by decide) rfl rfl
  subst h
  exact we_ret (post_ret (rs := [.tmp 0]) (ans := []) (vs := [(.slice (some ⟨b1, 0, none⟩) 3 3)]) (l := []) rfl (by kernel_rfl) trivial ⟨(.slice (some ⟨b1, 0, none⟩) 3 3), rfl, hS2⟩)
end Go.Proofs.YtcogbnkioobmkaaDoor.GV
