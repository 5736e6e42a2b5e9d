/- Walks of single functions, written by a program of this work. -/
import Derived.Test.YtcogbnkioobmkaaDoorGWRedoPlays4
namespace Go.Proofs.YtcogbnkioobmkaaDoor.GV
open Go Go.RowKit
set_option linter.unusedVariables false
set_option linter.unusedSimpArgs false
set_option maxRecDepth 100000

/-! punctual/punctualref.PlayAnew -/
abbrev punctualref_PlayAnew.Post (w0 : World) (r : SPlayed × SFault) (e : Ending) (w : World) : Prop := ∃ (v0 : Value) (v1 : Value), e = .returned (.tuple #[.agg #[v0, v1], .agg #[.int .i64 r.2.Code, .int .i64 r.2.At]]) ∧ St w0 w [Own.of v0 3 r.1.Runs, Own.of v1 3 r.1.Ends]
def punctualref_PlayAnew.p0 (x1 : Int) (x3 : Int) : Option (Unit ⊕ (SPlayed × SFault)) :=
    if x1 < 0 then
      some (.inr ((⟨([] : List Int), ([] : List Int)⟩ : SPlayed), (punctualref_F.f 3 0)))
    else
      if x1 > 10000 then
        some (.inr ((⟨([] : List Int), ([] : List Int)⟩ : SPlayed), (punctualref_F.f 3 0)))
      else
        if x3 < 0 then
          some (.inr ((⟨([] : List Int), ([] : List Int)⟩ : SPlayed), (punctualref_F.f 3 0)))
        else
          if x3 > 20000 then
            some (.inr ((⟨([] : List Int), ([] : List Int)⟩ : SPlayed), (punctualref_F.f 3 0)))
          else
            some (.inl ())
def punctualref_PlayAnew.r1 (l2 : List Int) : Int → Option (Int ⊕ (Unit ⊕ (SPlayed × SFault)))
  | z1 =>
    if z1 < (l2.length : Int) then
      if 0 ≤ z1 then
        match l2[(z1).toNat]? with
        | none => none
        | some e1 =>
          if 0 ≤ (IntKind.i64.wrap (z1 - 1)) then
            match l2[(IntKind.i64.wrap (z1 - 1)).toNat]? with
            | none => none
            | some e2 =>
              if e1 ≤ e2 then
                some (.inr (.inr ((⟨([] : List Int), ([] : List Int)⟩ : SPlayed), (punctualref_F.f 12 z1))))
              else
                some (.inl (IntKind.i64.wrap (z1 + 1)))
          else
            none
      else
        none
    else
      some (.inr (.inl ()))
def punctualref_PlayAnew.p2 (l0 : List SJob) : Option (((List Int) × (List Int)) ⊕ (SPlayed × SFault)) :=
    if l0.length ≤ 17592186044416 then
      some (.inl ((List.replicate l0.length (0 : Int)), (List.replicate l0.length (0 : Int))))
    else
      none
def punctualref_PlayAnew.r3 (l0 : List SJob) : Nat × (List Int) → Option ((Nat × (List Int)) ⊕ ((List Int) ⊕ (SPlayed × SFault)))
  | (i1, m5) =>
    if (i1 : Int) < (l0.length : Int) then
      match m5[i1]? with
      | none => none
      | some e3 =>
        some (.inl ((i1 + 1), (m5.set i1 (-1))))
    else
      some (.inr (.inl m5))
def punctualref_PlayAnew.r5 (l0 : List SJob) (z2 : Int) (m11 : List Int) : Int × Nat → Option ((Int × Nat) ⊕ (Int ⊕ (SPlayed × SFault)))
  | (z3, i2) =>
    if (i2 : Int) < (l0.length : Int) then
      match l0[i2]? with
      | none => none
      | some e4 =>
        if e4.At ≤ z2 then
          match m11[i2]? with
          | none => none
          | some e5 =>
            if e5 < 0 then
              if z3 < 0 then
                some (.inl ((i2 : Int), (i2 + 1)))
              else
                match punctualref_Goes.f l0 (i2 : Int) z3 1 with
                | none => none
                | some r2 =>
                  if r2 = true then
                    some (.inl ((i2 : Int), (i2 + 1)))
                  else
                    some (.inl (z3, (i2 + 1)))
            else
              some (.inl (z3, (i2 + 1)))
        else
          some (.inl (z3, (i2 + 1)))
    else
      some (.inr (.inl z3))
def punctualref_PlayAnew.r4 (K : Nat) (l0 : List SJob) (x1 : Int) (l2 : List Int) (x3 : Int) : Int × (List Int) × (List Int) × (List Int) × (List Int) → Option ((Int × (List Int) × (List Int) × (List Int) × (List Int)) ⊕ (((List Int) × (List Int)) ⊕ (SPlayed × SFault)))
  | (z2, m8, m9, m10, m11) =>
    if z2 < x3 then
      match iter (punctualref_PlayAnew.r5 l0 z2 m11) K ((-1), 0) with
      | none => none
      | some (.inl z5) =>
        if m10.length < 17592186044416 then
          if z5 < 0 then
            some (.inl (IntKind.i64.wrap (z2 + 1), m8, m9, (m10 ++ [z5]), m11))
          else
            match sort_SearchInts.f K l2 z2 with
            | none => none
            | some r3 =>
              if r3 < (l2.length : Int) then
                if 0 ≤ r3 then
                  match l2[(r3).toNat]? with
                  | none => none
                  | some e6 =>
                    if e6 = z2 then
                      if 0 ≤ z5 then
                        match m9[(z5).toNat]? with
                        | none => none
                        | some e7 =>
                          some (.inl (IntKind.i64.wrap (z2 + 1), m8, (m9.set ((z5).toNat) 0), (m10 ++ [z5]), m11))
                      else
                        none
                    else
                      if 0 ≤ z5 then
                        match m9[(z5).toNat]? with
                        | none => none
                        | some e8 =>
                          match m8[(z5).toNat]? with
                          | none => none
                          | some e9 =>
                            match (m9.set ((z5).toNat) (IntKind.i64.wrap (e8 + 1)))[(z5).toNat]? with
                            | none => none
                            | some e10 =>
                              match l0[(z5).toNat]? with
                              | none => none
                              | some e11 =>
                                if (IntKind.i64.wrap (e9 + e10)) = e11.C then
                                  match m11[(z5).toNat]? with
                                  | none => none
                                  | some e12 =>
                                    if e10 = x1 then
                                      some (.inl (IntKind.i64.wrap (z2 + 1), (m8.set ((z5).toNat) (IntKind.i64.wrap (e9 + x1))), ((m9.set ((z5).toNat) (IntKind.i64.wrap (e8 + 1))).set ((z5).toNat) 0), (m10 ++ [z5]), (m11.set ((z5).toNat) (IntKind.i64.wrap (z2 + 1)))))
                                    else
                                      some (.inl (IntKind.i64.wrap (z2 + 1), m8, (m9.set ((z5).toNat) (IntKind.i64.wrap (e8 + 1))), (m10 ++ [z5]), (m11.set ((z5).toNat) (IntKind.i64.wrap (z2 + 1)))))
                                else
                                  if e10 = x1 then
                                    some (.inl (IntKind.i64.wrap (z2 + 1), (m8.set ((z5).toNat) (IntKind.i64.wrap (e9 + x1))), ((m9.set ((z5).toNat) (IntKind.i64.wrap (e8 + 1))).set ((z5).toNat) 0), (m10 ++ [z5]), m11))
                                  else
                                    some (.inl (IntKind.i64.wrap (z2 + 1), m8, (m9.set ((z5).toNat) (IntKind.i64.wrap (e8 + 1))), (m10 ++ [z5]), m11))
                      else
                        none
                else
                  none
              else
                if 0 ≤ z5 then
                  match m9[(z5).toNat]? with
                  | none => none
                  | some e13 =>
                    match m8[(z5).toNat]? with
                    | none => none
                    | some e14 =>
                      match (m9.set ((z5).toNat) (IntKind.i64.wrap (e13 + 1)))[(z5).toNat]? with
                      | none => none
                      | some e15 =>
                        match l0[(z5).toNat]? with
                        | none => none
                        | some e16 =>
                          if (IntKind.i64.wrap (e14 + e15)) = e16.C then
                            match m11[(z5).toNat]? with
                            | none => none
                            | some e17 =>
                              if e15 = x1 then
                                some (.inl (IntKind.i64.wrap (z2 + 1), (m8.set ((z5).toNat) (IntKind.i64.wrap (e14 + x1))), ((m9.set ((z5).toNat) (IntKind.i64.wrap (e13 + 1))).set ((z5).toNat) 0), (m10 ++ [z5]), (m11.set ((z5).toNat) (IntKind.i64.wrap (z2 + 1)))))
                              else
                                some (.inl (IntKind.i64.wrap (z2 + 1), m8, (m9.set ((z5).toNat) (IntKind.i64.wrap (e13 + 1))), (m10 ++ [z5]), (m11.set ((z5).toNat) (IntKind.i64.wrap (z2 + 1)))))
                          else
                            if e15 = x1 then
                              some (.inl (IntKind.i64.wrap (z2 + 1), (m8.set ((z5).toNat) (IntKind.i64.wrap (e14 + x1))), ((m9.set ((z5).toNat) (IntKind.i64.wrap (e13 + 1))).set ((z5).toNat) 0), (m10 ++ [z5]), m11))
                            else
                              some (.inl (IntKind.i64.wrap (z2 + 1), m8, (m9.set ((z5).toNat) (IntKind.i64.wrap (e13 + 1))), (m10 ++ [z5]), m11))
                else
                  none
        else
          none
      | some (.inr rr1) =>
        some (.inr (.inr rr1))
    else
      some (.inr (.inl (m10, m11)))
def punctualref_PlayAnew.p6 (r1 : SFault) : Option ((Int × Int × (List Int) × (List Int)) ⊕ (SPlayed × SFault)) :=
    some (.inl (r1.Code, r1.At, ([] : List Int), ([] : List Int)))
def punctualref_PlayAnew.f (K : Nat) (l0 : List SJob) (x1 : Int) (l2 : List Int) (x3 : Int) : Option (SPlayed × SFault) :=
  match punctualref_CheckJobs.f K l0 with
  | none => none
  | some r1 =>
    if r1.Code = 0 then
      match punctualref_PlayAnew.p0 x1 x3 with
      | none => none
      | some (.inl _) =>
        if (l2.length : Int) > 4000 then
          some ((⟨([] : List Int), ([] : List Int)⟩ : SPlayed), (punctualref_F.f 2 0))
        else
          match iter (punctualref_PlayAnew.r1 l2) K 1 with
          | none => none
          | some (.inl _) =>
            match punctualref_PlayAnew.p2 l0 with
            | none => none
            | some (.inl (m3, m4)) =>
              if l0.length ≤ 17592186044416 then
                match iter (punctualref_PlayAnew.r3 l0) K (0, (List.replicate l0.length (0 : Int))) with
                | none => none
                | some (.inl m7) =>
                  match iter (punctualref_PlayAnew.r4 K l0 x1 l2 x3) K (0, m3, m4, ([] : List Int), m7) with
                  | none => none
                  | some (.inl (m14, m15)) =>
                    some ((⟨m14, m15⟩ : SPlayed), (⟨0, 0⟩ : SFault))
                  | some (.inr rr2) =>
                    some rr2
                | some (.inr rr3) =>
                  some rr3
              else
                none
            | some (.inr rr4) =>
              some rr4
          | some (.inr rr5) =>
            some rr5
      | some (.inr rr6) =>
        some rr6
    else
      match punctualref_PlayAnew.p6 r1 with
      | none => none
      | some (.inl (z8, z9, m18, m19)) =>
        some ((⟨m18, m19⟩ : SPlayed), (⟨z8, z9⟩ : SFault))
      | some (.inr rr7) =>
        some rr7
abbrev punctualref_PlayAnew.A0 (K : Nat) (w0 : World) (l0 : List SJob) (A0 : Option Addr) (c0 : Nat) (x1 : Int) (l2 : List Int) (A2 : Option Addr) (c2 : Nat) (x3 : Int) (hR0 : RdL w0 A0 l0) (hL0 : l0.length ≤ c0) (hR2 : RdL w0 A2 l2) (hL2 : l2.length ≤ c2) (b1 : Nat) (b2 : Nat) (r1 : SFault) (b3 : Nat) (hc1 : r1.Code = 0) : Unit → Act → World → Prop := fun (s : Unit) a w => St w0 w [Own.blk b2 (.cells #[.int .i64 0, .int .i64 0] 39 (0, 0)), Own.blk b1 (.cells #[.slice none 0 0, .slice none 0 0] 36 (0, 0))] ∧ Frm 197 a [(0, .slice A0 l0.length c0), (1, .int .i64 x1), (2, .slice A2 l2.length c2), (3, .int .i64 x3), (8, .pointer (some ⟨b1, 0, none⟩)), (9, .pointer (some ⟨b2, 0, none⟩))]
abbrev punctualref_PlayAnew.B0 (K : Nat) (w0 : World) (l0 : List SJob) (A0 : Option Addr) (c0 : Nat) (x1 : Int) (l2 : List Int) (A2 : Option Addr) (c2 : Nat) (x3 : Int) (hR0 : RdL w0 A0 l0) (hL0 : l0.length ≤ c0) (hR2 : RdL w0 A2 l2) (hL2 : l2.length ≤ c2) (b1 : Nat) (b2 : Nat) (r1 : SFault) (b3 : Nat) (hc1 : r1.Code = 0) : (SPlayed × SFault) → Exit → Act → World → Prop := Rets Tryd.prog Tryd.f68 (punctualref_PlayAnew.Post w0)
theorem punctualref_PlayAnew_p0 (K : Nat) (w0 : World) (l0 : List SJob) (A0 : Option Addr) (c0 : Nat) (x1 : Int) (l2 : List Int) (A2 : Option Addr) (c2 : Nat) (x3 : Int) (hR0 : RdL w0 A0 l0) (hL0 : l0.length ≤ c0) (hR2 : RdL w0 A2 l2) (hL2 : l2.length ≤ c2) (b1 : Nat) (b2 : Nat) (r1 : SFault) (b3 : Nat) (hc1 : r1.Code = 0) (o : Unit ⊕ (SPlayed × SFault)) (h : punctualref_PlayAnew.p0 x1 x3 = some o) (w : World) (hS : St w0 w [Own.blk b3 (.cells #[.int .i64 r1.Code, .int .i64 r1.At] 39 (0, 0)), Own.blk b2 (.cells #[.int .i64 0, .int .i64 0] 39 (0, 0)), Own.blk b1 (.cells #[.slice none 0 0, .slice none 0 0] 36 (0, 0))]) (Q : Exit → Act → World → Prop) (hQ : ∀ x a w, Outs (punctualref_PlayAnew.A0 K w0 l0 A0 c0 x1 l2 A2 c2 x3 hR0 hL0 hR2 hL2 b1 b2 r1 b3 hc1) (punctualref_PlayAnew.B0 K w0 l0 A0 c0 x1 l2 A2 c2 x3 hR0 hL0 hR2 hL2 b1 b2 r1 b3 hc1) o x a w → Q x a w) : WE Tryd.prog 197 (subF Tryd.f68 [1, 1, 0]) Q [(0, .slice A0 l0.length c0), (1, .int .i64 x1), (2, .slice A2 l2.length c2), (3, .int .i64 x3), (8, .pointer (some ⟨b1, 0, none⟩)), (9, .pointer (some ⟨b2, 0, none⟩)), (10, .pointer (some ⟨b3, 0, none⟩)), (21, .slice A0 l0.length c0), (22, .agg #[.int .i64 r1.Code, .int .i64 r1.At]), (23, .pointer (some ⟨b3, 0, none⟩)), (24, .int .i64 r1.Code), (25, .bool false)] w := by
  simp only [punctualref_PlayAnew.p0] at h
  refine we_seq fun K6 hK6 => ?_
  refine we_region [(0, 0), (1, 0), (2, 0), (3, 0), (4, 0), (5, 0), (6, 0), (7, 0), (8, 0), (9, 0), (10, 0), (11, 0), (12, 0), (13, 0)] rfl ?_
  refine ge_batch [0, 1, 2] (ans := []) (vs := [(30, .bool (decide (x1 < 0))), (29, .bool (decide (x1 < 0))), (28, .int .i64 x1)]) (l := []) (by kernel_rfl) trivial ?_
  by_cases hc2 : x1 < 0
  · rw [if_pos hc2] at h
    refine ge_known (t := 30) (b := decide (x1 < 0)) (c := true) (by kernel_rfl) (decide_eq_true hc2) ?_
    refine ge_batch [3, 4, 5, 6, 7, 8, 9, 10, 11, 12, 13] (ans := []) (vs := [(41, .bool true), (40, undef), (39, undef), (38, .bool true), (37, .bool true), (36, undef), (35, undef), (34, .bool true), (33, .bool true), (32, undef), (31, undef)]) (l := []) (by kernel_rfl) trivial ?_
    refine ge_nil fun a hF => hK6 _ _ ?_ a hF
    refine we_true (by kernel_rfl) ?_
    refine we_seq fun K7 hK7 => ?_
    refine we_region [(0, 0), (1, 1), (2, 2), (3, 2)] rfl ?_
    refine ge_batch [0] (ans := []) (vs := [(42, .agg #[.slice none 0 0, .slice none 0 0])]) (l := []) (by kernel_rfl) trivial ?_
    refine ge_call (d := some 43) (f := 74) (args := #[.int .i64 3, .int .i64 0]) (by kernel_rfl) (punctualref_F_ok 3 0 _ _ rfl) ?_
    rintro _ w6 ⟨rfl, hS8⟩
    refine ⟨_, rfl, hS8.below, ?_⟩
    have hS9 := hS.call hS8
    have hS10 := hS9.bring 2 rfl
    refine ge_set (b := b1) (j := 0) (cs := #[.slice none 0 0, .slice none 0 0]) (t := 36) (vs := [.slice none 0 0, .slice none 0 0]) hS10 (by kernel_rfl) rfl rfl fun w7 hS11 => ?_
    have hS12 : St w0 w7 [Own.blk b1 (.cells #[.slice none 0 0, .slice none 0 0] 36 (0, 0)), Own.blk b3 (.cells #[.int .i64 r1.Code, .int .i64 r1.At] 39 (0, 0)), Own.blk b2 (.cells #[.int .i64 0, .int .i64 0] 39 (0, 0))] := hS11
    have hS13 := hS12.bring 2 rfl
    refine ge_set (b := b2) (j := 0) (cs := #[.int .i64 0, .int .i64 0]) (t := 39) (vs := [.int .i64 ((punctualref_F.f 3 0).Code), .int .i64 ((punctualref_F.f 3 0).At)]) hS13 (by kernel_rfl) rfl rfl fun w8 hS14 => ?_
    have hS15 : St w0 w8 [Own.blk b2 (.cells #[.int .i64 ((punctualref_F.f 3 0).Code), .int .i64 ((punctualref_F.f 3 0).At)] 39 (0, 0)), Own.blk b1 (.cells #[.slice none 0 0, .slice none 0 0] 36 (0, 0)), Own.blk b3 (.cells #[.int .i64 r1.Code, .int .i64 r1.At] 39 (0, 0))] := hS14
    refine ge_nil fun a hF => hK7 _ _ ?_ a hF
    have hS16 := hS15.nil (α := Int) 3
    have hS17 := hS16.nil (α := Int) 3
    have hS18 := hS17.bring 1 rfl
    have hS19 := hS18.bring 1 rfl
    have hS20 := hS19.takeN 2
    obtain rfl := Option.some.inj h
    exact we_ret fun a hF => hQ _ _ _ (Outs.out nofun ⟨rfl, (post_ret (rs := [.cell 8 36, .cell 9 39]) (ans := [.val ((.slice none 0 0)), .val ((.slice none 0 0)), .val (.int .i64 ((punctualref_F.f 3 0).Code)), .val (.int .i64 ((punctualref_F.f 3 0).At))]) (vs := [.agg #[(.slice none 0 0), (.slice none 0 0)], .agg #[.int .i64 ((punctualref_F.f 3 0).Code), .int .i64 ((punctualref_F.f 3 0).At)]]) (l := [.loaded ⟨b1, 0, none⟩ ((.slice none 0 0)), .loaded ⟨b1, 1, none⟩ ((.slice none 0 0)), .loaded ⟨b2, 0, none⟩ (.int .i64 ((punctualref_F.f 3 0).Code)), .loaded ⟨b2, 1, none⟩ (.int .i64 ((punctualref_F.f 3 0).At))]) rfl (by kernel_rfl) ⟨hS17.cell 3 rfl rfl, hS17.cell 3 rfl rfl, hS17.cell 2 rfl rfl, hS17.cell 2 rfl rfl, trivial⟩ ⟨(.slice none 0 0), (.slice none 0 0), rfl, hS20⟩) a hF⟩)
  · rw [if_neg hc2] at h
    refine ge_known (t := 30) (b := decide (x1 < 0)) (c := false) (by kernel_rfl) (decide_eq_false hc2) ?_
    refine ge_batch [3, 4, 5, 6] (ans := []) (vs := [(34, .bool (decide (x1 > 10000))), (33, .bool (decide (x1 > 10000))), (32, .bool (decide (x1 > 10000))), (31, .int .i64 x1)]) (l := []) (by kernel_rfl) trivial ?_
    by_cases hc3 : x1 > 10000
    · rw [if_pos hc3] at h
      refine ge_known (t := 34) (b := decide (x1 > 10000)) (c := true) (by kernel_rfl) (decide_eq_true hc3) ?_
      refine ge_batch [7, 8, 9, 10, 11, 12, 13] (ans := []) (vs := [(41, .bool true), (40, undef), (39, undef), (38, .bool true), (37, .bool true), (36, undef), (35, undef)]) (l := []) (by kernel_rfl) trivial ?_
      refine ge_nil fun a hF => hK6 _ _ ?_ a hF
      refine we_true (by kernel_rfl) ?_
      refine we_seq fun K8 hK8 => ?_
      refine we_region [(0, 0), (1, 1), (2, 2), (3, 2)] rfl ?_
      refine ge_batch [0] (ans := []) (vs := [(42, .agg #[.slice none 0 0, .slice none 0 0])]) (l := []) (by kernel_rfl) trivial ?_
      refine ge_call (d := some 43) (f := 74) (args := #[.int .i64 3, .int .i64 0]) (by kernel_rfl) (punctualref_F_ok 3 0 _ _ rfl) ?_
      rintro _ w9 ⟨rfl, hS21⟩
      refine ⟨_, rfl, hS21.below, ?_⟩
      have hS22 := hS.call hS21
      have hS23 := hS22.bring 2 rfl
      refine ge_set (b := b1) (j := 0) (cs := #[.slice none 0 0, .slice none 0 0]) (t := 36) (vs := [.slice none 0 0, .slice none 0 0]) hS23 (by kernel_rfl) rfl rfl fun w10 hS24 => ?_
      have hS25 : St w0 w10 [Own.blk b1 (.cells #[.slice none 0 0, .slice none 0 0] 36 (0, 0)), Own.blk b3 (.cells #[.int .i64 r1.Code, .int .i64 r1.At] 39 (0, 0)), Own.blk b2 (.cells #[.int .i64 0, .int .i64 0] 39 (0, 0))] := hS24
      have hS26 := hS25.bring 2 rfl
      refine ge_set (b := b2) (j := 0) (cs := #[.int .i64 0, .int .i64 0]) (t := 39) (vs := [.int .i64 ((punctualref_F.f 3 0).Code), .int .i64 ((punctualref_F.f 3 0).At)]) hS26 (by kernel_rfl) rfl rfl fun w11 hS27 => ?_
      have hS28 : St w0 w11 [Own.blk b2 (.cells #[.int .i64 ((punctualref_F.f 3 0).Code), .int .i64 ((punctualref_F.f 3 0).At)] 39 (0, 0)), Own.blk b1 (.cells #[.slice none 0 0, .slice none 0 0] 36 (0, 0)), Own.blk b3 (.cells #[.int .i64 r1.Code, .int .i64 r1.At] 39 (0, 0))] := hS27
      refine ge_nil fun a hF => hK8 _ _ ?_ a hF
      have hS29 := hS28.nil (α := Int) 3
      have hS30 := hS29.nil (α := Int) 3
      have hS31 := hS30.bring 1 rfl
      have hS32 := hS31.bring 1 rfl
      have hS33 := hS32.takeN 2
      obtain rfl := Option.some.inj h
      exact we_ret fun a hF => hQ _ _ _ (Outs.out nofun ⟨rfl, (post_ret (rs := [.cell 8 36, .cell 9 39]) (ans := [.val ((.slice none 0 0)), .val ((.slice none 0 0)), .val (.int .i64 ((punctualref_F.f 3 0).Code)), .val (.int .i64 ((punctualref_F.f 3 0).At))]) (vs := [.agg #[(.slice none 0 0), (.slice none 0 0)], .agg #[.int .i64 ((punctualref_F.f 3 0).Code), .int .i64 ((punctualref_F.f 3 0).At)]]) (l := [.loaded ⟨b1, 0, none⟩ ((.slice none 0 0)), .loaded ⟨b1, 1, none⟩ ((.slice none 0 0)), .loaded ⟨b2, 0, none⟩ (.int .i64 ((punctualref_F.f 3 0).Code)), .loaded ⟨b2, 1, none⟩ (.int .i64 ((punctualref_F.f 3 0).At))]) rfl (by kernel_rfl) ⟨hS30.cell 3 rfl rfl, hS30.cell 3 rfl rfl, hS30.cell 2 rfl rfl, hS30.cell 2 rfl rfl, trivial⟩ ⟨(.slice none 0 0), (.slice none 0 0), rfl, hS33⟩) a hF⟩)
    · rw [if_neg hc3] at h
      refine ge_known (t := 34) (b := decide (x1 > 10000)) (c := false) (by kernel_rfl) (decide_eq_false hc3) ?_
      refine ge_batch [7, 8, 9, 10] (ans := []) (vs := [(38, .bool (decide (x3 < 0))), (37, .bool (decide (x3 < 0))), (36, .bool (decide (x3 < 0))), (35, .int .i64 x3)]) (l := []) (by kernel_rfl) trivial ?_
      by_cases hc4 : x3 < 0
      · rw [if_pos hc4] at h
        refine ge_known (t := 38) (b := decide (x3 < 0)) (c := true) (by kernel_rfl) (decide_eq_true hc4) ?_
        refine ge_batch [11, 12, 13] (ans := []) (vs := [(41, .bool true), (40, undef), (39, undef)]) (l := []) (by kernel_rfl) trivial ?_
        refine ge_nil fun a hF => hK6 _ _ ?_ a hF
        refine we_true (by kernel_rfl) ?_
        refine we_seq fun K9 hK9 => ?_
        refine we_region [(0, 0), (1, 1), (2, 2), (3, 2)] rfl ?_
        refine ge_batch [0] (ans := []) (vs := [(42, .agg #[.slice none 0 0, .slice none 0 0])]) (l := []) (by kernel_rfl) trivial ?_
        refine ge_call (d := some 43) (f := 74) (args := #[.int .i64 3, .int .i64 0]) (by kernel_rfl) (punctualref_F_ok 3 0 _ _ rfl) ?_
        rintro _ w12 ⟨rfl, hS34⟩
        refine ⟨_, rfl, hS34.below, ?_⟩
        have hS35 := hS.call hS34
        have hS36 := hS35.bring 2 rfl
        refine ge_set (b := b1) (j := 0) (cs := #[.slice none 0 0, .slice none 0 0]) (t := 36) (vs := [.slice none 0 0, .slice none 0 0]) hS36 (by kernel_rfl) rfl rfl fun w13 hS37 => ?_
        have hS38 : St w0 w13 [Own.blk b1 (.cells #[.slice none 0 0, .slice none 0 0] 36 (0, 0)), Own.blk b3 (.cells #[.int .i64 r1.Code, .int .i64 r1.At] 39 (0, 0)), Own.blk b2 (.cells #[.int .i64 0, .int .i64 0] 39 (0, 0))] := hS37
        have hS39 := hS38.bring 2 rfl
        refine ge_set (b := b2) (j := 0) (cs := #[.int .i64 0, .int .i64 0]) (t := 39) (vs := [.int .i64 ((punctualref_F.f 3 0).Code), .int .i64 ((punctualref_F.f 3 0).At)]) hS39 (by kernel_rfl) rfl rfl fun w14 hS40 => ?_
        have hS41 : St w0 w14 [Own.blk b2 (.cells #[.int .i64 ((punctualref_F.f 3 0).Code), .int .i64 ((punctualref_F.f 3 0).At)] 39 (0, 0)), Own.blk b1 (.cells #[.slice none 0 0, .slice none 0 0] 36 (0, 0)), Own.blk b3 (.cells #[.int .i64 r1.Code, .int .i64 r1.At] 39 (0, 0))] := hS40
        refine ge_nil fun a hF => hK9 _ _ ?_ a hF
        have hS42 := hS41.nil (α := Int) 3
        have hS43 := hS42.nil (α := Int) 3
        have hS44 := hS43.bring 1 rfl
        have hS45 := hS44.bring 1 rfl
        have hS46 := hS45.takeN 2
        obtain rfl := Option.some.inj h
        exact we_ret fun a hF => hQ _ _ _ (Outs.out nofun ⟨rfl, (post_ret (rs := [.cell 8 36, .cell 9 39]) (ans := [.val ((.slice none 0 0)), .val ((.slice none 0 0)), .val (.int .i64 ((punctualref_F.f 3 0).Code)), .val (.int .i64 ((punctualref_F.f 3 0).At))]) (vs := [.agg #[(.slice none 0 0), (.slice none 0 0)], .agg #[.int .i64 ((punctualref_F.f 3 0).Code), .int .i64 ((punctualref_F.f 3 0).At)]]) (l := [.loaded ⟨b1, 0, none⟩ ((.slice none 0 0)), .loaded ⟨b1, 1, none⟩ ((.slice none 0 0)), .loaded ⟨b2, 0, none⟩ (.int .i64 ((punctualref_F.f 3 0).Code)), .loaded ⟨b2, 1, none⟩ (.int .i64 ((punctualref_F.f 3 0).At))]) rfl (by kernel_rfl) ⟨hS43.cell 3 rfl rfl, hS43.cell 3 rfl rfl, hS43.cell 2 rfl rfl, hS43.cell 2 rfl rfl, trivial⟩ ⟨(.slice none 0 0), (.slice none 0 0), rfl, hS46⟩) a hF⟩)
      · rw [if_neg hc4] at h
        refine ge_known (t := 38) (b := decide (x3 < 0)) (c := false) (by kernel_rfl) (decide_eq_false hc4) ?_
        refine ge_batch [11, 12, 13] (ans := []) (vs := [(41, .bool (decide (x3 > 20000))), (40, .bool (decide (x3 > 20000))), (39, .int .i64 x3)]) (l := []) (by kernel_rfl) trivial ?_
        refine ge_nil fun a hF => hK6 _ _ ?_ a hF
        by_cases hc5 : x3 > 20000
        · rw [if_pos hc5] at h
          refine we_known (t := 41) (b := decide (x3 > 20000)) (v := true) (by kernel_rfl) (decide_eq_true hc5) ?_
          refine we_true (by kernel_rfl) ?_
          refine we_seq fun K10 hK10 => ?_
          refine we_region [(0, 0), (1, 1), (2, 2), (3, 2)] rfl ?_
          refine ge_batch [0] (ans := []) (vs := [(42, .agg #[.slice none 0 0, .slice none 0 0])]) (l := []) (by kernel_rfl) trivial ?_
          refine ge_call (d := some 43) (f := 74) (args := #[.int .i64 3, .int .i64 0]) (by kernel_rfl) (punctualref_F_ok 3 0 _ _ rfl) ?_
          rintro _ w15 ⟨rfl, hS47⟩
          refine ⟨_, rfl, hS47.below, ?_⟩
          have hS48 := hS.call hS47
          have hS49 := hS48.bring 2 rfl
          refine ge_set (b := b1) (j := 0) (cs := #[.slice none 0 0, .slice none 0 0]) (t := 36) (vs := [.slice none 0 0, .slice none 0 0]) hS49 (by kernel_rfl) rfl rfl fun w16 hS50 => ?_
          have hS51 : St w0 w16 [Own.blk b1 (.cells #[.slice none 0 0, .slice none 0 0] 36 (0, 0)), Own.blk b3 (.cells #[.int .i64 r1.Code, .int .i64 r1.At] 39 (0, 0)), Own.blk b2 (.cells #[.int .i64 0, .int .i64 0] 39 (0, 0))] := hS50
          have hS52 := hS51.bring 2 rfl
          refine ge_set (b := b2) (j := 0) (cs := #[.int .i64 0, .int .i64 0]) (t := 39) (vs := [.int .i64 ((punctualref_F.f 3 0).Code), .int .i64 ((punctualref_F.f 3 0).At)]) hS52 (by kernel_rfl) rfl rfl fun w17 hS53 => ?_
          have hS54 : St w0 w17 [Own.blk b2 (.cells #[.int .i64 ((punctualref_F.f 3 0).Code), .int .i64 ((punctualref_F.f 3 0).At)] 39 (0, 0)), Own.blk b1 (.cells #[.slice none 0 0, .slice none 0 0] 36 (0, 0)), Own.blk b3 (.cells #[.int .i64 r1.Code, .int .i64 r1.At] 39 (0, 0))] := hS53
          refine ge_nil fun a hF => hK10 _ _ ?_ a hF
          have hS55 := hS54.nil (α := Int) 3
          have hS56 := hS55.nil (α := Int) 3
          have hS57 := hS56.bring 1 rfl
          have hS58 := hS57.bring 1 rfl
          have hS59 := hS58.takeN 2
          obtain rfl := Option.some.inj h
          exact we_ret fun a hF => hQ _ _ _ (Outs.out nofun ⟨rfl, (post_ret (rs := [.cell 8 36, .cell 9 39]) (ans := [.val ((.slice none 0 0)), .val ((.slice none 0 0)), .val (.int .i64 ((punctualref_F.f 3 0).Code)), .val (.int .i64 ((punctualref_F.f 3 0).At))]) (vs := [.agg #[(.slice none 0 0), (.slice none 0 0)], .agg #[.int .i64 ((punctualref_F.f 3 0).Code), .int .i64 ((punctualref_F.f 3 0).At)]]) (l := [.loaded ⟨b1, 0, none⟩ ((.slice none 0 0)), .loaded ⟨b1, 1, none⟩ ((.slice none 0 0)), .loaded ⟨b2, 0, none⟩ (.int .i64 ((punctualref_F.f 3 0).Code)), .loaded ⟨b2, 1, none⟩ (.int .i64 ((punctualref_F.f 3 0).At))]) rfl (by kernel_rfl) ⟨hS56.cell 3 rfl rfl, hS56.cell 3 rfl rfl, hS56.cell 2 rfl rfl, hS56.cell 2 rfl rfl, trivial⟩ ⟨(.slice none 0 0), (.slice none 0 0), rfl, hS59⟩) a hF⟩)
        · rw [if_neg hc5] at h
          refine we_known (t := 41) (b := decide (x3 > 20000)) (v := false) (by kernel_rfl) (decide_eq_false hc5) ?_
          refine we_false (by kernel_rfl) ?_
          have hS60 := hS.bring 2 rfl
          have hS61 := hS60.bring 2 rfl
          have hS62 := hS61.takeN 2
          obtain rfl := Option.some.inj h
          exact we_skip fun a hF => hQ _ _ _ (Outs.again ⟨hS62, hF.weaken ⟨by kernel_rfl, by kernel_rfl, by kernel_rfl, by kernel_rfl, by kernel_rfl, by kernel_rfl, trivial⟩⟩)
abbrev punctualref_PlayAnew.A1 (K : Nat) (w0 : World) (l0 : List SJob) (A0 : Option Addr) (c0 : Nat) (x1 : Int) (l2 : List Int) (A2 : Option Addr) (c2 : Nat) (x3 : Int) (hR0 : RdL w0 A0 l0) (hL0 : l0.length ≤ c0) (hR2 : RdL w0 A2 l2) (hL2 : l2.length ≤ c2) (b1 : Nat) (b2 : Nat) (r1 : SFault) (b3 : Nat) (hc1 : r1.Code = 0) (hc6 : ¬ ((l2.length : Int) > 4000)) : Int → Act → World → Prop := fun (s : Int) a w => St w0 w [Own.blk b2 (.cells #[.int .i64 0, .int .i64 0] 39 (0, 0)), Own.blk b1 (.cells #[.slice none 0 0, .slice none 0 0] 36 (0, 0))] ∧ Frm 197 a [(0, .slice A0 l0.length c0), (1, .int .i64 x1), (2, .slice A2 l2.length c2), (3, .int .i64 x3), (8, .pointer (some ⟨b1, 0, none⟩)), (9, .pointer (some ⟨b2, 0, none⟩)), (11, .int .i64 s)]
abbrev punctualref_PlayAnew.B1 (K : Nat) (w0 : World) (l0 : List SJob) (A0 : Option Addr) (c0 : Nat) (x1 : Int) (l2 : List Int) (A2 : Option Addr) (c2 : Nat) (x3 : Int) (hR0 : RdL w0 A0 l0) (hL0 : l0.length ≤ c0) (hR2 : RdL w0 A2 l2) (hL2 : l2.length ≤ c2) (b1 : Nat) (b2 : Nat) (r1 : SFault) (b3 : Nat) (hc1 : r1.Code = 0) (hc6 : ¬ ((l2.length : Int) > 4000)) : (Unit ⊕ (SPlayed × SFault)) → Exit → Act → World → Prop := Exits 0 (fun (s : Unit) a w => St w0 w [Own.blk b2 (.cells #[.int .i64 0, .int .i64 0] 39 (0, 0)), Own.blk b1 (.cells #[.slice none 0 0, .slice none 0 0] 36 (0, 0))] ∧ Frm 197 a [(0, .slice A0 l0.length c0), (1, .int .i64 x1), (2, .slice A2 l2.length c2), (3, .int .i64 x3), (8, .pointer (some ⟨b1, 0, none⟩)), (9, .pointer (some ⟨b2, 0, none⟩))]) (Rets Tryd.prog Tryd.f68 (punctualref_PlayAnew.Post w0))
theorem punctualref_PlayAnew_r1 (K : Nat) (w0 : World) (l0 : List SJob) (A0 : Option Addr) (c0 : Nat) (x1 : Int) (l2 : List Int) (A2 : Option Addr) (c2 : Nat) (x3 : Int) (hR0 : RdL w0 A0 l0) (hL0 : l0.length ≤ c0) (hR2 : RdL w0 A2 l2) (hL2 : l2.length ≤ c2) (b1 : Nat) (b2 : Nat) (r1 : SFault) (b3 : Nat) (hc1 : r1.Code = 0) (hc6 : ¬ ((l2.length : Int) > 4000)) (s : Int) (o : Int ⊕ (Unit ⊕ (SPlayed × SFault))) (h : punctualref_PlayAnew.r1 l2 s = some o) (a : Act) (w : World) (hA : punctualref_PlayAnew.A1 K w0 l0 A0 c0 x1 l2 A2 c2 x3 hR0 hL0 hR2 hL2 b1 b2 r1 b3 hc1 hc6 s a w) (Q : Exit → Act → World → Prop) (hQ : ∀ x a w, Outs (punctualref_PlayAnew.A1 K w0 l0 A0 c0 x1 l2 A2 c2 x3 hR0 hL0 hR2 hL2 b1 b2 r1 b3 hc1 hc6) (punctualref_PlayAnew.B1 K w0 l0 A0 c0 x1 l2 A2 c2 x3 hR0 hL0 hR2 hL2 b1 b2 r1 b3 hc1 hc6) o x a w → Q x a w) : (subF Tryd.f68 [1, 1, 1, 1, 0, 1, 0, 0]).wp Tryd.prog Q a w := by
  obtain ⟨z1, hs⟩ : ∃ z, z = s := ⟨s, rfl⟩
  subst hs
  obtain ⟨hS, hF⟩ := hA
  replace hS : St w0 w [Own.blk b2 (.cells #[.int .i64 0, .int .i64 0] 39 (0, 0)), Own.blk b1 (.cells #[.slice none 0 0, .slice none 0 0] 36 (0, 0))] := hS
  simp only [punctualref_PlayAnew.r1] at h
  refine (?_ : WE Tryd.prog 197 (subF Tryd.f68 [1, 1, 1, 1, 0, 1, 0, 0]) Q [(0, .slice A0 l0.length c0), (1, .int .i64 x1), (2, .slice A2 l2.length c2), (3, .int .i64 x3), (8, .pointer (some ⟨b1, 0, none⟩)), (9, .pointer (some ⟨b2, 0, none⟩)), (11, .int .i64 z1)] w) a hF
  clear hF a
  refine we_seq fun K16 hK16 => ?_
  refine we_seq fun K17 hK17 => ?_
  refine we_region [(0, 0), (1, 0), (2, 0), (3, 0)] rfl ?_
  refine ge_batch [0, 1, 2, 3] (ans := []) (vs := [(52, .bool (decide (z1 < (l2.length : Int)))), (51, .int .i64 (l2.length : Int)), (50, .slice A2 l2.length c2), (49, .int .i64 z1)]) (l := []) (by kernel_rfl) trivial ?_
  refine ge_nil fun a hF => hK17 _ _ ?_ a hF
  by_cases hc7 : z1 < (l2.length : Int)
  · rw [if_pos hc7] at h
    refine we_known (t := 52) (b := decide (z1 < (l2.length : Int))) (v := true) (by kernel_rfl) (decide_eq_true hc7) ?_
    refine we_true (by kernel_rfl) ?_
    refine we_skip fun a hF => hK16 _ _ ?_ a hF
    refine we_seq fun K18 hK18 => ?_
    refine we_block ?_
    refine we_seq fun K19 hK19 => ?_
    refine we_draws (by kernel_rfl) [(0, 0), (1, 0), (2, 0), (3, 0), (4, 0), (5, 0), (6, 0), (7, 0), (8, 0), (9, 0)] (by kernel_rfl) ?_
    have hS79 := hS.drew
    refine ge_batch [0, 1] (ans := []) (vs := [(56, .int .i64 z1), (55, .slice A2 l2.length c2)]) (l := []) (by kernel_rfl) trivial ?_
    by_cases hc8 : 0 ≤ z1
    · rw [if_pos hc8] at h
      rcases hx4 : l2[(z1).toNat]? with _ | e1
      · rw [hx4] at h; cases h
      rw [hx4] at h
      simp only [] at h
      refine ge_index (d := 57) (ty := 0) (t := 24) (el := 3) (sz := 1) (m := l2.length) (c := c2) (x := (.tmp 55)) (y := (.tmp 56)) (A := A2) (k' := .i64) (j := z1) (jn := ((z1).toNat)) (b0 := blkOf A2) (o0 := offOf A2) (by kernel_rfl) (by kernel_rfl) (by kernel_rfl) (by kernel_rfl) (by kernel_rfl) ((hS79.rd hR2).eqSome (pos_of_get hx4)) (Int.toNat_of_nonneg hc8).symm (lt_of_get hx4) ?_
      refine ge_batch [3, 4, 5, 6] (ans := [.val (.int .i64 e1)]) (vs := [(61, .int .i64 (IntKind.i64.wrap (z1 - 1))), (60, .int .i64 z1), (59, .slice A2 l2.length c2), (58, .int .i64 e1)]) (l := [.loaded ⟨blkOf A2, offOf A2 + ((z1).toNat) * 1, none⟩ (.int .i64 e1)]) (by kernel_rfl) ⟨RdL.cell (j := 0) (hS79.rd hR2) hx4 rfl, trivial⟩ ?_
      by_cases hc9 : 0 ≤ (IntKind.i64.wrap (z1 - 1))
      · rw [if_pos hc9] at h
        rcases hx5 : l2[(IntKind.i64.wrap (z1 - 1)).toNat]? with _ | e2
        · rw [hx5] at h; cases h
        rw [hx5] at h
        simp only [] at h
        refine ge_index (d := 62) (ty := 0) (t := 24) (el := 3) (sz := 1) (m := l2.length) (c := c2) (x := (.tmp 59)) (y := (.tmp 61)) (A := A2) (k' := .i64) (j := (IntKind.i64.wrap (z1 - 1))) (jn := ((IntKind.i64.wrap (z1 - 1)).toNat)) (b0 := blkOf A2) (o0 := offOf A2) (by kernel_rfl) (by kernel_rfl) (by kernel_rfl) (by kernel_rfl) (by kernel_rfl) ((hS79.rd hR2).eqSome (pos_of_get hx5)) (Int.toNat_of_nonneg hc9).symm (lt_of_get hx5) ?_
        refine ge_batch [8, 9] (ans := [.val (.int .i64 e2)]) (vs := [(64, .bool (decide (e1 ≤ e2))), (63, .int .i64 e2)]) (l := [.loaded ⟨blkOf A2, offOf A2 + ((IntKind.i64.wrap (z1 - 1)).toNat) * 1, none⟩ (.int .i64 e2)]) (by kernel_rfl) ⟨RdL.cell (j := 0) (hS79.rd hR2) hx5 rfl, trivial⟩ ?_
        refine ge_nil fun a hF => hK19 _ _ ?_ a hF
        by_cases hc10 : e1 ≤ e2
        · rw [if_pos hc10] at h
          refine we_known (t := 64) (b := decide (e1 ≤ e2)) (v := true) (by kernel_rfl) (decide_eq_true hc10) ?_
          refine we_true (by kernel_rfl) ?_
          refine we_seq fun K20 hK20 => ?_
          refine we_region [(0, 0), (1, 0), (2, 1), (3, 2), (4, 2)] rfl ?_
          refine ge_batch [0, 1] (ans := []) (vs := [(66, .int .i64 z1), (65, .agg #[.slice none 0 0, .slice none 0 0])]) (l := []) (by kernel_rfl) trivial ?_
          refine ge_call (d := some 67) (f := 74) (args := #[.int .i64 12, .int .i64 z1]) (by kernel_rfl) (punctualref_F_ok 12 z1 _ _ rfl) ?_
          rintro _ w22 ⟨rfl, hS80⟩
          refine ⟨_, rfl, hS80.below, ?_⟩
          have hS81 := hS79.call hS80
          have hS82 := hS81.bring 1 rfl
          refine ge_set (b := b1) (j := 0) (cs := #[.slice none 0 0, .slice none 0 0]) (t := 36) (vs := [.slice none 0 0, .slice none 0 0]) hS82 (by kernel_rfl) rfl rfl fun w23 hS83 => ?_
          have hS84 : St w0 w23 [Own.blk b1 (.cells #[.slice none 0 0, .slice none 0 0] 36 (0, 0)), Own.blk b2 (.cells #[.int .i64 0, .int .i64 0] 39 (0, 0))] := hS83
          have hS85 := hS84.bring 1 rfl
          refine ge_set (b := b2) (j := 0) (cs := #[.int .i64 0, .int .i64 0]) (t := 39) (vs := [.int .i64 ((punctualref_F.f 12 z1).Code), .int .i64 ((punctualref_F.f 12 z1).At)]) hS85 (by kernel_rfl) rfl rfl fun w24 hS86 => ?_
          have hS87 : St w0 w24 [Own.blk b2 (.cells #[.int .i64 ((punctualref_F.f 12 z1).Code), .int .i64 ((punctualref_F.f 12 z1).At)] 39 (0, 0)), Own.blk b1 (.cells #[.slice none 0 0, .slice none 0 0] 36 (0, 0))] := hS86
          refine ge_nil fun a hF => hK20 _ _ ?_ a hF
          have hS88 := hS87.nil (α := Int) 3
          have hS89 := hS88.nil (α := Int) 3
          have hS90 := hS89.bring 1 rfl
          have hS91 := hS90.bring 1 rfl
          have hS92 := hS91.takeN 2
          obtain rfl := Option.some.inj h
          exact we_ret fun a hF => hQ _ _ _ (Outs.out nofun (Exits.on ⟨rfl, (post_ret (rs := [.cell 8 36, .cell 9 39]) (ans := [.val ((.slice none 0 0)), .val ((.slice none 0 0)), .val (.int .i64 ((punctualref_F.f 12 z1).Code)), .val (.int .i64 ((punctualref_F.f 12 z1).At))]) (vs := [.agg #[(.slice none 0 0), (.slice none 0 0)], .agg #[.int .i64 ((punctualref_F.f 12 z1).Code), .int .i64 ((punctualref_F.f 12 z1).At)]]) (l := [.loaded ⟨b1, 0, none⟩ ((.slice none 0 0)), .loaded ⟨b1, 1, none⟩ ((.slice none 0 0)), .loaded ⟨b2, 0, none⟩ (.int .i64 ((punctualref_F.f 12 z1).Code)), .loaded ⟨b2, 1, none⟩ (.int .i64 ((punctualref_F.f 12 z1).At))]) rfl (by kernel_rfl) ⟨hS89.cell 3 rfl rfl, hS89.cell 3 rfl rfl, hS89.cell 2 rfl rfl, hS89.cell 2 rfl rfl, trivial⟩ ⟨(.slice none 0 0), (.slice none 0 0), rfl, hS92⟩) a hF⟩))
        · rw [if_neg hc10] at h
          refine we_known (t := 64) (b := decide (e1 ≤ e2)) (v := false) (by kernel_rfl) (decide_eq_false hc10) ?_
          refine we_false (by kernel_rfl) ?_
          refine we_skip fun a hF => hK18 _ _ ?_ a hF
          refine we_region [(0, 0), (1, 0), (2, 0)] rfl ?_
          refine ge_batch [0, 1, 2] (ans := []) (vs := [(11, .int .i64 (IntKind.i64.wrap (z1 + 1))), (54, .int .i64 (IntKind.i64.wrap (z1 + 1))), (53, .int .i64 z1)]) (l := []) (by kernel_rfl) trivial ?_
          have hS93 := hS79.bring 1 rfl
          have hS94 := hS93.bring 1 rfl
          obtain rfl := Option.some.inj h
          exact ge_nil fun a hF => hQ _ _ _ (Outs.again ⟨hS94, hF.weaken ⟨by kernel_rfl, by kernel_rfl, by kernel_rfl, by kernel_rfl, by kernel_rfl, by kernel_rfl, by kernel_rfl, trivial⟩⟩)
      · rw [if_neg hc9] at h
        cases h
    · rw [if_neg hc8] at h
      cases h
  · rw [if_neg hc7] at h
    refine we_known (t := 52) (b := decide (z1 < (l2.length : Int))) (v := false) (by kernel_rfl) (decide_eq_false hc7) ?_
    refine we_false (by kernel_rfl) ?_
    have hS95 := hS.bring 1 rfl
    have hS96 := hS95.bring 1 rfl
    obtain rfl := Option.some.inj h
    exact we_exit fun a hF => hQ _ _ _ (Outs.out nofun (Exits.here ⟨hS96, hF.weaken ⟨by kernel_rfl, by kernel_rfl, by kernel_rfl, by kernel_rfl, by kernel_rfl, by kernel_rfl, trivial⟩⟩))
abbrev punctualref_PlayAnew.A2 (K : Nat) (w0 : World) (l0 : List SJob) (A0 : Option Addr) (c0 : Nat) (x1 : Int) (l2 : List Int) (A2 : Option Addr) (c2 : Nat) (x3 : Int) (hR0 : RdL w0 A0 l0) (hL0 : l0.length ≤ c0) (hR2 : RdL w0 A2 l2) (hL2 : l2.length ≤ c2) (b1 : Nat) (b2 : Nat) (r1 : SFault) (b3 : Nat) (hc1 : r1.Code = 0) (hc6 : ¬ ((l2.length : Int) > 4000)) : ((List Int) × (List Int)) → Act → World → Prop := fun (s : (List Int) × (List Int)) a w => ∃ (v1 : Value) (v2 : Value), St w0 w [Own.blk b2 (.cells #[.int .i64 0, .int .i64 0] 39 (0, 0)), Own.blk b1 (.cells #[.slice none 0 0, .slice none 0 0] 36 (0, 0)), Own.of v1 3 s.1, Own.of v2 3 s.2] ∧ Frm 197 a [(0, .slice A0 l0.length c0), (1, .int .i64 x1), (2, .slice A2 l2.length c2), (3, .int .i64 x3), (8, .pointer (some ⟨b1, 0, none⟩)), (9, .pointer (some ⟨b2, 0, none⟩)), (12, v1), (13, v2)]
abbrev punctualref_PlayAnew.B2 (K : Nat) (w0 : World) (l0 : List SJob) (A0 : Option Addr) (c0 : Nat) (x1 : Int) (l2 : List Int) (A2 : Option Addr) (c2 : Nat) (x3 : Int) (hR0 : RdL w0 A0 l0) (hL0 : l0.length ≤ c0) (hR2 : RdL w0 A2 l2) (hL2 : l2.length ≤ c2) (b1 : Nat) (b2 : Nat) (r1 : SFault) (b3 : Nat) (hc1 : r1.Code = 0) (hc6 : ¬ ((l2.length : Int) > 4000)) : (SPlayed × SFault) → Exit → Act → World → Prop := Rets Tryd.prog Tryd.f68 (punctualref_PlayAnew.Post w0)
theorem punctualref_PlayAnew_p2 (K : Nat) (w0 : World) (l0 : List SJob) (A0 : Option Addr) (c0 : Nat) (x1 : Int) (l2 : List Int) (A2 : Option Addr) (c2 : Nat) (x3 : Int) (hR0 : RdL w0 A0 l0) (hL0 : l0.length ≤ c0) (hR2 : RdL w0 A2 l2) (hL2 : l2.length ≤ c2) (b1 : Nat) (b2 : Nat) (r1 : SFault) (b3 : Nat) (hc1 : r1.Code = 0) (hc6 : ¬ ((l2.length : Int) > 4000)) (o : ((List Int) × (List Int)) ⊕ (SPlayed × SFault)) (h : punctualref_PlayAnew.p2 l0 = some o) (w : World) (hS : St w0 w [Own.blk b2 (.cells #[.int .i64 0, .int .i64 0] 39 (0, 0)), Own.blk b1 (.cells #[.slice none 0 0, .slice none 0 0] 36 (0, 0))]) (Q : Exit → Act → World → Prop) (hQ : ∀ x a w, Outs (punctualref_PlayAnew.A2 K w0 l0 A0 c0 x1 l2 A2 c2 x3 hR0 hL0 hR2 hL2 b1 b2 r1 b3 hc1 hc6) (punctualref_PlayAnew.B2 K w0 l0 A0 c0 x1 l2 A2 c2 x3 hR0 hL0 hR2 hL2 b1 b2 r1 b3 hc1 hc6) o x a w → Q x a w) : WE Tryd.prog 197 (subF Tryd.f68 [1, 1, 1, 1, 1, 0]) Q [(0, .slice A0 l0.length c0), (1, .int .i64 x1), (2, .slice A2 l2.length c2), (3, .int .i64 x3), (8, .pointer (some ⟨b1, 0, none⟩)), (9, .pointer (some ⟨b2, 0, none⟩))] w := by
  simp only [punctualref_PlayAnew.p2] at h
  refine we_orders2 (by kernel_rfl) [] (.vals [0] (.vals [1] (.vals [3] (.vals [4] (.alt 2 1 (.vals [6] (.alt 5 1 (.vals [7] .fin) .nomore)) (.alt 5 1 (.alt 2 1 (.vals [6] (.vals [7] .fin)) .nomore) .nomore)))))) (by kernel_rfl) ?_
  have hS98 := hS.drew
  refine go2_batch [0, 1, 3, 4] (ans := []) (vs := [(72, .int .i64 (l0.length : Int)), (71, .slice A0 l0.length c0), (69, .int .i64 (l0.length : Int)), (68, .slice A0 l0.length c0)]) (l := []) (by kernel_rfl) trivial mem_nil ?_
  by_cases hc11 : l0.length ≤ 17592186044416
  · rw [if_pos hc11] at h
    refine go_alt2 (fun KK hKK => ?_) ?_
    · refine ge_one2 ?_
      refine ge_make (α := Int) (d := 70) (t := 24) (el := 3) (bytes := 8) (l := l0.length) (c := l0.length) (x := (.tmp 69)) (y := (.tmp 69)) (ty := 24) (k1 := .i64) (k2 := .i64) (li := (l0.length : Int)) (ci := (l0.length : Int)) (z := .int .i64 0) (z' := (0 : Int)) (by kernel_rfl) (by kernel_rfl) (by kernel_rfl) rfl rfl (by kernel_rfl) (by kernel_rfl) rfl hS98 (Nat.le_refl _) rfl (by omega) fun v3 w26 _ hS99 => ?_
      refine ge_nil fun a hF => hKK _ _ (RS.of2 (l := []) (by kernel_rfl) trivial trivial) ?_ a hF
      refine go2_batch [6] (ans := []) (vs := [(12, v3)]) (l := []) (by kernel_rfl) trivial mem_nil ?_
      refine go_alt2 (fun KK hKK => ?_) ?_
      · refine ge_one2 ?_
        refine ge_make (α := Int) (d := 73) (t := 24) (el := 3) (bytes := 8) (l := l0.length) (c := l0.length) (x := (.tmp 72)) (y := (.tmp 72)) (ty := 24) (k1 := .i64) (k2 := .i64) (li := (l0.length : Int)) (ci := (l0.length : Int)) (z := .int .i64 0) (z' := (0 : Int)) (by kernel_rfl) (by kernel_rfl) (by kernel_rfl) rfl rfl (by kernel_rfl) (by kernel_rfl) rfl hS99 (Nat.le_refl _) rfl (by omega) fun v4 w27 _ hS100 => ?_
        refine ge_nil fun a hF => hKK _ _ (RS.of2 (l := []) (by kernel_rfl) trivial trivial) ?_ a hF
        refine go2_batch [7] (ans := []) (vs := [(13, v4)]) (l := []) (by kernel_rfl) trivial mem_nil ?_
        have hS101 := hS100.bring 1 rfl
        have hS102 := hS101.bring 3 rfl
        have hS103 := hS102.bring 3 rfl
        obtain rfl := Option.some.inj h
        exact go_fin2 fun a hF => hQ _ _ _ (Outs.again ⟨v3, v4, hS103, hF.weaken ⟨by kernel_rfl, by kernel_rfl, by kernel_rfl, by kernel_rfl, by kernel_rfl, by kernel_rfl, by kernel_rfl, by kernel_rfl, trivial⟩⟩)
      exact go_nomore2
    refine go_alt2 (fun KK hKK => ?_) ?_
    · refine ge_one2 ?_
      refine ge_make (α := Int) (d := 73) (t := 24) (el := 3) (bytes := 8) (l := l0.length) (c := l0.length) (x := (.tmp 72)) (y := (.tmp 72)) (ty := 24) (k1 := .i64) (k2 := .i64) (li := (l0.length : Int)) (ci := (l0.length : Int)) (z := .int .i64 0) (z' := (0 : Int)) (by kernel_rfl) (by kernel_rfl) (by kernel_rfl) rfl rfl (by kernel_rfl) (by kernel_rfl) rfl hS98 (Nat.le_refl _) rfl (by omega) fun v3 w26 _ hS99 => ?_
      refine ge_nil fun a hF => hKK _ _ (RS.of2 (l := []) (by kernel_rfl) trivial trivial) ?_ a hF
      refine go_alt2 (fun KK hKK => ?_) ?_
      · refine ge_one2 ?_
        refine ge_make (α := Int) (d := 70) (t := 24) (el := 3) (bytes := 8) (l := l0.length) (c := l0.length) (x := (.tmp 69)) (y := (.tmp 69)) (ty := 24) (k1 := .i64) (k2 := .i64) (li := (l0.length : Int)) (ci := (l0.length : Int)) (z := .int .i64 0) (z' := (0 : Int)) (by kernel_rfl) (by kernel_rfl) (by kernel_rfl) rfl rfl (by kernel_rfl) (by kernel_rfl) rfl hS99 (Nat.le_refl _) rfl (by omega) fun v4 w27 _ hS100 => ?_
        refine ge_nil fun a hF => hKK _ _ (RS.of2 (l := []) (by kernel_rfl) trivial trivial) ?_ a hF
        refine go2_batch [6, 7] (ans := []) (vs := [(13, v3), (12, v4)]) (l := []) (by kernel_rfl) trivial mem_nil ?_
        have hS101 := hS100.bring 1 rfl
        have hS102 := hS101.bring 1 rfl
        have hS103 := hS102.bring 3 rfl
        have hS104 := hS103.bring 3 rfl
        obtain rfl := Option.some.inj h
        exact go_fin2 fun a hF => hQ _ _ _ (Outs.again ⟨v4, v3, hS104, hF.weaken ⟨by kernel_rfl, by kernel_rfl, by kernel_rfl, by kernel_rfl, by kernel_rfl, by kernel_rfl, by kernel_rfl, by kernel_rfl, trivial⟩⟩)
      exact go_nomore2
    exact go_nomore2
  · rw [if_neg hc11] at h
    cases h
abbrev punctualref_PlayAnew.A3 (K : Nat) (w0 : World) (l0 : List SJob) (A0 : Option Addr) (c0 : Nat) (x1 : Int) (l2 : List Int) (A2 : Option Addr) (c2 : Nat) (x3 : Int) (hR0 : RdL w0 A0 l0) (hL0 : l0.length ≤ c0) (hR2 : RdL w0 A2 l2) (hL2 : l2.length ≤ c2) (b1 : Nat) (b2 : Nat) (r1 : SFault) (b3 : Nat) (hc1 : r1.Code = 0) (hc6 : ¬ ((l2.length : Int) > 4000)) (m3 : List Int) (m4 : List Int) (hc12 : l0.length ≤ 17592186044416) (Z1 : Option Addr) (cz1 : Nat) (b4 : Nat) (Z2 : Option Addr) (cz2 : Nat) (Z3 : Option Addr) (cz3 : Nat) : (Nat × (List Int)) → Act → World → Prop := fun (s : Nat × (List Int)) a w => St w0 w [Own.blk b4 (.cells #[.slice none 0 0, (.slice Z1 s.2.length cz1)] 36 (0, 0)), Own.blk b2 (.cells #[.int .i64 0, .int .i64 0] 39 (0, 0)), Own.blk b1 (.cells #[.slice none 0 0, .slice none 0 0] 36 (0, 0)), Own.of (.slice Z2 m3.length cz2) 3 m3, Own.of (.slice Z3 m4.length cz3) 3 m4, Own.of (.slice Z1 s.2.length cz1) 3 s.2] ∧ Frm 197 a [(0, .slice A0 l0.length c0), (1, .int .i64 x1), (2, .slice A2 l2.length c2), (3, .int .i64 x3), (8, .pointer (some ⟨b1, 0, none⟩)), (9, .pointer (some ⟨b2, 0, none⟩)), (12, (.slice Z2 m3.length cz2)), (13, (.slice Z3 m4.length cz3)), (14, .pointer (some ⟨b4, 0, none⟩)), (79, .int .i64 (l0.length : Int)), (80, .int .i64 (s.1 : Int))]
abbrev punctualref_PlayAnew.B3 (K : Nat) (w0 : World) (l0 : List SJob) (A0 : Option Addr) (c0 : Nat) (x1 : Int) (l2 : List Int) (A2 : Option Addr) (c2 : Nat) (x3 : Int) (hR0 : RdL w0 A0 l0) (hL0 : l0.length ≤ c0) (hR2 : RdL w0 A2 l2) (hL2 : l2.length ≤ c2) (b1 : Nat) (b2 : Nat) (r1 : SFault) (b3 : Nat) (hc1 : r1.Code = 0) (hc6 : ¬ ((l2.length : Int) > 4000)) (m3 : List Int) (m4 : List Int) (hc12 : l0.length ≤ 17592186044416) (Z1 : Option Addr) (cz1 : Nat) (b4 : Nat) (Z2 : Option Addr) (cz2 : Nat) (Z3 : Option Addr) (cz3 : Nat) : ((List Int) ⊕ (SPlayed × SFault)) → Exit → Act → World → Prop := Exits 2 (fun (s : (List Int)) a w => St w0 w [Own.blk b4 (.cells #[.slice none 0 0, (.slice Z1 s.length cz1)] 36 (0, 0)), Own.blk b2 (.cells #[.int .i64 0, .int .i64 0] 39 (0, 0)), Own.blk b1 (.cells #[.slice none 0 0, .slice none 0 0] 36 (0, 0)), Own.of (.slice Z2 m3.length cz2) 3 m3, Own.of (.slice Z3 m4.length cz3) 3 m4, Own.of (.slice Z1 s.length cz1) 3 s] ∧ Frm 197 a [(0, .slice A0 l0.length c0), (1, .int .i64 x1), (2, .slice A2 l2.length c2), (3, .int .i64 x3), (8, .pointer (some ⟨b1, 0, none⟩)), (9, .pointer (some ⟨b2, 0, none⟩)), (12, (.slice Z2 m3.length cz2)), (13, (.slice Z3 m4.length cz3)), (14, .pointer (some ⟨b4, 0, none⟩))]) (Rets Tryd.prog Tryd.f68 (punctualref_PlayAnew.Post w0))
theorem punctualref_PlayAnew_r3 (K : Nat) (w0 : World) (l0 : List SJob) (A0 : Option Addr) (c0 : Nat) (x1 : Int) (l2 : List Int) (A2 : Option Addr) (c2 : Nat) (x3 : Int) (hR0 : RdL w0 A0 l0) (hL0 : l0.length ≤ c0) (hR2 : RdL w0 A2 l2) (hL2 : l2.length ≤ c2) (b1 : Nat) (b2 : Nat) (r1 : SFault) (b3 : Nat) (hc1 : r1.Code = 0) (hc6 : ¬ ((l2.length : Int) > 4000)) (m3 : List Int) (m4 : List Int) (hc12 : l0.length ≤ 17592186044416) (Z1 : Option Addr) (cz1 : Nat) (b4 : Nat) (Z2 : Option Addr) (cz2 : Nat) (Z3 : Option Addr) (cz3 : Nat) (s : Nat × (List Int)) (o : (Nat × (List Int)) ⊕ ((List Int) ⊕ (SPlayed × SFault))) (h : punctualref_PlayAnew.r3 l0 s = some o) (a : Act) (w : World) (hA : punctualref_PlayAnew.A3 K w0 l0 A0 c0 x1 l2 A2 c2 x3 hR0 hL0 hR2 hL2 b1 b2 r1 b3 hc1 hc6 m3 m4 hc12 Z1 cz1 b4 Z2 cz2 Z3 cz3 s a w) (Q : Exit → Act → World → Prop) (hQ : ∀ x a w, Outs (punctualref_PlayAnew.A3 K w0 l0 A0 c0 x1 l2 A2 c2 x3 hR0 hL0 hR2 hL2 b1 b2 r1 b3 hc1 hc6 m3 m4 hc12 Z1 cz1 b4 Z2 cz2 Z3 cz3) (punctualref_PlayAnew.B3 K w0 l0 A0 c0 x1 l2 A2 c2 x3 hR0 hL0 hR2 hL2 b1 b2 r1 b3 hc1 hc6 m3 m4 hc12 Z1 cz1 b4 Z2 cz2 Z3 cz3) o x a w → Q x a w) : (subF Tryd.f68 [1, 1, 1, 1, 1, 1, 1, 0, 1, 0, 0]).wp Tryd.prog Q a w := by
  obtain ⟨i1, m5⟩ := s
  obtain ⟨hS, hF⟩ := hA
  replace hS : St w0 w [Own.blk b4 (.cells #[.slice none 0 0, (.slice Z1 m5.length cz1)] 36 (0, 0)), Own.blk b2 (.cells #[.int .i64 0, .int .i64 0] 39 (0, 0)), Own.blk b1 (.cells #[.slice none 0 0, .slice none 0 0] 36 (0, 0)), Own.of (.slice Z2 m3.length cz2) 3 m3, Own.of (.slice Z3 m4.length cz3) 3 m4, Own.of (.slice Z1 m5.length cz1) 3 m5] := hS
  simp only [punctualref_PlayAnew.r3] at h
  refine (?_ : WE Tryd.prog 197 (subF Tryd.f68 [1, 1, 1, 1, 1, 1, 1, 0, 1, 0, 0]) Q [(0, .slice A0 l0.length c0), (1, .int .i64 x1), (2, .slice A2 l2.length c2), (3, .int .i64 x3), (8, .pointer (some ⟨b1, 0, none⟩)), (9, .pointer (some ⟨b2, 0, none⟩)), (12, (.slice Z2 m3.length cz2)), (13, (.slice Z3 m4.length cz3)), (14, .pointer (some ⟨b4, 0, none⟩)), (79, .int .i64 (l0.length : Int)), (80, .int .i64 (i1 : Int))] w) a hF
  clear hF a
  refine we_seq fun K25 hK25 => ?_
  refine we_region [(0, 0)] rfl ?_
  refine ge_batch [0] (ans := []) (vs := [(81, .bool (decide ((i1 : Int) < (l0.length : Int))))]) (l := []) (by kernel_rfl) trivial ?_
  refine ge_nil fun a hF => hK25 _ _ ?_ a hF
  refine we_seq fun K26 hK26 => ?_
  by_cases hc13 : (i1 : Int) < (l0.length : Int)
  · rw [if_pos hc13] at h
    refine we_known (t := 81) (b := decide ((i1 : Int) < (l0.length : Int))) (v := true) (by kernel_rfl) (decide_eq_true hc13) ?_
    refine we_true (by kernel_rfl) ?_
    refine we_skip fun a hF => hK26 _ _ ?_ a hF
    refine we_seq fun K27 hK27 => ?_
    refine we_block ?_
    refine we_seq fun K28 hK28 => ?_
    refine we_region [(0, 0), (1, 0)] rfl ?_
    refine ge_batch [0, 1] (ans := []) (vs := [(15, .int .i64 (i1 : Int)), (82, .int .i64 (i1 : Int))]) (l := []) (by kernel_rfl) trivial ?_
    refine ge_nil fun a hF => hK28 _ _ ?_ a hF
    refine we_region [(0, 0), (1, 0), (2, 0), (3, 0), (4, 2)] rfl ?_
    refine ge_batch [0, 1, 2] (ans := [.val ((.slice Z1 m5.length cz1))]) (vs := [(85, .int .i64 (i1 : Int)), (84, (.slice Z1 m5.length cz1)), (83, .pointer (some ⟨b4, 1, none⟩))]) (l := [.loaded ⟨b4, 1, none⟩ ((.slice Z1 m5.length cz1))]) (by kernel_rfl) ⟨hS.cell 0 rfl rfl, trivial⟩ ?_
    rcases hx7 : m5[i1]? with _ | e3
    · rw [hx7] at h; cases h
    rw [hx7] at h
    simp only [] at h
    refine ge_index (d := 86) (ty := 0) (t := 24) (el := 3) (sz := 1) (m := m5.length) (c := cz1) (x := (.tmp 84)) (y := (.tmp 85)) (A := Z1) (k' := .i64) (j := (i1 : Int)) (jn := i1) (b0 := blkOf Z1) (o0 := offOf Z1) (by kernel_rfl) (by kernel_rfl) (by kernel_rfl) (by kernel_rfl) (by kernel_rfl) ((hS.rdAt 5 rfl).eqSome (pos_of_get hx7)) rfl (lt_of_get hx7) ?_
    have hS116 := hS.bring 5 rfl
    refine ge_seti (α := Int) (A := Z1) (nn := m5.length) (c := cz1) (t := 3) (l := m5) (x := e3) (x' := (-1)) (jn := i1) (j := 0) (vs := [.int .i64 (-1)]) (l' := [.stored ⟨blkOf Z1, offOf Z1 + i1 * 1, none⟩ (.int .i64 (-1))]) hS116 (by kernel_rfl) (by kernel_rfl) hx7 rfl rfl rfl fun w32 hS117 => ?_
    have hS118 : St w0 w32 [Own.of (.slice Z1 m5.length cz1) 3 (m5.set i1 (-1)), Own.blk b4 (.cells #[.slice none 0 0, (.slice Z1 m5.length cz1)] 36 (0, 0)), Own.blk b2 (.cells #[.int .i64 0, .int .i64 0] 39 (0, 0)), Own.blk b1 (.cells #[.slice none 0 0, .slice none 0 0] 36 (0, 0)), Own.of (.slice Z2 m3.length cz2) 3 m3, Own.of (.slice Z3 m4.length cz3) 3 m4] := hS117
    have hE1 : m5.length = (m5.set i1 (-1)).length := hS118.lenAt 0 rfl
    have hS119 : St w0 w32 [Own.of (.slice Z1 (m5.set i1 (-1)).length cz1) 3 (m5.set i1 (-1)), Own.blk b4 (.cells #[.slice none 0 0, (.slice Z1 (m5.set i1 (-1)).length cz1)] 36 (0, 0)), Own.blk b2 (.cells #[.int .i64 0, .int .i64 0] 39 (0, 0)), Own.blk b1 (.cells #[.slice none 0 0, .slice none 0 0] 36 (0, 0)), Own.of (.slice Z2 m3.length cz2) 3 m3, Own.of (.slice Z3 m4.length cz3) 3 m4] := by rw [← hE1]; exact hS118
    refine ge_same (t := 84) (v := (.slice Z1 m5.length cz1)) (v' := (.slice Z1 (m5.set i1 (-1)).length cz1)) (by kernel_rfl) (by rw [hE1]) ?_
    refine ge_nil fun a hF => hK27 _ _ ?_ a hF
    refine we_region [(0, 0), (1, 0)] rfl ?_
    refine ge_addn (d := 87) (ty := 3) (x := (.tmp 80)) (y := (.const (.int .i64 1))) (t := 3) (t2 := 3) (k := .i64) (m := i1) (by kernel_rfl) (by kernel_rfl) (by kernel_rfl) (by have h0 := hR0.small; omega) ?_
    refine ge_batch [1] (ans := []) (vs := [(80, .int .i64 ((i1 + 1 : Nat) : Int))]) (l := []) (by kernel_rfl) trivial ?_
    have hS120 := hS119.bring 5 rfl
    have hS121 := hS120.bring 5 rfl
    have hS122 := hS121.bring 5 rfl
    have hS123 := hS122.bring 5 rfl
    have hS124 := hS123.bring 5 rfl
    obtain rfl := Option.some.inj h
    exact ge_nil fun a hF => hQ _ _ _ (Outs.again ⟨hS124, hF.weaken ⟨by kernel_rfl, by kernel_rfl, by kernel_rfl, by kernel_rfl, by kernel_rfl, by kernel_rfl, by kernel_rfl, by kernel_rfl, by kernel_rfl, by kernel_rfl, by kernel_rfl, trivial⟩⟩)
  · rw [if_neg hc13] at h
    refine we_known (t := 81) (b := decide ((i1 : Int) < (l0.length : Int))) (v := false) (by kernel_rfl) (decide_eq_false hc13) ?_
    refine we_false (by kernel_rfl) ?_
    have hS125 := hS.bring 5 rfl
    have hS126 := hS125.bring 5 rfl
    have hS127 := hS126.bring 5 rfl
    have hS128 := hS127.bring 5 rfl
    have hS129 := hS128.bring 5 rfl
    have hS130 := hS129.bring 5 rfl
    obtain rfl := Option.some.inj h
    exact we_exit fun a hF => hQ _ _ _ (Outs.out nofun (Exits.here ⟨hS130, hF.weaken ⟨by kernel_rfl, by kernel_rfl, by kernel_rfl, by kernel_rfl, by kernel_rfl, by kernel_rfl, by kernel_rfl, by kernel_rfl, by kernel_rfl, trivial⟩⟩))
abbrev punctualref_PlayAnew.A5 (K : Nat) (w0 : World) (l0 : List SJob) (A0 : Option Addr) (c0 : Nat) (x1 : Int) (l2 : List Int) (A2 : Option Addr) (c2 : Nat) (x3 : Int) (hR0 : RdL w0 A0 l0) (hL0 : l0.length ≤ c0) (hR2 : RdL w0 A2 l2) (hL2 : l2.length ≤ c2) (b1 : Nat) (b2 : Nat) (r1 : SFault) (b3 : Nat) (hc1 : r1.Code = 0) (hc6 : ¬ ((l2.length : Int) > 4000)) (m3 : List Int) (m4 : List Int) (hc12 : l0.length ≤ 17592186044416) (Z1 : Option Addr) (cz1 : Nat) (b4 : Nat) (Z2 : Option Addr) (cz2 : Nat) (Z3 : Option Addr) (cz3 : Nat) (m7 : List Int) (z2 : Int) (m8 : List Int) (m9 : List Int) (m10 : List Int) (m11 : List Int) (hc14 : z2 < x3) (Z4 : Option Addr) (cz4 : Nat) : (Int × Nat) → Act → World → Prop := fun (s : Int × Nat) a w => St w0 w [Own.blk b4 (.cells #[(.slice Z4 m10.length cz4), (.slice Z1 m11.length cz1)] 36 (0, 0)), Own.blk b2 (.cells #[.int .i64 0, .int .i64 0] 39 (0, 0)), Own.blk b1 (.cells #[.slice none 0 0, .slice none 0 0] 36 (0, 0)), Own.of (.slice Z2 m8.length cz2) 3 m8, Own.of (.slice Z3 m9.length cz3) 3 m9, Own.of (.slice Z4 m10.length cz4) 3 m10, Own.of (.slice Z1 m11.length cz1) 3 m11] ∧ Frm 197 a [(0, .slice A0 l0.length c0), (1, .int .i64 x1), (2, .slice A2 l2.length c2), (3, .int .i64 x3), (8, .pointer (some ⟨b1, 0, none⟩)), (9, .pointer (some ⟨b2, 0, none⟩)), (12, (.slice Z2 m8.length cz2)), (13, (.slice Z3 m9.length cz3)), (14, .pointer (some ⟨b4, 0, none⟩)), (16, .int .i64 z2), (17, .int .i64 s.1), (93, .slice A0 l0.length c0), (94, .int .i64 (l0.length : Int)), (95, .int .i64 (s.2 : Int))]
abbrev punctualref_PlayAnew.B5 (K : Nat) (w0 : World) (l0 : List SJob) (A0 : Option Addr) (c0 : Nat) (x1 : Int) (l2 : List Int) (A2 : Option Addr) (c2 : Nat) (x3 : Int) (hR0 : RdL w0 A0 l0) (hL0 : l0.length ≤ c0) (hR2 : RdL w0 A2 l2) (hL2 : l2.length ≤ c2) (b1 : Nat) (b2 : Nat) (r1 : SFault) (b3 : Nat) (hc1 : r1.Code = 0) (hc6 : ¬ ((l2.length : Int) > 4000)) (m3 : List Int) (m4 : List Int) (hc12 : l0.length ≤ 17592186044416) (Z1 : Option Addr) (cz1 : Nat) (b4 : Nat) (Z2 : Option Addr) (cz2 : Nat) (Z3 : Option Addr) (cz3 : Nat) (m7 : List Int) (z2 : Int) (m8 : List Int) (m9 : List Int) (m10 : List Int) (m11 : List Int) (hc14 : z2 < x3) (Z4 : Option Addr) (cz4 : Nat) : (Int ⊕ (SPlayed × SFault)) → Exit → Act → World → Prop := Exits 6 (fun (s : Int) a w => St w0 w [Own.blk b4 (.cells #[(.slice Z4 m10.length cz4), (.slice Z1 m11.length cz1)] 36 (0, 0)), Own.blk b2 (.cells #[.int .i64 0, .int .i64 0] 39 (0, 0)), Own.blk b1 (.cells #[.slice none 0 0, .slice none 0 0] 36 (0, 0)), Own.of (.slice Z2 m8.length cz2) 3 m8, Own.of (.slice Z3 m9.length cz3) 3 m9, Own.of (.slice Z4 m10.length cz4) 3 m10, Own.of (.slice Z1 m11.length cz1) 3 m11] ∧ Frm 197 a [(0, .slice A0 l0.length c0), (1, .int .i64 x1), (2, .slice A2 l2.length c2), (3, .int .i64 x3), (8, .pointer (some ⟨b1, 0, none⟩)), (9, .pointer (some ⟨b2, 0, none⟩)), (12, (.slice Z2 m8.length cz2)), (13, (.slice Z3 m9.length cz3)), (14, .pointer (some ⟨b4, 0, none⟩)), (16, .int .i64 z2), (17, .int .i64 s)]) (Rets Tryd.prog Tryd.f68 (punctualref_PlayAnew.Post w0))
theorem punctualref_PlayAnew_r5 (K : Nat) (w0 : World) (l0 : List SJob) (A0 : Option Addr) (c0 : Nat) (x1 : Int) (l2 : List Int) (A2 : Option Addr) (c2 : Nat) (x3 : Int) (hR0 : RdL w0 A0 l0) (hL0 : l0.length ≤ c0) (hR2 : RdL w0 A2 l2) (hL2 : l2.length ≤ c2) (b1 : Nat) (b2 : Nat) (r1 : SFault) (b3 : Nat) (hc1 : r1.Code = 0) (hc6 : ¬ ((l2.length : Int) > 4000)) (m3 : List Int) (m4 : List Int) (hc12 : l0.length ≤ 17592186044416) (Z1 : Option Addr) (cz1 : Nat) (b4 : Nat) (Z2 : Option Addr) (cz2 : Nat) (Z3 : Option Addr) (cz3 : Nat) (m7 : List Int) (z2 : Int) (m8 : List Int) (m9 : List Int) (m10 : List Int) (m11 : List Int) (hc14 : z2 < x3) (Z4 : Option Addr) (cz4 : Nat) (s : Int × Nat) (o : (Int × Nat) ⊕ (Int ⊕ (SPlayed × SFault))) (h : punctualref_PlayAnew.r5 l0 z2 m11 s = some o) (a : Act) (w : World) (hA : punctualref_PlayAnew.A5 K w0 l0 A0 c0 x1 l2 A2 c2 x3 hR0 hL0 hR2 hL2 b1 b2 r1 b3 hc1 hc6 m3 m4 hc12 Z1 cz1 b4 Z2 cz2 Z3 cz3 m7 z2 m8 m9 m10 m11 hc14 Z4 cz4 s a w) (Q : Exit → Act → World → Prop) (hQ : ∀ x a w, Outs (punctualref_PlayAnew.A5 K w0 l0 A0 c0 x1 l2 A2 c2 x3 hR0 hL0 hR2 hL2 b1 b2 r1 b3 hc1 hc6 m3 m4 hc12 Z1 cz1 b4 Z2 cz2 Z3 cz3 m7 z2 m8 m9 m10 m11 hc14 Z4 cz4) (punctualref_PlayAnew.B5 K w0 l0 A0 c0 x1 l2 A2 c2 x3 hR0 hL0 hR2 hL2 b1 b2 r1 b3 hc1 hc6 m3 m4 hc12 Z1 cz1 b4 Z2 cz2 Z3 cz3 m7 z2 m8 m9 m10 m11 hc14 Z4 cz4) o x a w → Q x a w) : (subF Tryd.f68 [1, 1, 1, 1, 1, 1, 1, 1, 0, 1, 0, 0, 1, 0, 0, 1, 0, 1, 0, 0]).wp Tryd.prog Q a w := by
  obtain ⟨z3, i2⟩ := s
  obtain ⟨hS, hF⟩ := hA
  replace hS : St w0 w [Own.blk b4 (.cells #[(.slice Z4 m10.length cz4), (.slice Z1 m11.length cz1)] 36 (0, 0)), Own.blk b2 (.cells #[.int .i64 0, .int .i64 0] 39 (0, 0)), Own.blk b1 (.cells #[.slice none 0 0, .slice none 0 0] 36 (0, 0)), Own.of (.slice Z2 m8.length cz2) 3 m8, Own.of (.slice Z3 m9.length cz3) 3 m9, Own.of (.slice Z4 m10.length cz4) 3 m10, Own.of (.slice Z1 m11.length cz1) 3 m11] := hS
  simp only [punctualref_PlayAnew.r5] at h
  refine (?_ : WE Tryd.prog 197 (subF Tryd.f68 [1, 1, 1, 1, 1, 1, 1, 1, 0, 1, 0, 0, 1, 0, 0, 1, 0, 1, 0, 0]) Q [(0, .slice A0 l0.length c0), (1, .int .i64 x1), (2, .slice A2 l2.length c2), (3, .int .i64 x3), (8, .pointer (some ⟨b1, 0, none⟩)), (9, .pointer (some ⟨b2, 0, none⟩)), (12, (.slice Z2 m8.length cz2)), (13, (.slice Z3 m9.length cz3)), (14, .pointer (some ⟨b4, 0, none⟩)), (16, .int .i64 z2), (17, .int .i64 z3), (93, .slice A0 l0.length c0), (94, .int .i64 (l0.length : Int)), (95, .int .i64 (i2 : Int))] w) a hF
  clear hF a
  refine we_seq fun K37 hK37 => ?_
  refine we_region [(0, 0)] rfl ?_
  refine ge_batch [0] (ans := []) (vs := [(96, .bool (decide ((i2 : Int) < (l0.length : Int))))]) (l := []) (by kernel_rfl) trivial ?_
  refine ge_nil fun a hF => hK37 _ _ ?_ a hF
  refine we_seq fun K38 hK38 => ?_
  by_cases hc15 : (i2 : Int) < (l0.length : Int)
  · rw [if_pos hc15] at h
    refine we_known (t := 96) (b := decide ((i2 : Int) < (l0.length : Int))) (v := true) (by kernel_rfl) (decide_eq_true hc15) ?_
    refine we_true (by kernel_rfl) ?_
    refine we_skip fun a hF => hK38 _ _ ?_ a hF
    refine we_seq fun K39 hK39 => ?_
    refine we_block ?_
    refine we_seq fun K40 hK40 => ?_
    refine we_region [(0, 0), (1, 0), (2, 0), (3, 1), (4, 0), (5, 2)] rfl ?_
    refine ge_batch [0] (ans := []) (vs := [(97, .int .i64 (i2 : Int))]) (l := []) (by kernel_rfl) trivial ?_
    rcases hx8 : l0[i2]? with _ | e4
    · rw [hx8] at h; cases h
    rw [hx8] at h
    simp only [] at h
    refine ge_index (d := 98) (ty := 0) (t := 49) (el := 58) (sz := 5) (m := l0.length) (c := c0) (x := (.tmp 93)) (y := (.tmp 95)) (A := A0) (k' := .i64) (j := (i2 : Int)) (jn := i2) (b0 := blkOf A0) (o0 := offOf A0) (by kernel_rfl) (by kernel_rfl) (by kernel_rfl) (by kernel_rfl) (by kernel_rfl) ((hS.rd hR0).eqSome (pos_of_get hx8)) rfl (lt_of_get hx8) ?_
    refine ge_batch [2] (ans := [.val (.int .i64 e4.Task), .val (.int .i64 e4.At), .val (.int .i64 e4.C), .val (.int .i64 e4.Due), .val (.int .i64 e4.P)]) (vs := [(99, .agg #[.int .i64 e4.Task, .int .i64 e4.At, .int .i64 e4.C, .int .i64 e4.Due, .int .i64 e4.P])]) (l := [.loaded ⟨blkOf A0, offOf A0 + i2 * 5, none⟩ (.int .i64 e4.Task), .loaded ⟨blkOf A0, offOf A0 + i2 * 5 + 1, none⟩ (.int .i64 e4.At), .loaded ⟨blkOf A0, offOf A0 + i2 * 5 + 2, none⟩ (.int .i64 e4.C), .loaded ⟨blkOf A0, offOf A0 + i2 * 5 + 3, none⟩ (.int .i64 e4.Due), .loaded ⟨blkOf A0, offOf A0 + i2 * 5 + 4, none⟩ (.int .i64 e4.P)]) (by kernel_rfl) ⟨RdL.cell (j := 0) (hS.rd hR0) hx8 rfl, RdL.cell (j := 1) (hS.rd hR0) hx8 rfl, RdL.cell (j := 2) (hS.rd hR0) hx8 rfl, RdL.cell (j := 3) (hS.rd hR0) hx8 rfl, RdL.cell (j := 4) (hS.rd hR0) hx8 rfl, trivial⟩ ?_
    refine ge_new (d := some 19) (o := .cells #[.int .i64 0, .int .i64 0, .int .i64 0, .int .i64 0, .int .i64 0] 58) (v := fun b => .pointer (some ⟨b, 0, none⟩)) hS (fun b => by kernel_rfl) fun b5 w34 hx9 hS147 => ?_
    refine ge_batch [4] (ans := []) (vs := [(18, .int .i64 (i2 : Int))]) (l := []) (by kernel_rfl) trivial ?_
    refine ge_set (b := b5) (j := 0) (cs := #[.int .i64 0, .int .i64 0, .int .i64 0, .int .i64 0, .int .i64 0]) (t := 58) (vs := [.int .i64 e4.Task, .int .i64 e4.At, .int .i64 e4.C, .int .i64 e4.Due, .int .i64 e4.P]) hS147 (by kernel_rfl) rfl rfl fun w35 hS148 => ?_
    have hS149 : St w0 w35 [Own.blk b5 (.cells #[.int .i64 e4.Task, .int .i64 e4.At, .int .i64 e4.C, .int .i64 e4.Due, .int .i64 e4.P] 58 (0, 0)), Own.blk b4 (.cells #[(.slice Z4 m10.length cz4), (.slice Z1 m11.length cz1)] 36 (0, 0)), Own.blk b2 (.cells #[.int .i64 0, .int .i64 0] 39 (0, 0)), Own.blk b1 (.cells #[.slice none 0 0, .slice none 0 0] 36 (0, 0)), Own.of (.slice Z2 m8.length cz2) 3 m8, Own.of (.slice Z3 m9.length cz3) 3 m9, Own.of (.slice Z4 m10.length cz4) 3 m10, Own.of (.slice Z1 m11.length cz1) 3 m11] := hS148
    refine ge_nil fun a hF => hK40 _ _ ?_ a hF
    refine we_seq fun K41 hK41 => ?_
    refine we_region [(0, 0), (1, 0), (2, 0), (3, 0), (4, 0), (5, 0), (6, 0), (7, 0), (8, 0), (9, 0), (10, 0), (11, 0), (12, 0), (13, 0), (14, 0), (15, 0), (16, 0), (17, 0), (18, 0), (19, 1), (20, 0), (21, 0)] rfl ?_
    refine ge_batch [0, 1, 2, 3, 4] (ans := [.val (.int .i64 e4.At)]) (vs := [(104, .bool (decide (e4.At ≤ z2))), (103, .bool (decide (e4.At ≤ z2))), (102, .int .i64 z2), (101, .int .i64 e4.At), (100, .pointer (some ⟨b5, 1, none⟩))]) (l := [.loaded ⟨b5, 1, none⟩ (.int .i64 e4.At)]) (by kernel_rfl) ⟨hS149.cell 0 rfl rfl, trivial⟩ ?_
    by_cases hc16 : e4.At ≤ z2
    · rw [if_pos hc16] at h
      refine ge_known (t := 104) (b := decide (e4.At ≤ z2)) (c := true) (by kernel_rfl) (decide_eq_true hc16) ?_
      refine ge_batch [5, 6, 7] (ans := [.val ((.slice Z1 m11.length cz1))]) (vs := [(107, .int .i64 (i2 : Int)), (106, (.slice Z1 m11.length cz1)), (105, .pointer (some ⟨b4, 1, none⟩))]) (l := [.loaded ⟨b4, 1, none⟩ ((.slice Z1 m11.length cz1))]) (by kernel_rfl) ⟨hS149.cell 1 rfl rfl, trivial⟩ ?_
      rcases hx10 : m11[i2]? with _ | e5
      · rw [hx10] at h; cases h
      rw [hx10] at h
      simp only [] at h
      refine ge_index (d := 108) (ty := 0) (t := 24) (el := 3) (sz := 1) (m := m11.length) (c := cz1) (x := (.tmp 106)) (y := (.tmp 107)) (A := Z1) (k' := .i64) (j := (i2 : Int)) (jn := i2) (b0 := blkOf Z1) (o0 := offOf Z1) (by kernel_rfl) (by kernel_rfl) (by kernel_rfl) (by kernel_rfl) (by kernel_rfl) ((hS149.rdAt 7 rfl).eqSome (pos_of_get hx10)) rfl (lt_of_get hx10) ?_
      refine ge_batch [9, 10, 11, 12] (ans := [.val (.int .i64 e5)]) (vs := [(112, .bool (decide (e5 < 0))), (111, .bool (decide (e5 < 0))), (110, .bool (decide (e5 < 0))), (109, .int .i64 e5)]) (l := [.loaded ⟨blkOf Z1, offOf Z1 + i2 * 1, none⟩ (.int .i64 e5)]) (by kernel_rfl) ⟨RdL.cell (j := 0) (hS149.rdAt 7 rfl) hx10 rfl, trivial⟩ ?_
      by_cases hc17 : e5 < 0
      · rw [if_pos hc17] at h
        refine ge_known (t := 112) (b := decide (e5 < 0)) (c := true) (by kernel_rfl) (decide_eq_true hc17) ?_
        refine ge_batch [13, 14, 15] (ans := []) (vs := [(115, .bool (decide (z3 < 0))), (114, .bool (decide (z3 < 0))), (113, .int .i64 z3)]) (l := []) (by kernel_rfl) trivial ?_
        by_cases hc18 : z3 < 0
        · rw [if_pos hc18] at h
          refine ge_known (t := 115) (b := decide (z3 < 0)) (c := true) (by kernel_rfl) (decide_eq_true hc18) ?_
          refine ge_batch [16, 17, 18] (ans := []) (vs := [(118, undef), (117, undef), (116, undef)]) (l := []) (by kernel_rfl) trivial ?_
          refine ge_off rfl rfl rfl (by kernel_rfl) ?_
          refine ge_batch [20, 21] (ans := []) (vs := [(121, .bool true), (120, .bool true)]) (l := []) (by kernel_rfl) trivial ?_
          refine ge_nil fun a hF => hK41 _ _ ?_ a hF
          refine we_true (by kernel_rfl) ?_
          refine we_region [(0, 0), (1, 0)] rfl ?_
          refine ge_batch [0, 1] (ans := []) (vs := [(17, .int .i64 (i2 : Int)), (122, .int .i64 (i2 : Int))]) (l := []) (by kernel_rfl) trivial ?_
          refine ge_nil fun a hF => hK39 _ _ ?_ a hF
          refine we_region [(0, 0), (1, 0)] rfl ?_
          refine ge_addn (d := 123) (ty := 3) (x := (.tmp 95)) (y := (.const (.int .i64 1))) (t := 3) (t2 := 3) (k := .i64) (m := i2) (by kernel_rfl) (by kernel_rfl) (by kernel_rfl) (by have h0 := hR0.small; omega) ?_
          refine ge_batch [1] (ans := []) (vs := [(95, .int .i64 ((i2 + 1 : Nat) : Int))]) (l := []) (by kernel_rfl) trivial ?_
          have hS150 := hS149.bring 7 rfl
          have hS151 := hS150.bring 7 rfl
          have hS152 := hS151.bring 7 rfl
          have hS153 := hS152.bring 7 rfl
          have hS154 := hS153.bring 7 rfl
          have hS155 := hS154.bring 7 rfl
          have hS156 := hS155.bring 7 rfl
          have hS157 := hS156.takeN 7
          obtain rfl := Option.some.inj h
          exact ge_nil fun a hF => hQ _ _ _ (Outs.again ⟨hS157, hF.weaken ⟨by kernel_rfl, by kernel_rfl, by kernel_rfl, by kernel_rfl, by kernel_rfl, by kernel_rfl, by kernel_rfl, by kernel_rfl, by kernel_rfl, by kernel_rfl, by kernel_rfl, by kernel_rfl, by kernel_rfl, by kernel_rfl, trivial⟩⟩)
        · rw [if_neg hc18] at h
          refine ge_known (t := 115) (b := decide (z3 < 0)) (c := false) (by kernel_rfl) (decide_eq_false hc18) ?_
          rcases hq12 : punctualref_Goes.f l0 (i2 : Int) z3 1 with _ | r2
          · rw [hq12] at h; cases h
          rw [hq12] at h
          simp only [] at h
          refine ge_batch [16, 17, 18] (ans := []) (vs := [(118, .int .i64 z3), (117, .int .i64 (i2 : Int)), (116, .slice A0 l0.length c0)]) (l := []) (by kernel_rfl) trivial ?_
          refine ge_call (d := some 119) (f := 127) (args := #[.slice A0 l0.length c0, .int .i64 (i2 : Int), .int .i64 z3, .int .i64 1]) (by kernel_rfl) (punctualref_Goes_ok l0 A0 c0 (i2 : Int) z3 1 _ (hS149.rd hR0) hL0 _ hq12) ?_
          rintro _ w36 ⟨rfl, hS158⟩
          refine ⟨_, rfl, hS158.below, ?_⟩
          have hS159 := hS149.call hS158
          refine ge_batch [20, 21] (ans := []) (vs := [(121, .bool r2), (120, .bool r2)]) (l := []) (by kernel_rfl) trivial ?_
          refine ge_nil fun a hF => hK41 _ _ ?_ a hF
          by_cases hc19 : r2 = true
          · rw [if_pos hc19] at h
            refine we_known (t := 121) (b := r2) (v := true) (by kernel_rfl) hc19 ?_
            refine we_true (by kernel_rfl) ?_
            refine we_region [(0, 0), (1, 0)] rfl ?_
            refine ge_batch [0, 1] (ans := []) (vs := [(17, .int .i64 (i2 : Int)), (122, .int .i64 (i2 : Int))]) (l := []) (by kernel_rfl) trivial ?_
            refine ge_nil fun a hF => hK39 _ _ ?_ a hF
            refine we_region [(0, 0), (1, 0)] rfl ?_
            refine ge_addn (d := 123) (ty := 3) (x := (.tmp 95)) (y := (.const (.int .i64 1))) (t := 3) (t2 := 3) (k := .i64) (m := i2) (by kernel_rfl) (by kernel_rfl) (by kernel_rfl) (by have h0 := hR0.small; omega) ?_
            refine ge_batch [1] (ans := []) (vs := [(95, .int .i64 ((i2 + 1 : Nat) : Int))]) (l := []) (by kernel_rfl) trivial ?_
            have hS160 := hS159.bring 7 rfl
            have hS161 := hS160.bring 7 rfl
            have hS162 := hS161.bring 7 rfl
            have hS163 := hS162.bring 7 rfl
            have hS164 := hS163.bring 7 rfl
            have hS165 := hS164.bring 7 rfl
            have hS166 := hS165.bring 7 rfl
            have hS167 := hS166.takeN 7
            obtain rfl := Option.some.inj h
            exact ge_nil fun a hF => hQ _ _ _ (Outs.again ⟨hS167, hF.weaken ⟨by kernel_rfl, by kernel_rfl, by kernel_rfl, by kernel_rfl, by kernel_rfl, by kernel_rfl, by kernel_rfl, by kernel_rfl, by kernel_rfl, by kernel_rfl, by kernel_rfl, by kernel_rfl, by kernel_rfl, by kernel_rfl, trivial⟩⟩)
          · rw [if_neg hc19] at h
            refine we_known (t := 121) (b := r2) (v := false) (by kernel_rfl) (Bool.eq_false_iff.2 hc19) ?_
            refine we_false (by kernel_rfl) ?_
            refine we_skip fun a hF => hK39 _ _ ?_ a hF
            refine we_region [(0, 0), (1, 0)] rfl ?_
            refine ge_addn (d := 123) (ty := 3) (x := (.tmp 95)) (y := (.const (.int .i64 1))) (t := 3) (t2 := 3) (k := .i64) (m := i2) (by kernel_rfl) (by kernel_rfl) (by kernel_rfl) (by have h0 := hR0.small; omega) ?_
            refine ge_batch [1] (ans := []) (vs := [(95, .int .i64 ((i2 + 1 : Nat) : Int))]) (l := []) (by kernel_rfl) trivial ?_
            have hS168 := hS159.bring 7 rfl
            have hS169 := hS168.bring 7 rfl
            have hS170 := hS169.bring 7 rfl
            have hS171 := hS170.bring 7 rfl
            have hS172 := hS171.bring 7 rfl
            have hS173 := hS172.bring 7 rfl
            have hS174 := hS173.bring 7 rfl
            have hS175 := hS174.takeN 7
            obtain rfl := Option.some.inj h
            exact ge_nil fun a hF => hQ _ _ _ (Outs.again ⟨hS175, hF.weaken ⟨by kernel_rfl, by kernel_rfl, by kernel_rfl, by kernel_rfl, by kernel_rfl, by kernel_rfl, by kernel_rfl, by kernel_rfl, by kernel_rfl, by kernel_rfl, by kernel_rfl, by kernel_rfl, by kernel_rfl, by kernel_rfl, trivial⟩⟩)
      · rw [if_neg hc17] at h
        refine ge_known (t := 112) (b := decide (e5 < 0)) (c := false) (by kernel_rfl) (decide_eq_false hc17) ?_
        refine ge_batch [13, 14, 15, 16, 17, 18] (ans := []) (vs := [(118, undef), (117, undef), (116, undef), (115, undef), (114, undef), (113, undef)]) (l := []) (by kernel_rfl) trivial ?_
        refine ge_off rfl rfl rfl (by kernel_rfl) ?_
        refine ge_batch [20, 21] (ans := []) (vs := [(121, .bool false), (120, undef)]) (l := []) (by kernel_rfl) trivial ?_
        refine ge_nil fun a hF => hK41 _ _ ?_ a hF
        refine we_false (by kernel_rfl) ?_
        refine we_skip fun a hF => hK39 _ _ ?_ a hF
        refine we_region [(0, 0), (1, 0)] rfl ?_
        refine ge_addn (d := 123) (ty := 3) (x := (.tmp 95)) (y := (.const (.int .i64 1))) (t := 3) (t2 := 3) (k := .i64) (m := i2) (by kernel_rfl) (by kernel_rfl) (by kernel_rfl) (by have h0 := hR0.small; omega) ?_
        refine ge_batch [1] (ans := []) (vs := [(95, .int .i64 ((i2 + 1 : Nat) : Int))]) (l := []) (by kernel_rfl) trivial ?_
        have hS176 := hS149.bring 7 rfl
        have hS177 := hS176.bring 7 rfl
        have hS178 := hS177.bring 7 rfl
        have hS179 := hS178.bring 7 rfl
        have hS180 := hS179.bring 7 rfl
        have hS181 := hS180.bring 7 rfl
        have hS182 := hS181.bring 7 rfl
        have hS183 := hS182.takeN 7
        obtain rfl := Option.some.inj h
        exact ge_nil fun a hF => hQ _ _ _ (Outs.again ⟨hS183, hF.weaken ⟨by kernel_rfl, by kernel_rfl, by kernel_rfl, by kernel_rfl, by kernel_rfl, by kernel_rfl, by kernel_rfl, by kernel_rfl, by kernel_rfl, by kernel_rfl, by kernel_rfl, by kernel_rfl, by kernel_rfl, by kernel_rfl, trivial⟩⟩)
    · rw [if_neg hc16] at h
      refine ge_known (t := 104) (b := decide (e4.At ≤ z2)) (c := false) (by kernel_rfl) (decide_eq_false hc16) ?_
      refine ge_batch [5, 6, 7, 8, 9, 10, 11, 12, 13, 14, 15, 16, 17, 18] (ans := []) (vs := [(118, undef), (117, undef), (116, undef), (115, undef), (114, undef), (113, undef), (112, .bool false), (111, .bool false), (110, undef), (109, undef), (108, undef), (107, undef), (106, undef), (105, undef)]) (l := []) (by kernel_rfl) trivial ?_
      refine ge_off rfl rfl rfl (by kernel_rfl) ?_
      refine ge_batch [20, 21] (ans := []) (vs := [(121, .bool false), (120, undef)]) (l := []) (by kernel_rfl) trivial ?_
      refine ge_nil fun a hF => hK41 _ _ ?_ a hF
      refine we_false (by kernel_rfl) ?_
      refine we_skip fun a hF => hK39 _ _ ?_ a hF
      refine we_region [(0, 0), (1, 0)] rfl ?_
      refine ge_addn (d := 123) (ty := 3) (x := (.tmp 95)) (y := (.const (.int .i64 1))) (t := 3) (t2 := 3) (k := .i64) (m := i2) (by kernel_rfl) (by kernel_rfl) (by kernel_rfl) (by have h0 := hR0.small; omega) ?_
      refine ge_batch [1] (ans := []) (vs := [(95, .int .i64 ((i2 + 1 : Nat) : Int))]) (l := []) (by kernel_rfl) trivial ?_
      have hS184 := hS149.bring 7 rfl
      have hS185 := hS184.bring 7 rfl
      have hS186 := hS185.bring 7 rfl
      have hS187 := hS186.bring 7 rfl
      have hS188 := hS187.bring 7 rfl
      have hS189 := hS188.bring 7 rfl
      have hS190 := hS189.bring 7 rfl
      have hS191 := hS190.takeN 7
      obtain rfl := Option.some.inj h
      exact ge_nil fun a hF => hQ _ _ _ (Outs.again ⟨hS191, hF.weaken ⟨by kernel_rfl, by kernel_rfl, by kernel_rfl, by kernel_rfl, by kernel_rfl, by kernel_rfl, by kernel_rfl, by kernel_rfl, by kernel_rfl, by kernel_rfl, by kernel_rfl, by kernel_rfl, by kernel_rfl, by kernel_rfl, trivial⟩⟩)
  · rw [if_neg hc15] at h
    refine we_known (t := 96) (b := decide ((i2 : Int) < (l0.length : Int))) (v := false) (by kernel_rfl) (decide_eq_false hc15) ?_
    refine we_false (by kernel_rfl) ?_
    have hS192 := hS.bring 6 rfl
    have hS193 := hS192.bring 6 rfl
    have hS194 := hS193.bring 6 rfl
    have hS195 := hS194.bring 6 rfl
    have hS196 := hS195.bring 6 rfl
    have hS197 := hS196.bring 6 rfl
    have hS198 := hS197.bring 6 rfl
    obtain rfl := Option.some.inj h
    exact we_exit fun a hF => hQ _ _ _ (Outs.out nofun (Exits.here ⟨hS198, hF.weaken ⟨by kernel_rfl, by kernel_rfl, by kernel_rfl, by kernel_rfl, by kernel_rfl, by kernel_rfl, by kernel_rfl, by kernel_rfl, by kernel_rfl, by kernel_rfl, by kernel_rfl, trivial⟩⟩))
abbrev punctualref_PlayAnew.A4 (K : Nat) (w0 : World) (l0 : List SJob) (A0 : Option Addr) (c0 : Nat) (x1 : Int) (l2 : List Int) (A2 : Option Addr) (c2 : Nat) (x3 : Int) (hR0 : RdL w0 A0 l0) (hL0 : l0.length ≤ c0) (hR2 : RdL w0 A2 l2) (hL2 : l2.length ≤ c2) (b1 : Nat) (b2 : Nat) (r1 : SFault) (b3 : Nat) (hc1 : r1.Code = 0) (hc6 : ¬ ((l2.length : Int) > 4000)) (m3 : List Int) (m4 : List Int) (hc12 : l0.length ≤ 17592186044416) (Z1 : Option Addr) (cz1 : Nat) (b4 : Nat) (Z2 : Option Addr) (cz2 : Nat) (Z3 : Option Addr) (cz3 : Nat) (m7 : List Int) : (Int × (List Int) × (List Int) × (List Int) × (List Int)) → Act → World → Prop := fun (s : Int × (List Int) × (List Int) × (List Int) × (List Int)) a w => ∃ (v8 : Value), St w0 w [Own.blk b4 (.cells #[v8, (.slice Z1 s.2.2.2.2.length cz1)] 36 (0, 0)), Own.blk b2 (.cells #[.int .i64 0, .int .i64 0] 39 (0, 0)), Own.blk b1 (.cells #[.slice none 0 0, .slice none 0 0] 36 (0, 0)), Own.of (.slice Z2 s.2.1.length cz2) 3 s.2.1, Own.of (.slice Z3 s.2.2.1.length cz3) 3 s.2.2.1, Own.of v8 3 s.2.2.2.1, Own.of (.slice Z1 s.2.2.2.2.length cz1) 3 s.2.2.2.2] ∧ Frm 197 a [(0, .slice A0 l0.length c0), (1, .int .i64 x1), (2, .slice A2 l2.length c2), (3, .int .i64 x3), (8, .pointer (some ⟨b1, 0, none⟩)), (9, .pointer (some ⟨b2, 0, none⟩)), (12, (.slice Z2 s.2.1.length cz2)), (13, (.slice Z3 s.2.2.1.length cz3)), (14, .pointer (some ⟨b4, 0, none⟩)), (16, .int .i64 s.1)]
abbrev punctualref_PlayAnew.B4 (K : Nat) (w0 : World) (l0 : List SJob) (A0 : Option Addr) (c0 : Nat) (x1 : Int) (l2 : List Int) (A2 : Option Addr) (c2 : Nat) (x3 : Int) (hR0 : RdL w0 A0 l0) (hL0 : l0.length ≤ c0) (hR2 : RdL w0 A2 l2) (hL2 : l2.length ≤ c2) (b1 : Nat) (b2 : Nat) (r1 : SFault) (b3 : Nat) (hc1 : r1.Code = 0) (hc6 : ¬ ((l2.length : Int) > 4000)) (m3 : List Int) (m4 : List Int) (hc12 : l0.length ≤ 17592186044416) (Z1 : Option Addr) (cz1 : Nat) (b4 : Nat) (Z2 : Option Addr) (cz2 : Nat) (Z3 : Option Addr) (cz3 : Nat) (m7 : List Int) : (((List Int) × (List Int)) ⊕ (SPlayed × SFault)) → Exit → Act → World → Prop := Exits 4 (fun (s : (List Int) × (List Int)) a w => ∃ (v9 : Value), St w0 w [Own.blk b4 (.cells #[v9, (.slice Z1 s.2.length cz1)] 36 (0, 0)), Own.blk b2 (.cells #[.int .i64 0, .int .i64 0] 39 (0, 0)), Own.blk b1 (.cells #[.slice none 0 0, .slice none 0 0] 36 (0, 0)), Own.of v9 3 s.1, Own.of (.slice Z1 s.2.length cz1) 3 s.2] ∧ Frm 197 a [(8, .pointer (some ⟨b1, 0, none⟩)), (9, .pointer (some ⟨b2, 0, none⟩)), (14, .pointer (some ⟨b4, 0, none⟩))]) (Rets Tryd.prog Tryd.f68 (punctualref_PlayAnew.Post w0))
theorem punctualref_PlayAnew_r4 (K : Nat) (w0 : World) (l0 : List SJob) (A0 : Option Addr) (c0 : Nat) (x1 : Int) (l2 : List Int) (A2 : Option Addr) (c2 : Nat) (x3 : Int) (hR0 : RdL w0 A0 l0) (hL0 : l0.length ≤ c0) (hR2 : RdL w0 A2 l2) (hL2 : l2.length ≤ c2) (b1 : Nat) (b2 : Nat) (r1 : SFault) (b3 : Nat) (hc1 : r1.Code = 0) (hc6 : ¬ ((l2.length : Int) > 4000)) (m3 : List Int) (m4 : List Int) (hc12 : l0.length ≤ 17592186044416) (Z1 : Option Addr) (cz1 : Nat) (b4 : Nat) (Z2 : Option Addr) (cz2 : Nat) (Z3 : Option Addr) (cz3 : Nat) (m7 : List Int) (s : Int × (List Int) × (List Int) × (List Int) × (List Int)) (o : (Int × (List Int) × (List Int) × (List Int) × (List Int)) ⊕ (((List Int) × (List Int)) ⊕ (SPlayed × SFault))) (h : punctualref_PlayAnew.r4 K l0 x1 l2 x3 s = some o) (a : Act) (w : World) (hA : punctualref_PlayAnew.A4 K w0 l0 A0 c0 x1 l2 A2 c2 x3 hR0 hL0 hR2 hL2 b1 b2 r1 b3 hc1 hc6 m3 m4 hc12 Z1 cz1 b4 Z2 cz2 Z3 cz3 m7 s a w) (Q : Exit → Act → World → Prop) (hQ : ∀ x a w, Outs (punctualref_PlayAnew.A4 K w0 l0 A0 c0 x1 l2 A2 c2 x3 hR0 hL0 hR2 hL2 b1 b2 r1 b3 hc1 hc6 m3 m4 hc12 Z1 cz1 b4 Z2 cz2 Z3 cz3 m7) (punctualref_PlayAnew.B4 K w0 l0 A0 c0 x1 l2 A2 c2 x3 hR0 hL0 hR2 hL2 b1 b2 r1 b3 hc1 hc6 m3 m4 hc12 Z1 cz1 b4 Z2 cz2 Z3 cz3 m7) o x a w → Q x a w) : (subF Tryd.f68 [1, 1, 1, 1, 1, 1, 1, 1, 0, 1, 0, 0]).wp Tryd.prog Q a w := by
  obtain ⟨z2, m8, m9, m10, m11⟩ := s
  obtain ⟨v8, hS, hF⟩ := hA
  replace hS : St w0 w [Own.blk b4 (.cells #[v8, (.slice Z1 m11.length cz1)] 36 (0, 0)), Own.blk b2 (.cells #[.int .i64 0, .int .i64 0] 39 (0, 0)), Own.blk b1 (.cells #[.slice none 0 0, .slice none 0 0] 36 (0, 0)), Own.of (.slice Z2 m8.length cz2) 3 m8, Own.of (.slice Z3 m9.length cz3) 3 m9, Own.of v8 3 m10, Own.of (.slice Z1 m11.length cz1) 3 m11] := hS
  simp only [punctualref_PlayAnew.r4] at h
  refine (?_ : WE Tryd.prog 197 (subF Tryd.f68 [1, 1, 1, 1, 1, 1, 1, 1, 0, 1, 0, 0]) Q [(0, .slice A0 l0.length c0), (1, .int .i64 x1), (2, .slice A2 l2.length c2), (3, .int .i64 x3), (8, .pointer (some ⟨b1, 0, none⟩)), (9, .pointer (some ⟨b2, 0, none⟩)), (12, (.slice Z2 m8.length cz2)), (13, (.slice Z3 m9.length cz3)), (14, .pointer (some ⟨b4, 0, none⟩)), (16, .int .i64 z2)] w) a hF
  clear hF a
  refine we_seq fun K31 hK31 => ?_
  refine we_seq fun K32 hK32 => ?_
  refine we_region [(0, 0), (1, 0), (2, 0)] rfl ?_
  refine ge_batch [0, 1, 2] (ans := []) (vs := [(90, .bool (decide (z2 < x3))), (89, .int .i64 x3), (88, .int .i64 z2)]) (l := []) (by kernel_rfl) trivial ?_
  refine ge_nil fun a hF => hK32 _ _ ?_ a hF
  by_cases hc14 : z2 < x3
  · rw [if_pos hc14] at h
    refine we_known (t := 90) (b := decide (z2 < x3)) (v := true) (by kernel_rfl) (decide_eq_true hc14) ?_
    refine we_true (by kernel_rfl) ?_
    refine we_skip fun a hF => hK31 _ _ ?_ a hF
    refine we_seq fun K33 hK33 => ?_
    refine we_block ?_
    refine we_seq fun K34 hK34 => ?_
    refine we_region [(0, 0)] rfl ?_
    refine ge_batch [0] (ans := []) (vs := [(17, .int .i64 (-1))]) (l := []) (by kernel_rfl) trivial ?_
    refine ge_nil fun a hF => hK34 _ _ ?_ a hF
    refine we_seq fun K35 hK35 => ?_
    refine we_seq fun K36 hK36 => ?_
    refine we_region [(0, 0), (1, 0), (2, 0)] rfl ?_
    refine ge_batch [0, 1, 2] (ans := []) (vs := [(95, .int .i64 0), (94, .int .i64 (l0.length : Int)), (93, .slice A0 l0.length c0)]) (l := []) (by kernel_rfl) trivial ?_
    refine ge_nil fun a hF => hK36 _ _ ?_ a hF
    refine we_block ?_
    obtain ⟨Z4, cz4, rfl⟩ := hS.open 5 rfl
    have hS140 := hS.bring 6 rfl
    have hS141 := hS140.bring 6 rfl
    have hS142 := hS141.bring 6 rfl
    have hS143 := hS142.bring 6 rfl
    have hS144 := hS143.bring 6 rfl
    have hS145 := hS144.bring 6 rfl
    have hS146 := hS145.bring 6 rfl
    rcases hq13 : iter (punctualref_PlayAnew.r5 l0 z2 m11) K ((-1), 0) with _ | (z5 | rr1)
    · rw [hq13] at h; cases h
    · rw [hq13] at h
      simp only [] at h
      refine we_iter (A := punctualref_PlayAnew.A5 K w0 l0 A0 c0 x1 l2 A2 c2 x3 hR0 hL0 hR2 hL2 b1 b2 r1 b3 hc1 hc6 m3 m4 hc12 Z1 cz1 b4 Z2 cz2 Z3 cz3 m7 z2 m8 m9 m10 m11 hc14 Z4 cz4) (B := punctualref_PlayAnew.B5 K w0 l0 A0 c0 x1 l2 A2 c2 x3 hR0 hL0 hR2 hL2 b1 b2 r1 b3 hc1 hc6 m3 m4 hc12 Z1 cz1 b4 Z2 cz2 Z3 cz3 m7 z2 m8 m9 m10 m11 hc14 Z4 cz4) hq13 (fun a hF => ⟨hS146, hF.weaken ⟨by kernel_rfl, by kernel_rfl, by kernel_rfl, by kernel_rfl, by kernel_rfl, by kernel_rfl, by kernel_rfl, by kernel_rfl, by kernel_rfl, by kernel_rfl, by kernel_rfl, by kernel_rfl, by kernel_rfl, by kernel_rfl, trivial⟩⟩) (fun s o hf a w hA Q hQ => punctualref_PlayAnew_r5 K w0 l0 A0 c0 x1 l2 A2 c2 x3 hR0 hL0 hR2 hL2 b1 b2 r1 b3 hc1 hc6 m3 m4 hc12 Z1 cz1 b4 Z2 cz2 Z3 cz3 m7 z2 m8 m9 m10 m11 hc14 Z4 cz4 s o hf a w hA Q hQ) ?_
      rintro _ a w37 _ ⟨rfl, hS199, hF⟩
      replace hS199 : St w0 w37 [Own.blk b4 (.cells #[(.slice Z4 m10.length cz4), (.slice Z1 m11.length cz1)] 36 (0, 0)), Own.blk b2 (.cells #[.int .i64 0, .int .i64 0] 39 (0, 0)), Own.blk b1 (.cells #[.slice none 0 0, .slice none 0 0] 36 (0, 0)), Own.of (.slice Z2 m8.length cz2) 3 m8, Own.of (.slice Z3 m9.length cz3) 3 m9, Own.of (.slice Z4 m10.length cz4) 3 m10, Own.of (.slice Z1 m11.length cz1) 3 m11] := hS199
      refine hK35 [(0, .slice A0 l0.length c0), (1, .int .i64 x1), (2, .slice A2 l2.length c2), (3, .int .i64 x3), (8, .pointer (some ⟨b1, 0, none⟩)), (9, .pointer (some ⟨b2, 0, none⟩)), (12, (.slice Z2 m8.length cz2)), (13, (.slice Z3 m9.length cz3)), (14, .pointer (some ⟨b4, 0, none⟩)), (16, .int .i64 z2), (17, .int .i64 z5)] w37 ?_ a hF
      refine we_seq fun K42 hK42 => ?_
      refine we_region [(0, 0), (1, 0), (2, 0), (3, 1), (4, 2), (5, 0), (6, 2)] rfl ?_
      refine ge_batch [0, 1, 2] (ans := [.val ((.slice Z4 m10.length cz4))]) (vs := [(126, .int .i64 z5), (125, (.slice Z4 m10.length cz4)), (124, .pointer (some ⟨b4, 0, none⟩))]) (l := [.loaded ⟨b4, 0, none⟩ ((.slice Z4 m10.length cz4))]) (by kernel_rfl) ⟨hS199.cell 0 rfl rfl, trivial⟩ ?_
      refine ge_new (d := some 127) (o := .cells #[.int .i64 z5] 3) (v := fun b => .slice (some ⟨b, 0, none⟩) 1 1) hS199 (fun b => by kernel_rfl) fun b6 w38 hx11 hS200 => ?_
      have hS201 := hS200.bring 6 rfl
      by_cases hc20 : m10.length < 17592186044416
      · rw [if_pos hc20] at h
        refine ge_append (α := Int) (m := 0) (d := 128) (t := 24) (el := 3) (bytes := 8) (c1 := 1) (b1 := b6) (x := (.tmp 125)) (y := (.tmp 127)) (ty := 24) (v := (.slice Z4 m10.length cz4)) (z := .int .i64 0) (l := m10) (u := z5) (by kernel_rfl) (by kernel_rfl) (by kernel_rfl) (by kernel_rfl) (by kernel_rfl) rfl hS201 rfl (by omega) fun v10 w39 hS202 => ?_
        refine ge_batch [5] (ans := []) (vs := [(129, .pointer (some ⟨b4, 0, none⟩))]) (l := []) (by kernel_rfl) trivial ?_
        obtain ⟨Z5, cz5, rfl⟩ := hS202.open 0 rfl
        have hS203 := hS202.bring 1 rfl
        refine ge_set (b := b4) (j := 0) (cs := #[(.slice Z4 m10.length cz4), (.slice Z1 m11.length cz1)]) (t := 36) (vs := [(.slice Z5 (m10 ++ [z5]).length cz5)]) hS203 (by kernel_rfl) rfl rfl fun w40 hS204 => ?_
        have hS205 : St w0 w40 [Own.blk b4 (.cells #[(.slice Z5 (m10 ++ [z5]).length cz5), (.slice Z1 m11.length cz1)] 36 (0, 0)), Own.of (.slice Z5 (m10 ++ [z5]).length cz5) 3 (m10 ++ [z5]), Own.blk b2 (.cells #[.int .i64 0, .int .i64 0] 39 (0, 0)), Own.blk b1 (.cells #[.slice none 0 0, .slice none 0 0] 36 (0, 0)), Own.of (.slice Z2 m8.length cz2) 3 m8, Own.of (.slice Z3 m9.length cz3) 3 m9, Own.of (.slice Z1 m11.length cz1) 3 m11] := hS204
        refine ge_nil fun a hF => hK42 _ _ ?_ a hF
        refine we_seq fun K43 hK43 => ?_
        refine we_seq fun K44 hK44 => ?_
        refine we_region [(0, 0), (1, 0)] rfl ?_
        refine ge_batch [0, 1] (ans := []) (vs := [(131, .bool (decide (z5 < 0))), (130, .int .i64 z5)]) (l := []) (by kernel_rfl) trivial ?_
        refine ge_nil fun a hF => hK44 _ _ ?_ a hF
        by_cases hc21 : z5 < 0
        · rw [if_pos hc21] at h
          refine we_known (t := 131) (b := decide (z5 < 0)) (v := true) (by kernel_rfl) (decide_eq_true hc21) ?_
          refine we_true (by kernel_rfl) ?_
          refine we_exit fun a hF => hK33 _ _ ?_ a hF
          refine we_region [(0, 0), (1, 0), (2, 0)] rfl ?_
          refine ge_batch [0, 1, 2] (ans := []) (vs := [(16, .int .i64 (IntKind.i64.wrap (z2 + 1))), (92, .int .i64 (IntKind.i64.wrap (z2 + 1))), (91, .int .i64 z2)]) (l := []) (by kernel_rfl) trivial ?_
          have hS206 := hS205.bring 6 rfl
          have hS207 := hS206.bring 2 rfl
          have hS208 := hS207.bring 6 rfl
          have hS209 := hS208.bring 6 rfl
          have hS210 := hS209.bring 6 rfl
          have hS211 := hS210.bring 6 rfl
          have hS212 := hS211.bring 6 rfl
          obtain rfl := Option.some.inj h
          exact ge_nil fun a hF => hQ _ _ _ (Outs.again ⟨(.slice Z5 (m10 ++ [z5]).length cz5), hS212, hF.weaken ⟨by kernel_rfl, by kernel_rfl, by kernel_rfl, by kernel_rfl, by kernel_rfl, by kernel_rfl, by kernel_rfl, by kernel_rfl, by kernel_rfl, by kernel_rfl, trivial⟩⟩)
        · rw [if_neg hc21] at h
          refine we_known (t := 131) (b := decide (z5 < 0)) (v := false) (by kernel_rfl) (decide_eq_false hc21) ?_
          refine we_false (by kernel_rfl) ?_
          refine we_skip fun a hF => hK43 _ _ ?_ a hF
          refine we_seq fun K45 hK45 => ?_
          refine we_region [(0, 0), (1, 0), (2, 1), (3, 0)] rfl ?_
          rcases hq14 : sort_SearchInts.f K l2 z2 with _ | r3
          · rw [hq14] at h; cases h
          rw [hq14] at h
          simp only [] at h
          refine ge_batch [0, 1] (ans := []) (vs := [(133, .int .i64 z2), (132, .slice A2 l2.length c2)]) (l := []) (by kernel_rfl) trivial ?_
          refine ge_call (d := some 134) (f := 128) (args := #[.slice A2 l2.length c2, .int .i64 z2]) (by kernel_rfl) (sort_SearchInts_ok K l2 A2 c2 z2 _ (hS205.rd hR2) hL2 _ hq14) ?_
          rintro _ w41 ⟨rfl, hS213⟩
          refine ⟨_, rfl, hS213.below, ?_⟩
          have hS214 := hS205.call hS213
          refine ge_batch [3] (ans := []) (vs := [(20, .int .i64 r3)]) (l := []) (by kernel_rfl) trivial ?_
          refine ge_nil fun a hF => hK45 _ _ ?_ a hF
          refine we_seq fun K46 hK46 => ?_
          refine we_seq fun K47 hK47 => ?_
          refine we_region [(0, 0), (1, 0), (2, 0), (3, 0), (4, 0), (5, 0), (6, 0), (7, 0), (8, 0), (9, 0), (10, 0), (11, 0)] rfl ?_
          refine ge_batch [0, 1, 2, 3, 4] (ans := []) (vs := [(139, .bool (decide (r3 < (l2.length : Int)))), (138, .bool (decide (r3 < (l2.length : Int)))), (137, .int .i64 (l2.length : Int)), (136, .slice A2 l2.length c2), (135, .int .i64 r3)]) (l := []) (by kernel_rfl) trivial ?_
          by_cases hc22 : r3 < (l2.length : Int)
          · rw [if_pos hc22] at h
            refine ge_known (t := 139) (b := decide (r3 < (l2.length : Int))) (c := true) (by kernel_rfl) (decide_eq_true hc22) ?_
            refine ge_batch [5, 6] (ans := []) (vs := [(141, .int .i64 r3), (140, .slice A2 l2.length c2)]) (l := []) (by kernel_rfl) trivial ?_
            by_cases hc23 : 0 ≤ r3
            · rw [if_pos hc23] at h
              rcases hx12 : l2[(r3).toNat]? with _ | e6
              · rw [hx12] at h; cases h
              rw [hx12] at h
              simp only [] at h
              refine ge_index (d := 142) (ty := 0) (t := 24) (el := 3) (sz := 1) (m := l2.length) (c := c2) (x := (.tmp 140)) (y := (.tmp 141)) (A := A2) (k' := .i64) (j := r3) (jn := ((r3).toNat)) (b0 := blkOf A2) (o0 := offOf A2) (by kernel_rfl) (by kernel_rfl) (by kernel_rfl) (by kernel_rfl) (by kernel_rfl) ((hS214.rd hR2).eqSome (pos_of_get hx12)) (Int.toNat_of_nonneg hc23).symm (lt_of_get hx12) ?_
              refine ge_batch [8, 9, 10, 11] (ans := [.val (.int .i64 e6)]) (vs := [(146, .bool (e6 == z2)), (145, .bool (e6 == z2)), (144, .int .i64 z2), (143, .int .i64 e6)]) (l := [.loaded ⟨blkOf A2, offOf A2 + ((r3).toNat) * 1, none⟩ (.int .i64 e6)]) (by kernel_rfl) ⟨RdL.cell (j := 0) (hS214.rd hR2) hx12 rfl, trivial⟩ ?_
              refine ge_nil fun a hF => hK47 _ _ ?_ a hF
              by_cases hc24 : e6 = z2
              · rw [if_pos hc24] at h
                refine we_known (t := 146) (b := (e6 == z2)) (v := true) (by kernel_rfl) (beq_iff_eq.2 hc24) ?_
                refine we_true (by kernel_rfl) ?_
                refine we_seq fun K48 hK48 => ?_
                refine we_region [(0, 0), (1, 0), (2, 0), (3, 2)] rfl ?_
                refine ge_batch [0, 1] (ans := []) (vs := [(148, .int .i64 z5), (147, (.slice Z3 m9.length cz3))]) (l := []) (by kernel_rfl) trivial ?_
                by_cases hc25 : 0 ≤ z5
                · rw [if_pos hc25] at h
                  rcases hx13 : m9[(z5).toNat]? with _ | e7
                  · rw [hx13] at h; cases h
                  rw [hx13] at h
                  simp only [] at h
                  refine ge_index (d := 149) (ty := 0) (t := 24) (el := 3) (sz := 1) (m := m9.length) (c := cz3) (x := (.tmp 147)) (y := (.tmp 148)) (A := Z3) (k' := .i64) (j := z5) (jn := ((z5).toNat)) (b0 := blkOf Z3) (o0 := offOf Z3) (by kernel_rfl) (by kernel_rfl) (by kernel_rfl) (by kernel_rfl) (by kernel_rfl) ((hS214.rdAt 5 rfl).eqSome (pos_of_get hx13)) (Int.toNat_of_nonneg hc25).symm (lt_of_get hx13) ?_
                  have hS215 := hS214.bring 5 rfl
                  refine ge_seti (α := Int) (A := Z3) (nn := m9.length) (c := cz3) (t := 3) (l := m9) (x := e7) (x' := 0) (jn := ((z5).toNat)) (j := 0) (vs := [.int .i64 0]) (l' := [.stored ⟨blkOf Z3, offOf Z3 + ((z5).toNat) * 1, none⟩ (.int .i64 0)]) hS215 (by kernel_rfl) (by kernel_rfl) hx13 rfl rfl rfl fun w42 hS216 => ?_
                  have hS217 : St w0 w42 [Own.of (.slice Z3 m9.length cz3) 3 (m9.set ((z5).toNat) 0), Own.blk b4 (.cells #[(.slice Z5 (m10 ++ [z5]).length cz5), (.slice Z1 m11.length cz1)] 36 (0, 0)), Own.of (.slice Z5 (m10 ++ [z5]).length cz5) 3 (m10 ++ [z5]), Own.blk b2 (.cells #[.int .i64 0, .int .i64 0] 39 (0, 0)), Own.blk b1 (.cells #[.slice none 0 0, .slice none 0 0] 36 (0, 0)), Own.of (.slice Z2 m8.length cz2) 3 m8, Own.of (.slice Z1 m11.length cz1) 3 m11] := hS216
                  have hE2 : m9.length = (m9.set ((z5).toNat) 0).length := hS217.lenAt 0 rfl
                  have hS218 : St w0 w42 [Own.of (.slice Z3 (m9.set ((z5).toNat) 0).length cz3) 3 (m9.set ((z5).toNat) 0), Own.blk b4 (.cells #[(.slice Z5 (m10 ++ [z5]).length cz5), (.slice Z1 m11.length cz1)] 36 (0, 0)), Own.of (.slice Z5 (m10 ++ [z5]).length cz5) 3 (m10 ++ [z5]), Own.blk b2 (.cells #[.int .i64 0, .int .i64 0] 39 (0, 0)), Own.blk b1 (.cells #[.slice none 0 0, .slice none 0 0] 36 (0, 0)), Own.of (.slice Z2 m8.length cz2) 3 m8, Own.of (.slice Z1 m11.length cz1) 3 m11] := by rw [← hE2]; exact hS217
                  refine ge_same (t := 13) (v := (.slice Z3 m9.length cz3)) (v' := (.slice Z3 (m9.set ((z5).toNat) 0).length cz3)) (by kernel_rfl) (by rw [hE2]) ?_
                  refine ge_same (t := 147) (v := (.slice Z3 m9.length cz3)) (v' := (.slice Z3 (m9.set ((z5).toNat) 0).length cz3)) (by kernel_rfl) (by rw [hE2]) ?_
                  refine ge_nil fun a hF => hK48 _ _ ?_ a hF
                  refine we_exit fun a hF => hK33 _ _ ?_ a hF
                  refine we_region [(0, 0), (1, 0), (2, 0)] rfl ?_
                  refine ge_batch [0, 1, 2] (ans := []) (vs := [(16, .int .i64 (IntKind.i64.wrap (z2 + 1))), (92, .int .i64 (IntKind.i64.wrap (z2 + 1))), (91, .int .i64 z2)]) (l := []) (by kernel_rfl) trivial ?_
                  have hS219 := hS218.bring 6 rfl
                  have hS220 := hS219.bring 3 rfl
                  have hS221 := hS220.bring 2 rfl
                  have hS222 := hS221.bring 6 rfl
                  have hS223 := hS222.bring 6 rfl
                  have hS224 := hS223.bring 6 rfl
                  have hS225 := hS224.bring 6 rfl
                  obtain rfl := Option.some.inj h
                  exact ge_nil fun a hF => hQ _ _ _ (Outs.again ⟨(.slice Z5 (m10 ++ [z5]).length cz5), hS225, hF.weaken ⟨by kernel_rfl, by kernel_rfl, by kernel_rfl, by kernel_rfl, by kernel_rfl, by kernel_rfl, by kernel_rfl, by kernel_rfl, by kernel_rfl, by kernel_rfl, trivial⟩⟩)
                · rw [if_neg hc25] at h
                  cases h
              · rw [if_neg hc24] at h
                refine we_known (t := 146) (b := (e6 == z2)) (v := false) (by kernel_rfl) (beq_eq_false_iff_ne.2 hc24) ?_
                refine we_false (by kernel_rfl) ?_
                refine we_skip fun a hF => hK46 _ _ ?_ a hF
                refine we_seq fun K49 hK49 => ?_
                refine we_region [(0, 0), (1, 0), (2, 0), (3, 0), (4, 0), (5, 0), (6, 2)] rfl ?_
                refine ge_batch [0, 1] (ans := []) (vs := [(151, .int .i64 z5), (150, (.slice Z3 m9.length cz3))]) (l := []) (by kernel_rfl) trivial ?_
                by_cases hc26 : 0 ≤ z5
                · rw [if_pos hc26] at h
                  rcases hx14 : m9[(z5).toNat]? with _ | e8
                  · rw [hx14] at h; cases h
                  rw [hx14] at h
                  simp only [] at h
                  refine ge_index (d := 152) (ty := 0) (t := 24) (el := 3) (sz := 1) (m := m9.length) (c := cz3) (x := (.tmp 150)) (y := (.tmp 151)) (A := Z3) (k' := .i64) (j := z5) (jn := ((z5).toNat)) (b0 := blkOf Z3) (o0 := offOf Z3) (by kernel_rfl) (by kernel_rfl) (by kernel_rfl) (by kernel_rfl) (by kernel_rfl) ((hS214.rdAt 5 rfl).eqSome (pos_of_get hx14)) (Int.toNat_of_nonneg hc26).symm (lt_of_get hx14) ?_
                  refine ge_batch [3, 4] (ans := [.val (.int .i64 e8)]) (vs := [(154, .int .i64 (IntKind.i64.wrap (e8 + 1))), (153, .int .i64 e8)]) (l := [.loaded ⟨blkOf Z3, offOf Z3 + ((z5).toNat) * 1, none⟩ (.int .i64 e8)]) (by kernel_rfl) ⟨RdL.cell (j := 0) (hS214.rdAt 5 rfl) hx14 rfl, trivial⟩ ?_
                  refine ge_index (d := 155) (ty := 0) (t := 24) (el := 3) (sz := 1) (m := m9.length) (c := cz3) (x := (.tmp 150)) (y := (.tmp 151)) (A := Z3) (k' := .i64) (j := z5) (jn := ((z5).toNat)) (b0 := blkOf Z3) (o0 := offOf Z3) (by kernel_rfl) (by kernel_rfl) (by kernel_rfl) (by kernel_rfl) (by kernel_rfl) ((hS214.rdAt 5 rfl).eqSome (pos_of_get hx14)) (Int.toNat_of_nonneg hc26).symm (lt_of_get hx14) ?_
                  have hS226 := hS214.bring 5 rfl
                  refine ge_seti (α := Int) (A := Z3) (nn := m9.length) (c := cz3) (t := 3) (l := m9) (x := e8) (x' := (IntKind.i64.wrap (e8 + 1))) (jn := ((z5).toNat)) (j := 0) (vs := [.int .i64 (IntKind.i64.wrap (e8 + 1))]) (l' := [.stored ⟨blkOf Z3, offOf Z3 + ((z5).toNat) * 1, none⟩ (.int .i64 (IntKind.i64.wrap (e8 + 1)))]) hS226 (by kernel_rfl) (by kernel_rfl) hx14 rfl rfl rfl fun w43 hS227 => ?_
                  have hS228 : St w0 w43 [Own.of (.slice Z3 m9.length cz3) 3 (m9.set ((z5).toNat) (IntKind.i64.wrap (e8 + 1))), Own.blk b4 (.cells #[(.slice Z5 (m10 ++ [z5]).length cz5), (.slice Z1 m11.length cz1)] 36 (0, 0)), Own.of (.slice Z5 (m10 ++ [z5]).length cz5) 3 (m10 ++ [z5]), Own.blk b2 (.cells #[.int .i64 0, .int .i64 0] 39 (0, 0)), Own.blk b1 (.cells #[.slice none 0 0, .slice none 0 0] 36 (0, 0)), Own.of (.slice Z2 m8.length cz2) 3 m8, Own.of (.slice Z1 m11.length cz1) 3 m11] := hS227
                  have hE3 : m9.length = (m9.set ((z5).toNat) (IntKind.i64.wrap (e8 + 1))).length := hS228.lenAt 0 rfl
                  have hS229 : St w0 w43 [Own.of (.slice Z3 (m9.set ((z5).toNat) (IntKind.i64.wrap (e8 + 1))).length cz3) 3 (m9.set ((z5).toNat) (IntKind.i64.wrap (e8 + 1))), Own.blk b4 (.cells #[(.slice Z5 (m10 ++ [z5]).length cz5), (.slice Z1 m11.length cz1)] 36 (0, 0)), Own.of (.slice Z5 (m10 ++ [z5]).length cz5) 3 (m10 ++ [z5]), Own.blk b2 (.cells #[.int .i64 0, .int .i64 0] 39 (0, 0)), Own.blk b1 (.cells #[.slice none 0 0, .slice none 0 0] 36 (0, 0)), Own.of (.slice Z2 m8.length cz2) 3 m8, Own.of (.slice Z1 m11.length cz1) 3 m11] := by rw [← hE3]; exact hS228
                  refine ge_same (t := 13) (v := (.slice Z3 m9.length cz3)) (v' := (.slice Z3 (m9.set ((z5).toNat) (IntKind.i64.wrap (e8 + 1))).length cz3)) (by kernel_rfl) (by rw [hE3]) ?_
                  refine ge_same (t := 150) (v := (.slice Z3 m9.length cz3)) (v' := (.slice Z3 (m9.set ((z5).toNat) (IntKind.i64.wrap (e8 + 1))).length cz3)) (by kernel_rfl) (by rw [hE3]) ?_
                  refine ge_nil fun a hF => hK49 _ _ ?_ a hF
                  refine we_seq fun K50 hK50 => ?_
                  refine we_seq fun K51 hK51 => ?_
                  refine we_draws (by kernel_rfl) [(0, 0), (1, 0), (2, 0), (3, 0), (4, 0), (5, 0), (6, 0), (7, 0), (8, 0), (9, 0), (10, 0), (11, 0), (12, 0), (13, 0), (14, 0)] (by kernel_rfl) ?_
                  have hS230 := hS229.drew
                  refine ge_batch [0, 1] (ans := []) (vs := [(157, .int .i64 z5), (156, (.slice Z2 m8.length cz2))]) (l := []) (by kernel_rfl) trivial ?_
                  rcases hx15 : m8[(z5).toNat]? with _ | e9
                  · rw [hx15] at h; cases h
                  rw [hx15] at h
                  simp only [] at h
                  refine ge_index (d := 158) (ty := 0) (t := 24) (el := 3) (sz := 1) (m := m8.length) (c := cz2) (x := (.tmp 156)) (y := (.tmp 157)) (A := Z2) (k' := .i64) (j := z5) (jn := ((z5).toNat)) (b0 := blkOf Z2) (o0 := offOf Z2) (by kernel_rfl) (by kernel_rfl) (by kernel_rfl) (by kernel_rfl) (by kernel_rfl) ((hS230.rdAt 5 rfl).eqSome (pos_of_get hx15)) (Int.toNat_of_nonneg hc26).symm (lt_of_get hx15) ?_
                  refine ge_batch [3, 4, 5] (ans := [.val (.int .i64 e9)]) (vs := [(161, .int .i64 z5), (160, (.slice Z3 (m9.set ((z5).toNat) (IntKind.i64.wrap (e8 + 1))).length cz3)), (159, .int .i64 e9)]) (l := [.loaded ⟨blkOf Z2, offOf Z2 + ((z5).toNat) * 1, none⟩ (.int .i64 e9)]) (by kernel_rfl) ⟨RdL.cell (j := 0) (hS230.rdAt 5 rfl) hx15 rfl, trivial⟩ ?_
                  rcases hx16 : (m9.set ((z5).toNat) (IntKind.i64.wrap (e8 + 1)))[(z5).toNat]? with _ | e10
                  · rw [hx16] at h; cases h
                  rw [hx16] at h
                  simp only [] at h
                  refine ge_index (d := 162) (ty := 0) (t := 24) (el := 3) (sz := 1) (m := (m9.set ((z5).toNat) (IntKind.i64.wrap (e8 + 1))).length) (c := cz3) (x := (.tmp 160)) (y := (.tmp 161)) (A := Z3) (k' := .i64) (j := z5) (jn := ((z5).toNat)) (b0 := blkOf Z3) (o0 := offOf Z3) (by kernel_rfl) (by kernel_rfl) (by kernel_rfl) (by kernel_rfl) (by kernel_rfl) ((hS230.rdAt 0 rfl).eqSome (pos_of_get hx16)) (Int.toNat_of_nonneg hc26).symm (lt_of_get hx16) ?_
                  refine ge_batch [7, 8, 9, 10] (ans := [.val (.int .i64 e10)]) (vs := [(166, .int .i64 z5), (165, .slice A0 l0.length c0), (164, .int .i64 (IntKind.i64.wrap (e9 + e10))), (163, .int .i64 e10)]) (l := [.loaded ⟨blkOf Z3, offOf Z3 + ((z5).toNat) * 1, none⟩ (.int .i64 e10)]) (by kernel_rfl) ⟨RdL.cell (j := 0) (hS230.rdAt 0 rfl) hx16 rfl, trivial⟩ ?_
                  rcases hx17 : l0[(z5).toNat]? with _ | e11
                  · rw [hx17] at h; cases h
                  rw [hx17] at h
                  simp only [] at h
                  refine ge_index (d := 167) (ty := 0) (t := 49) (el := 58) (sz := 5) (m := l0.length) (c := c0) (x := (.tmp 165)) (y := (.tmp 166)) (A := A0) (k' := .i64) (j := z5) (jn := ((z5).toNat)) (b0 := blkOf A0) (o0 := offOf A0) (by kernel_rfl) (by kernel_rfl) (by kernel_rfl) (by kernel_rfl) (by kernel_rfl) ((hS230.rd hR0).eqSome (pos_of_get hx17)) (Int.toNat_of_nonneg hc26).symm (lt_of_get hx17) ?_
                  refine ge_batch [12, 13, 14] (ans := [.val (.int .i64 e11.C)]) (vs := [(170, .bool ((IntKind.i64.wrap (e9 + e10)) == e11.C)), (169, .int .i64 e11.C), (168, .pointer (some ⟨blkOf A0, offOf A0 + (z5).toNat * 5 + 2, none⟩))]) (l := [.loaded ⟨blkOf A0, offOf A0 + ((z5).toNat) * 5 + 2, none⟩ (.int .i64 e11.C)]) (by kernel_rfl) ⟨RdL.cell (j := 2) (hS230.rd hR0) hx17 rfl, trivial⟩ ?_
                  refine ge_nil fun a hF => hK51 _ _ ?_ a hF
                  by_cases hc27 : (IntKind.i64.wrap (e9 + e10)) = e11.C
                  · rw [if_pos hc27] at h
                    refine we_known (t := 170) (b := ((IntKind.i64.wrap (e9 + e10)) == e11.C)) (v := true) (by kernel_rfl) (beq_iff_eq.2 hc27) ?_
                    refine we_true (by kernel_rfl) ?_
                    refine we_region [(0, 0), (1, 0), (2, 0), (3, 0), (4, 0), (5, 0), (6, 2)] rfl ?_
                    refine ge_batch [0, 1, 2, 3, 4] (ans := [.val ((.slice Z1 m11.length cz1))]) (vs := [(175, .int .i64 (IntKind.i64.wrap (z2 + 1))), (174, .int .i64 z2), (173, .int .i64 z5), (172, (.slice Z1 m11.length cz1)), (171, .pointer (some ⟨b4, 1, none⟩))]) (l := [.loaded ⟨b4, 1, none⟩ ((.slice Z1 m11.length cz1))]) (by kernel_rfl) ⟨hS230.cell 1 rfl rfl, trivial⟩ ?_
                    rcases hx18 : m11[(z5).toNat]? with _ | e12
                    · rw [hx18] at h; cases h
                    rw [hx18] at h
                    simp only [] at h
                    refine ge_index (d := 176) (ty := 0) (t := 24) (el := 3) (sz := 1) (m := m11.length) (c := cz1) (x := (.tmp 172)) (y := (.tmp 173)) (A := Z1) (k' := .i64) (j := z5) (jn := ((z5).toNat)) (b0 := blkOf Z1) (o0 := offOf Z1) (by kernel_rfl) (by kernel_rfl) (by kernel_rfl) (by kernel_rfl) (by kernel_rfl) ((hS230.rdAt 6 rfl).eqSome (pos_of_get hx18)) (Int.toNat_of_nonneg hc26).symm (lt_of_get hx18) ?_
                    have hS231 := hS230.bring 6 rfl
                    refine ge_seti (α := Int) (A := Z1) (nn := m11.length) (c := cz1) (t := 3) (l := m11) (x := e12) (x' := (IntKind.i64.wrap (z2 + 1))) (jn := ((z5).toNat)) (j := 0) (vs := [.int .i64 (IntKind.i64.wrap (z2 + 1))]) (l' := [.stored ⟨blkOf Z1, offOf Z1 + ((z5).toNat) * 1, none⟩ (.int .i64 (IntKind.i64.wrap (z2 + 1)))]) hS231 (by kernel_rfl) (by kernel_rfl) hx18 rfl rfl rfl fun w44 hS232 => ?_
                    have hS233 : St w0 w44 [Own.of (.slice Z1 m11.length cz1) 3 (m11.set ((z5).toNat) (IntKind.i64.wrap (z2 + 1))), Own.of (.slice Z3 (m9.set ((z5).toNat) (IntKind.i64.wrap (e8 + 1))).length cz3) 3 (m9.set ((z5).toNat) (IntKind.i64.wrap (e8 + 1))), Own.blk b4 (.cells #[(.slice Z5 (m10 ++ [z5]).length cz5), (.slice Z1 m11.length cz1)] 36 (0, 0)), Own.of (.slice Z5 (m10 ++ [z5]).length cz5) 3 (m10 ++ [z5]), Own.blk b2 (.cells #[.int .i64 0, .int .i64 0] 39 (0, 0)), Own.blk b1 (.cells #[.slice none 0 0, .slice none 0 0] 36 (0, 0)), Own.of (.slice Z2 m8.length cz2) 3 m8] := hS232
                    have hE4 : m11.length = (m11.set ((z5).toNat) (IntKind.i64.wrap (z2 + 1))).length := hS233.lenAt 0 rfl
                    have hS234 : St w0 w44 [Own.of (.slice Z1 (m11.set ((z5).toNat) (IntKind.i64.wrap (z2 + 1))).length cz1) 3 (m11.set ((z5).toNat) (IntKind.i64.wrap (z2 + 1))), Own.of (.slice Z3 (m9.set ((z5).toNat) (IntKind.i64.wrap (e8 + 1))).length cz3) 3 (m9.set ((z5).toNat) (IntKind.i64.wrap (e8 + 1))), Own.blk b4 (.cells #[(.slice Z5 (m10 ++ [z5]).length cz5), (.slice Z1 (m11.set ((z5).toNat) (IntKind.i64.wrap (z2 + 1))).length cz1)] 36 (0, 0)), Own.of (.slice Z5 (m10 ++ [z5]).length cz5) 3 (m10 ++ [z5]), Own.blk b2 (.cells #[.int .i64 0, .int .i64 0] 39 (0, 0)), Own.blk b1 (.cells #[.slice none 0 0, .slice none 0 0] 36 (0, 0)), Own.of (.slice Z2 m8.length cz2) 3 m8] := by rw [← hE4]; exact hS233
                    refine ge_same (t := 172) (v := (.slice Z1 m11.length cz1)) (v' := (.slice Z1 (m11.set ((z5).toNat) (IntKind.i64.wrap (z2 + 1))).length cz1)) (by kernel_rfl) (by rw [hE4]) ?_
                    refine ge_nil fun a hF => hK50 _ _ ?_ a hF
                    refine we_seq fun K52 hK52 => ?_
                    refine we_region [(0, 0), (1, 0), (2, 0), (3, 0), (4, 0), (5, 0)] rfl ?_
                    refine ge_batch [0, 1] (ans := []) (vs := [(178, .int .i64 z5), (177, (.slice Z3 (m9.set ((z5).toNat) (IntKind.i64.wrap (e8 + 1))).length cz3))]) (l := []) (by kernel_rfl) trivial ?_
                    refine ge_index (d := 179) (ty := 0) (t := 24) (el := 3) (sz := 1) (m := (m9.set ((z5).toNat) (IntKind.i64.wrap (e8 + 1))).length) (c := cz3) (x := (.tmp 177)) (y := (.tmp 178)) (A := Z3) (k' := .i64) (j := z5) (jn := ((z5).toNat)) (b0 := blkOf Z3) (o0 := offOf Z3) (by kernel_rfl) (by kernel_rfl) (by kernel_rfl) (by kernel_rfl) (by kernel_rfl) ((hS234.rdAt 1 rfl).eqSome (pos_of_get hx16)) (Int.toNat_of_nonneg hc26).symm (lt_of_get hx16) ?_
                    refine ge_batch [3, 4, 5] (ans := [.val (.int .i64 e10)]) (vs := [(182, .bool (e10 == x1)), (181, .int .i64 x1), (180, .int .i64 e10)]) (l := [.loaded ⟨blkOf Z3, offOf Z3 + ((z5).toNat) * 1, none⟩ (.int .i64 e10)]) (by kernel_rfl) ⟨RdL.cell (j := 0) (hS234.rdAt 1 rfl) hx16 rfl, trivial⟩ ?_
                    refine ge_nil fun a hF => hK52 _ _ ?_ a hF
                    by_cases hc28 : e10 = x1
                    · rw [if_pos hc28] at h
                      refine we_known (t := 182) (b := (e10 == x1)) (v := true) (by kernel_rfl) (beq_iff_eq.2 hc28) ?_
                      refine we_true (by kernel_rfl) ?_
                      refine we_region [(0, 0), (1, 0), (2, 0), (3, 0), (4, 0), (5, 0), (6, 0), (7, 0), (8, 0), (9, 0), (10, 0), (11, 2), (12, 0), (13, 2)] rfl ?_
                      refine ge_batch [0, 1, 2, 3, 4, 5] (ans := []) (vs := [(188, .int .i64 z5), (187, (.slice Z2 m8.length cz2)), (186, .int .i64 z5), (185, (.slice Z3 (m9.set ((z5).toNat) (IntKind.i64.wrap (e8 + 1))).length cz3)), (184, .int .i64 z5), (183, (.slice Z2 m8.length cz2))]) (l := []) (by kernel_rfl) trivial ?_
                      refine ge_index (d := 189) (ty := 0) (t := 24) (el := 3) (sz := 1) (m := m8.length) (c := cz2) (x := (.tmp 187)) (y := (.tmp 188)) (A := Z2) (k' := .i64) (j := z5) (jn := ((z5).toNat)) (b0 := blkOf Z2) (o0 := offOf Z2) (by kernel_rfl) (by kernel_rfl) (by kernel_rfl) (by kernel_rfl) (by kernel_rfl) ((hS234.rdAt 6 rfl).eqSome (pos_of_get hx15)) (Int.toNat_of_nonneg hc26).symm (lt_of_get hx15) ?_
                      refine ge_batch [7, 8, 9] (ans := [.val (.int .i64 e9)]) (vs := [(192, .int .i64 (IntKind.i64.wrap (e9 + x1))), (191, .int .i64 x1), (190, .int .i64 e9)]) (l := [.loaded ⟨blkOf Z2, offOf Z2 + ((z5).toNat) * 1, none⟩ (.int .i64 e9)]) (by kernel_rfl) ⟨RdL.cell (j := 0) (hS234.rdAt 6 rfl) hx15 rfl, trivial⟩ ?_
                      refine ge_index (d := 193) (ty := 0) (t := 24) (el := 3) (sz := 1) (m := m8.length) (c := cz2) (x := (.tmp 183)) (y := (.tmp 184)) (A := Z2) (k' := .i64) (j := z5) (jn := ((z5).toNat)) (b0 := blkOf Z2) (o0 := offOf Z2) (by kernel_rfl) (by kernel_rfl) (by kernel_rfl) (by kernel_rfl) (by kernel_rfl) ((hS234.rdAt 6 rfl).eqSome (pos_of_get hx15)) (Int.toNat_of_nonneg hc26).symm (lt_of_get hx15) ?_
                      have hS235 := hS234.bring 6 rfl
                      refine ge_seti (α := Int) (A := Z2) (nn := m8.length) (c := cz2) (t := 3) (l := m8) (x := e9) (x' := (IntKind.i64.wrap (e9 + x1))) (jn := ((z5).toNat)) (j := 0) (vs := [.int .i64 (IntKind.i64.wrap (e9 + x1))]) (l' := [.stored ⟨blkOf Z2, offOf Z2 + ((z5).toNat) * 1, none⟩ (.int .i64 (IntKind.i64.wrap (e9 + x1)))]) hS235 (by kernel_rfl) (by kernel_rfl) hx15 rfl rfl rfl fun w45 hS236 => ?_
                      have hS237 : St w0 w45 [Own.of (.slice Z2 m8.length cz2) 3 (m8.set ((z5).toNat) (IntKind.i64.wrap (e9 + x1))), Own.of (.slice Z1 (m11.set ((z5).toNat) (IntKind.i64.wrap (z2 + 1))).length cz1) 3 (m11.set ((z5).toNat) (IntKind.i64.wrap (z2 + 1))), Own.of (.slice Z3 (m9.set ((z5).toNat) (IntKind.i64.wrap (e8 + 1))).length cz3) 3 (m9.set ((z5).toNat) (IntKind.i64.wrap (e8 + 1))), Own.blk b4 (.cells #[(.slice Z5 (m10 ++ [z5]).length cz5), (.slice Z1 (m11.set ((z5).toNat) (IntKind.i64.wrap (z2 + 1))).length cz1)] 36 (0, 0)), Own.of (.slice Z5 (m10 ++ [z5]).length cz5) 3 (m10 ++ [z5]), Own.blk b2 (.cells #[.int .i64 0, .int .i64 0] 39 (0, 0)), Own.blk b1 (.cells #[.slice none 0 0, .slice none 0 0] 36 (0, 0))] := hS236
                      have hE5 : m8.length = (m8.set ((z5).toNat) (IntKind.i64.wrap (e9 + x1))).length := hS237.lenAt 0 rfl
                      have hS238 : St w0 w45 [Own.of (.slice Z2 (m8.set ((z5).toNat) (IntKind.i64.wrap (e9 + x1))).length cz2) 3 (m8.set ((z5).toNat) (IntKind.i64.wrap (e9 + x1))), Own.of (.slice Z1 (m11.set ((z5).toNat) (IntKind.i64.wrap (z2 + 1))).length cz1) 3 (m11.set ((z5).toNat) (IntKind.i64.wrap (z2 + 1))), Own.of (.slice Z3 (m9.set ((z5).toNat) (IntKind.i64.wrap (e8 + 1))).length cz3) 3 (m9.set ((z5).toNat) (IntKind.i64.wrap (e8 + 1))), Own.blk b4 (.cells #[(.slice Z5 (m10 ++ [z5]).length cz5), (.slice Z1 (m11.set ((z5).toNat) (IntKind.i64.wrap (z2 + 1))).length cz1)] 36 (0, 0)), Own.of (.slice Z5 (m10 ++ [z5]).length cz5) 3 (m10 ++ [z5]), Own.blk b2 (.cells #[.int .i64 0, .int .i64 0] 39 (0, 0)), Own.blk b1 (.cells #[.slice none 0 0, .slice none 0 0] 36 (0, 0))] := by rw [← hE5]; exact hS237
                      refine ge_same (t := 12) (v := (.slice Z2 m8.length cz2)) (v' := (.slice Z2 (m8.set ((z5).toNat) (IntKind.i64.wrap (e9 + x1))).length cz2)) (by kernel_rfl) (by rw [hE5]) ?_
                      refine ge_same (t := 156) (v := (.slice Z2 m8.length cz2)) (v' := (.slice Z2 (m8.set ((z5).toNat) (IntKind.i64.wrap (e9 + x1))).length cz2)) (by kernel_rfl) (by rw [hE5]) ?_
                      refine ge_same (t := 183) (v := (.slice Z2 m8.length cz2)) (v' := (.slice Z2 (m8.set ((z5).toNat) (IntKind.i64.wrap (e9 + x1))).length cz2)) (by kernel_rfl) (by rw [hE5]) ?_
                      refine ge_same (t := 187) (v := (.slice Z2 m8.length cz2)) (v' := (.slice Z2 (m8.set ((z5).toNat) (IntKind.i64.wrap (e9 + x1))).length cz2)) (by kernel_rfl) (by rw [hE5]) ?_
                      refine ge_index (d := 194) (ty := 0) (t := 24) (el := 3) (sz := 1) (m := (m9.set ((z5).toNat) (IntKind.i64.wrap (e8 + 1))).length) (c := cz3) (x := (.tmp 185)) (y := (.tmp 186)) (A := Z3) (k' := .i64) (j := z5) (jn := ((z5).toNat)) (b0 := blkOf Z3) (o0 := offOf Z3) (by kernel_rfl) (by kernel_rfl) (by kernel_rfl) (by kernel_rfl) (by kernel_rfl) ((hS238.rdAt 2 rfl).eqSome (pos_of_get hx16)) (Int.toNat_of_nonneg hc26).symm (lt_of_get hx16) ?_
                      have hS239 := hS238.bring 2 rfl
                      refine ge_seti (α := Int) (A := Z3) (nn := ((m9.set ((z5).toNat) (IntKind.i64.wrap (e8 + 1))).length)) (c := cz3) (t := 3) (l := (m9.set ((z5).toNat) (IntKind.i64.wrap (e8 + 1)))) (x := e10) (x' := 0) (jn := ((z5).toNat)) (j := 0) (vs := [.int .i64 0]) (l' := [.stored ⟨blkOf Z3, offOf Z3 + ((z5).toNat) * 1, none⟩ (.int .i64 0)]) hS239 (by kernel_rfl) (by kernel_rfl) hx16 rfl rfl rfl fun w46 hS240 => ?_
                      have hS241 : St w0 w46 [Own.of (.slice Z3 (m9.set ((z5).toNat) (IntKind.i64.wrap (e8 + 1))).length cz3) 3 ((m9.set ((z5).toNat) (IntKind.i64.wrap (e8 + 1))).set ((z5).toNat) 0), Own.of (.slice Z2 (m8.set ((z5).toNat) (IntKind.i64.wrap (e9 + x1))).length cz2) 3 (m8.set ((z5).toNat) (IntKind.i64.wrap (e9 + x1))), Own.of (.slice Z1 (m11.set ((z5).toNat) (IntKind.i64.wrap (z2 + 1))).length cz1) 3 (m11.set ((z5).toNat) (IntKind.i64.wrap (z2 + 1))), Own.blk b4 (.cells #[(.slice Z5 (m10 ++ [z5]).length cz5), (.slice Z1 (m11.set ((z5).toNat) (IntKind.i64.wrap (z2 + 1))).length cz1)] 36 (0, 0)), Own.of (.slice Z5 (m10 ++ [z5]).length cz5) 3 (m10 ++ [z5]), Own.blk b2 (.cells #[.int .i64 0, .int .i64 0] 39 (0, 0)), Own.blk b1 (.cells #[.slice none 0 0, .slice none 0 0] 36 (0, 0))] := hS240
                      have hE6 : (m9.set ((z5).toNat) (IntKind.i64.wrap (e8 + 1))).length = ((m9.set ((z5).toNat) (IntKind.i64.wrap (e8 + 1))).set ((z5).toNat) 0).length := hS241.lenAt 0 rfl
                      have hS242 : St w0 w46 [Own.of (.slice Z3 ((m9.set ((z5).toNat) (IntKind.i64.wrap (e8 + 1))).set ((z5).toNat) 0).length cz3) 3 ((m9.set ((z5).toNat) (IntKind.i64.wrap (e8 + 1))).set ((z5).toNat) 0), Own.of (.slice Z2 (m8.set ((z5).toNat) (IntKind.i64.wrap (e9 + x1))).length cz2) 3 (m8.set ((z5).toNat) (IntKind.i64.wrap (e9 + x1))), Own.of (.slice Z1 (m11.set ((z5).toNat) (IntKind.i64.wrap (z2 + 1))).length cz1) 3 (m11.set ((z5).toNat) (IntKind.i64.wrap (z2 + 1))), Own.blk b4 (.cells #[(.slice Z5 (m10 ++ [z5]).length cz5), (.slice Z1 (m11.set ((z5).toNat) (IntKind.i64.wrap (z2 + 1))).length cz1)] 36 (0, 0)), Own.of (.slice Z5 (m10 ++ [z5]).length cz5) 3 (m10 ++ [z5]), Own.blk b2 (.cells #[.int .i64 0, .int .i64 0] 39 (0, 0)), Own.blk b1 (.cells #[.slice none 0 0, .slice none 0 0] 36 (0, 0))] := by rw [← hE6]; exact hS241
                      refine ge_same (t := 13) (v := (.slice Z3 (m9.set ((z5).toNat) (IntKind.i64.wrap (e8 + 1))).length cz3)) (v' := (.slice Z3 ((m9.set ((z5).toNat) (IntKind.i64.wrap (e8 + 1))).set ((z5).toNat) 0).length cz3)) (by kernel_rfl) (by rw [hE6]) ?_
                      refine ge_same (t := 150) (v := (.slice Z3 (m9.set ((z5).toNat) (IntKind.i64.wrap (e8 + 1))).length cz3)) (v' := (.slice Z3 ((m9.set ((z5).toNat) (IntKind.i64.wrap (e8 + 1))).set ((z5).toNat) 0).length cz3)) (by kernel_rfl) (by rw [hE6]) ?_
                      refine ge_same (t := 160) (v := (.slice Z3 (m9.set ((z5).toNat) (IntKind.i64.wrap (e8 + 1))).length cz3)) (v' := (.slice Z3 ((m9.set ((z5).toNat) (IntKind.i64.wrap (e8 + 1))).set ((z5).toNat) 0).length cz3)) (by kernel_rfl) (by rw [hE6]) ?_
                      refine ge_same (t := 177) (v := (.slice Z3 (m9.set ((z5).toNat) (IntKind.i64.wrap (e8 + 1))).length cz3)) (v' := (.slice Z3 ((m9.set ((z5).toNat) (IntKind.i64.wrap (e8 + 1))).set ((z5).toNat) 0).length cz3)) (by kernel_rfl) (by rw [hE6]) ?_
                      refine ge_same (t := 185) (v := (.slice Z3 (m9.set ((z5).toNat) (IntKind.i64.wrap (e8 + 1))).length cz3)) (v' := (.slice Z3 ((m9.set ((z5).toNat) (IntKind.i64.wrap (e8 + 1))).set ((z5).toNat) 0).length cz3)) (by kernel_rfl) (by rw [hE6]) ?_
                      refine ge_nil fun a hF => hK33 _ _ ?_ a hF
                      refine we_region [(0, 0), (1, 0), (2, 0)] rfl ?_
                      refine ge_batch [0, 1, 2] (ans := []) (vs := [(16, .int .i64 (IntKind.i64.wrap (z2 + 1))), (92, .int .i64 (IntKind.i64.wrap (z2 + 1))), (91, .int .i64 z2)]) (l := []) (by kernel_rfl) trivial ?_
                      have hS243 := hS242.bring 2 rfl
                      have hS244 := hS243.bring 4 rfl
                      have hS245 := hS244.bring 2 rfl
                      have hS246 := hS245.bring 3 rfl
                      have hS247 := hS246.bring 6 rfl
                      have hS248 := hS247.bring 6 rfl
                      have hS249 := hS248.bring 6 rfl
                      obtain rfl := Option.some.inj h
                      exact ge_nil fun a hF => hQ _ _ _ (Outs.again ⟨(.slice Z5 (m10 ++ [z5]).length cz5), hS249, hF.weaken ⟨by kernel_rfl, by kernel_rfl, by kernel_rfl, by kernel_rfl, by kernel_rfl, by kernel_rfl, by kernel_rfl, by kernel_rfl, by kernel_rfl, by kernel_rfl, trivial⟩⟩)
                    · rw [if_neg hc28] at h
                      refine we_known (t := 182) (b := (e10 == x1)) (v := false) (by kernel_rfl) (beq_eq_false_iff_ne.2 hc28) ?_
                      refine we_false (by kernel_rfl) ?_
                      refine we_skip fun a hF => hK33 _ _ ?_ a hF
                      refine we_region [(0, 0), (1, 0), (2, 0)] rfl ?_
                      refine ge_batch [0, 1, 2] (ans := []) (vs := [(16, .int .i64 (IntKind.i64.wrap (z2 + 1))), (92, .int .i64 (IntKind.i64.wrap (z2 + 1))), (91, .int .i64 z2)]) (l := []) (by kernel_rfl) trivial ?_
                      have hS250 := hS234.bring 3 rfl
                      have hS251 := hS250.bring 2 rfl
                      have hS252 := hS251.bring 6 rfl
                      have hS253 := hS252.bring 6 rfl
                      have hS254 := hS253.bring 6 rfl
                      have hS255 := hS254.bring 6 rfl
                      obtain rfl := Option.some.inj h
                      exact ge_nil fun a hF => hQ _ _ _ (Outs.again ⟨(.slice Z5 (m10 ++ [z5]).length cz5), hS255, hF.weaken ⟨by kernel_rfl, by kernel_rfl, by kernel_rfl, by kernel_rfl, by kernel_rfl, by kernel_rfl, by kernel_rfl, by kernel_rfl, by kernel_rfl, by kernel_rfl, trivial⟩⟩)
                  · rw [if_neg hc27] at h
                    refine we_known (t := 170) (b := ((IntKind.i64.wrap (e9 + e10)) == e11.C)) (v := false) (by kernel_rfl) (beq_eq_false_iff_ne.2 hc27) ?_
                    refine we_false (by kernel_rfl) ?_
                    refine we_skip fun a hF => hK50 _ _ ?_ a hF
                    refine we_seq fun K53 hK53 => ?_
                    refine we_region [(0, 0), (1, 0), (2, 0), (3, 0), (4, 0), (5, 0)] rfl ?_
                    refine ge_batch [0, 1] (ans := []) (vs := [(178, .int .i64 z5), (177, (.slice Z3 (m9.set ((z5).toNat) (IntKind.i64.wrap (e8 + 1))).length cz3))]) (l := []) (by kernel_rfl) trivial ?_
                    refine ge_index (d := 179) (ty := 0) (t := 24) (el := 3) (sz := 1) (m := (m9.set ((z5).toNat) (IntKind.i64.wrap (e8 + 1))).length) (c := cz3) (x := (.tmp 177)) (y := (.tmp 178)) (A := Z3) (k' := .i64) (j := z5) (jn := ((z5).toNat)) (b0 := blkOf Z3) (o0 := offOf Z3) (by kernel_rfl) (by kernel_rfl) (by kernel_rfl) (by kernel_rfl) (by kernel_rfl) ((hS230.rdAt 0 rfl).eqSome (pos_of_get hx16)) (Int.toNat_of_nonneg hc26).symm (lt_of_get hx16) ?_
                    refine ge_batch [3, 4, 5] (ans := [.val (.int .i64 e10)]) (vs := [(182, .bool (e10 == x1)), (181, .int .i64 x1), (180, .int .i64 e10)]) (l := [.loaded ⟨blkOf Z3, offOf Z3 + ((z5).toNat) * 1, none⟩ (.int .i64 e10)]) (by kernel_rfl) ⟨RdL.cell (j := 0) (hS230.rdAt 0 rfl) hx16 rfl, trivial⟩ ?_
                    refine ge_nil fun a hF => hK53 _ _ ?_ a hF
                    by_cases hc29 : e10 = x1
                    · rw [if_pos hc29] at h
                      refine we_known (t := 182) (b := (e10 == x1)) (v := true) (by kernel_rfl) (beq_iff_eq.2 hc29) ?_
                      refine we_true (by kernel_rfl) ?_
                      refine we_region [(0, 0), (1, 0), (2, 0), (3, 0), (4, 0), (5, 0), (6, 0), (7, 0), (8, 0), (9, 0), (10, 0), (11, 2), (12, 0), (13, 2)] rfl ?_
                      refine ge_batch [0, 1, 2, 3, 4, 5] (ans := []) (vs := [(188, .int .i64 z5), (187, (.slice Z2 m8.length cz2)), (186, .int .i64 z5), (185, (.slice Z3 (m9.set ((z5).toNat) (IntKind.i64.wrap (e8 + 1))).length cz3)), (184, .int .i64 z5), (183, (.slice Z2 m8.length cz2))]) (l := []) (by kernel_rfl) trivial ?_
                      refine ge_index (d := 189) (ty := 0) (t := 24) (el := 3) (sz := 1) (m := m8.length) (c := cz2) (x := (.tmp 187)) (y := (.tmp 188)) (A := Z2) (k' := .i64) (j := z5) (jn := ((z5).toNat)) (b0 := blkOf Z2) (o0 := offOf Z2) (by kernel_rfl) (by kernel_rfl) (by kernel_rfl) (by kernel_rfl) (by kernel_rfl) ((hS230.rdAt 5 rfl).eqSome (pos_of_get hx15)) (Int.toNat_of_nonneg hc26).symm (lt_of_get hx15) ?_
                      refine ge_batch [7, 8, 9] (ans := [.val (.int .i64 e9)]) (vs := [(192, .int .i64 (IntKind.i64.wrap (e9 + x1))), (191, .int .i64 x1), (190, .int .i64 e9)]) (l := [.loaded ⟨blkOf Z2, offOf Z2 + ((z5).toNat) * 1, none⟩ (.int .i64 e9)]) (by kernel_rfl) ⟨RdL.cell (j := 0) (hS230.rdAt 5 rfl) hx15 rfl, trivial⟩ ?_
                      refine ge_index (d := 193) (ty := 0) (t := 24) (el := 3) (sz := 1) (m := m8.length) (c := cz2) (x := (.tmp 183)) (y := (.tmp 184)) (A := Z2) (k' := .i64) (j := z5) (jn := ((z5).toNat)) (b0 := blkOf Z2) (o0 := offOf Z2) (by kernel_rfl) (by kernel_rfl) (by kernel_rfl) (by kernel_rfl) (by kernel_rfl) ((hS230.rdAt 5 rfl).eqSome (pos_of_get hx15)) (Int.toNat_of_nonneg hc26).symm (lt_of_get hx15) ?_
                      have hS256 := hS230.bring 5 rfl
                      refine ge_seti (α := Int) (A := Z2) (nn := m8.length) (c := cz2) (t := 3) (l := m8) (x := e9) (x' := (IntKind.i64.wrap (e9 + x1))) (jn := ((z5).toNat)) (j := 0) (vs := [.int .i64 (IntKind.i64.wrap (e9 + x1))]) (l' := [.stored ⟨blkOf Z2, offOf Z2 + ((z5).toNat) * 1, none⟩ (.int .i64 (IntKind.i64.wrap (e9 + x1)))]) hS256 (by kernel_rfl) (by kernel_rfl) hx15 rfl rfl rfl fun w47 hS257 => ?_
                      have hS258 : St w0 w47 [Own.of (.slice Z2 m8.length cz2) 3 (m8.set ((z5).toNat) (IntKind.i64.wrap (e9 + x1))), Own.of (.slice Z3 (m9.set ((z5).toNat) (IntKind.i64.wrap (e8 + 1))).length cz3) 3 (m9.set ((z5).toNat) (IntKind.i64.wrap (e8 + 1))), Own.blk b4 (.cells #[(.slice Z5 (m10 ++ [z5]).length cz5), (.slice Z1 m11.length cz1)] 36 (0, 0)), Own.of (.slice Z5 (m10 ++ [z5]).length cz5) 3 (m10 ++ [z5]), Own.blk b2 (.cells #[.int .i64 0, .int .i64 0] 39 (0, 0)), Own.blk b1 (.cells #[.slice none 0 0, .slice none 0 0] 36 (0, 0)), Own.of (.slice Z1 m11.length cz1) 3 m11] := hS257
                      have hE7 : m8.length = (m8.set ((z5).toNat) (IntKind.i64.wrap (e9 + x1))).length := hS258.lenAt 0 rfl
                      have hS259 : St w0 w47 [Own.of (.slice Z2 (m8.set ((z5).toNat) (IntKind.i64.wrap (e9 + x1))).length cz2) 3 (m8.set ((z5).toNat) (IntKind.i64.wrap (e9 + x1))), Own.of (.slice Z3 (m9.set ((z5).toNat) (IntKind.i64.wrap (e8 + 1))).length cz3) 3 (m9.set ((z5).toNat) (IntKind.i64.wrap (e8 + 1))), Own.blk b4 (.cells #[(.slice Z5 (m10 ++ [z5]).length cz5), (.slice Z1 m11.length cz1)] 36 (0, 0)), Own.of (.slice Z5 (m10 ++ [z5]).length cz5) 3 (m10 ++ [z5]), Own.blk b2 (.cells #[.int .i64 0, .int .i64 0] 39 (0, 0)), Own.blk b1 (.cells #[.slice none 0 0, .slice none 0 0] 36 (0, 0)), Own.of (.slice Z1 m11.length cz1) 3 m11] := by rw [← hE7]; exact hS258
                      refine ge_same (t := 12) (v := (.slice Z2 m8.length cz2)) (v' := (.slice Z2 (m8.set ((z5).toNat) (IntKind.i64.wrap (e9 + x1))).length cz2)) (by kernel_rfl) (by rw [hE7]) ?_
                      refine ge_same (t := 156) (v := (.slice Z2 m8.length cz2)) (v' := (.slice Z2 (m8.set ((z5).toNat) (IntKind.i64.wrap (e9 + x1))).length cz2)) (by kernel_rfl) (by rw [hE7]) ?_
                      refine ge_same (t := 183) (v := (.slice Z2 m8.length cz2)) (v' := (.slice Z2 (m8.set ((z5).toNat) (IntKind.i64.wrap (e9 + x1))).length cz2)) (by kernel_rfl) (by rw [hE7]) ?_
                      refine ge_same (t := 187) (v := (.slice Z2 m8.length cz2)) (v' := (.slice Z2 (m8.set ((z5).toNat) (IntKind.i64.wrap (e9 + x1))).length cz2)) (by kernel_rfl) (by rw [hE7]) ?_
                      refine ge_index (d := 194) (ty := 0) (t := 24) (el := 3) (sz := 1) (m := (m9.set ((z5).toNat) (IntKind.i64.wrap (e8 + 1))).length) (c := cz3) (x := (.tmp 185)) (y := (.tmp 186)) (A := Z3) (k' := .i64) (j := z5) (jn := ((z5).toNat)) (b0 := blkOf Z3) (o0 := offOf Z3) (by kernel_rfl) (by kernel_rfl) (by kernel_rfl) (by kernel_rfl) (by kernel_rfl) ((hS259.rdAt 1 rfl).eqSome (pos_of_get hx16)) (Int.toNat_of_nonneg hc26).symm (lt_of_get hx16) ?_
                      have hS260 := hS259.bring 1 rfl
                      refine ge_seti (α := Int) (A := Z3) (nn := ((m9.set ((z5).toNat) (IntKind.i64.wrap (e8 + 1))).length)) (c := cz3) (t := 3) (l := (m9.set ((z5).toNat) (IntKind.i64.wrap (e8 + 1)))) (x := e10) (x' := 0) (jn := ((z5).toNat)) (j := 0) (vs := [.int .i64 0]) (l' := [.stored ⟨blkOf Z3, offOf Z3 + ((z5).toNat) * 1, none⟩ (.int .i64 0)]) hS260 (by kernel_rfl) (by kernel_rfl) hx16 rfl rfl rfl fun w48 hS261 => ?_
                      have hS262 : St w0 w48 [Own.of (.slice Z3 (m9.set ((z5).toNat) (IntKind.i64.wrap (e8 + 1))).length cz3) 3 ((m9.set ((z5).toNat) (IntKind.i64.wrap (e8 + 1))).set ((z5).toNat) 0), Own.of (.slice Z2 (m8.set ((z5).toNat) (IntKind.i64.wrap (e9 + x1))).length cz2) 3 (m8.set ((z5).toNat) (IntKind.i64.wrap (e9 + x1))), Own.blk b4 (.cells #[(.slice Z5 (m10 ++ [z5]).length cz5), (.slice Z1 m11.length cz1)] 36 (0, 0)), Own.of (.slice Z5 (m10 ++ [z5]).length cz5) 3 (m10 ++ [z5]), Own.blk b2 (.cells #[.int .i64 0, .int .i64 0] 39 (0, 0)), Own.blk b1 (.cells #[.slice none 0 0, .slice none 0 0] 36 (0, 0)), Own.of (.slice Z1 m11.length cz1) 3 m11] := hS261
                      have hE8 : (m9.set ((z5).toNat) (IntKind.i64.wrap (e8 + 1))).length = ((m9.set ((z5).toNat) (IntKind.i64.wrap (e8 + 1))).set ((z5).toNat) 0).length := hS262.lenAt 0 rfl
                      have hS263 : St w0 w48 [Own.of (.slice Z3 ((m9.set ((z5).toNat) (IntKind.i64.wrap (e8 + 1))).set ((z5).toNat) 0).length cz3) 3 ((m9.set ((z5).toNat) (IntKind.i64.wrap (e8 + 1))).set ((z5).toNat) 0), Own.of (.slice Z2 (m8.set ((z5).toNat) (IntKind.i64.wrap (e9 + x1))).length cz2) 3 (m8.set ((z5).toNat) (IntKind.i64.wrap (e9 + x1))), Own.blk b4 (.cells #[(.slice Z5 (m10 ++ [z5]).length cz5), (.slice Z1 m11.length cz1)] 36 (0, 0)), Own.of (.slice Z5 (m10 ++ [z5]).length cz5) 3 (m10 ++ [z5]), Own.blk b2 (.cells #[.int .i64 0, .int .i64 0] 39 (0, 0)), Own.blk b1 (.cells #[.slice none 0 0, .slice none 0 0] 36 (0, 0)), Own.of (.slice Z1 m11.length cz1) 3 m11] := by rw [← hE8]; exact hS262
                      refine ge_same (t := 13) (v := (.slice Z3 (m9.set ((z5).toNat) (IntKind.i64.wrap (e8 + 1))).length cz3)) (v' := (.slice Z3 ((m9.set ((z5).toNat) (IntKind.i64.wrap (e8 + 1))).set ((z5).toNat) 0).length cz3)) (by kernel_rfl) (by rw [hE8]) ?_
                      refine ge_same (t := 150) (v := (.slice Z3 (m9.set ((z5).toNat) (IntKind.i64.wrap (e8 + 1))).length cz3)) (v' := (.slice Z3 ((m9.set ((z5).toNat) (IntKind.i64.wrap (e8 + 1))).set ((z5).toNat) 0).length cz3)) (by kernel_rfl) (by rw [hE8]) ?_
                      refine ge_same (t := 160) (v := (.slice Z3 (m9.set ((z5).toNat) (IntKind.i64.wrap (e8 + 1))).length cz3)) (v' := (.slice Z3 ((m9.set ((z5).toNat) (IntKind.i64.wrap (e8 + 1))).set ((z5).toNat) 0).length cz3)) (by kernel_rfl) (by rw [hE8]) ?_
                      refine ge_same (t := 177) (v := (.slice Z3 (m9.set ((z5).toNat) (IntKind.i64.wrap (e8 + 1))).length cz3)) (v' := (.slice Z3 ((m9.set ((z5).toNat) (IntKind.i64.wrap (e8 + 1))).set ((z5).toNat) 0).length cz3)) (by kernel_rfl) (by rw [hE8]) ?_
                      refine ge_same (t := 185) (v := (.slice Z3 (m9.set ((z5).toNat) (IntKind.i64.wrap (e8 + 1))).length cz3)) (v' := (.slice Z3 ((m9.set ((z5).toNat) (IntKind.i64.wrap (e8 + 1))).set ((z5).toNat) 0).length cz3)) (by kernel_rfl) (by rw [hE8]) ?_
                      refine ge_nil fun a hF => hK33 _ _ ?_ a hF
                      refine we_region [(0, 0), (1, 0), (2, 0)] rfl ?_
                      refine ge_batch [0, 1, 2] (ans := []) (vs := [(16, .int .i64 (IntKind.i64.wrap (z2 + 1))), (92, .int .i64 (IntKind.i64.wrap (z2 + 1))), (91, .int .i64 z2)]) (l := []) (by kernel_rfl) trivial ?_
                      have hS264 := hS263.bring 6 rfl
                      have hS265 := hS264.bring 4 rfl
                      have hS266 := hS265.bring 2 rfl
                      have hS267 := hS266.bring 3 rfl
                      have hS268 := hS267.bring 6 rfl
                      have hS269 := hS268.bring 6 rfl
                      have hS270 := hS269.bring 6 rfl
                      obtain rfl := Option.some.inj h
                      exact ge_nil fun a hF => hQ _ _ _ (Outs.again ⟨(.slice Z5 (m10 ++ [z5]).length cz5), hS270, hF.weaken ⟨by kernel_rfl, by kernel_rfl, by kernel_rfl, by kernel_rfl, by kernel_rfl, by kernel_rfl, by kernel_rfl, by kernel_rfl, by kernel_rfl, by kernel_rfl, trivial⟩⟩)
                    · rw [if_neg hc29] at h
                      refine we_known (t := 182) (b := (e10 == x1)) (v := false) (by kernel_rfl) (beq_eq_false_iff_ne.2 hc29) ?_
                      refine we_false (by kernel_rfl) ?_
                      refine we_skip fun a hF => hK33 _ _ ?_ a hF
                      refine we_region [(0, 0), (1, 0), (2, 0)] rfl ?_
                      refine ge_batch [0, 1, 2] (ans := []) (vs := [(16, .int .i64 (IntKind.i64.wrap (z2 + 1))), (92, .int .i64 (IntKind.i64.wrap (z2 + 1))), (91, .int .i64 z2)]) (l := []) (by kernel_rfl) trivial ?_
                      have hS271 := hS230.bring 6 rfl
                      have hS272 := hS271.bring 3 rfl
                      have hS273 := hS272.bring 2 rfl
                      have hS274 := hS273.bring 6 rfl
                      have hS275 := hS274.bring 6 rfl
                      have hS276 := hS275.bring 6 rfl
                      have hS277 := hS276.bring 6 rfl
                      obtain rfl := Option.some.inj h
                      exact ge_nil fun a hF => hQ _ _ _ (Outs.again ⟨(.slice Z5 (m10 ++ [z5]).length cz5), hS277, hF.weaken ⟨by kernel_rfl, by kernel_rfl, by kernel_rfl, by kernel_rfl, by kernel_rfl, by kernel_rfl, by kernel_rfl, by kernel_rfl, by kernel_rfl, by kernel_rfl, trivial⟩⟩)
                · rw [if_neg hc26] at h
                  cases h
            · rw [if_neg hc23] at h
              cases h
          · rw [if_neg hc22] at h
            refine ge_known (t := 139) (b := decide (r3 < (l2.length : Int))) (c := false) (by kernel_rfl) (decide_eq_false hc22) ?_
            refine ge_batch [5, 6, 7, 8, 9, 10, 11] (ans := []) (vs := [(146, .bool false), (145, undef), (144, undef), (143, undef), (142, undef), (141, undef), (140, undef)]) (l := []) (by kernel_rfl) trivial ?_
            refine ge_nil fun a hF => hK47 _ _ ?_ a hF
            refine we_false (by kernel_rfl) ?_
            refine we_skip fun a hF => hK46 _ _ ?_ a hF
            refine we_seq fun K54 hK54 => ?_
            refine we_region [(0, 0), (1, 0), (2, 0), (3, 0), (4, 0), (5, 0), (6, 2)] rfl ?_
            refine ge_batch [0, 1] (ans := []) (vs := [(151, .int .i64 z5), (150, (.slice Z3 m9.length cz3))]) (l := []) (by kernel_rfl) trivial ?_
            by_cases hc30 : 0 ≤ z5
            · rw [if_pos hc30] at h
              rcases hx19 : m9[(z5).toNat]? with _ | e13
              · rw [hx19] at h; cases h
              rw [hx19] at h
              simp only [] at h
              refine ge_index (d := 152) (ty := 0) (t := 24) (el := 3) (sz := 1) (m := m9.length) (c := cz3) (x := (.tmp 150)) (y := (.tmp 151)) (A := Z3) (k' := .i64) (j := z5) (jn := ((z5).toNat)) (b0 := blkOf Z3) (o0 := offOf Z3) (by kernel_rfl) (by kernel_rfl) (by kernel_rfl) (by kernel_rfl) (by kernel_rfl) ((hS214.rdAt 5 rfl).eqSome (pos_of_get hx19)) (Int.toNat_of_nonneg hc30).symm (lt_of_get hx19) ?_
              refine ge_batch [3, 4] (ans := [.val (.int .i64 e13)]) (vs := [(154, .int .i64 (IntKind.i64.wrap (e13 + 1))), (153, .int .i64 e13)]) (l := [.loaded ⟨blkOf Z3, offOf Z3 + ((z5).toNat) * 1, none⟩ (.int .i64 e13)]) (by kernel_rfl) ⟨RdL.cell (j := 0) (hS214.rdAt 5 rfl) hx19 rfl, trivial⟩ ?_
              refine ge_index (d := 155) (ty := 0) (t := 24) (el := 3) (sz := 1) (m := m9.length) (c := cz3) (x := (.tmp 150)) (y := (.tmp 151)) (A := Z3) (k' := .i64) (j := z5) (jn := ((z5).toNat)) (b0 := blkOf Z3) (o0 := offOf Z3) (by kernel_rfl) (by kernel_rfl) (by kernel_rfl) (by kernel_rfl) (by kernel_rfl) ((hS214.rdAt 5 rfl).eqSome (pos_of_get hx19)) (Int.toNat_of_nonneg hc30).symm (lt_of_get hx19) ?_
              have hS278 := hS214.bring 5 rfl
              refine ge_seti (α := Int) (A := Z3) (nn := m9.length) (c := cz3) (t := 3) (l := m9) (x := e13) (x' := (IntKind.i64.wrap (e13 + 1))) (jn := ((z5).toNat)) (j := 0) (vs := [.int .i64 (IntKind.i64.wrap (e13 + 1))]) (l' := [.stored ⟨blkOf Z3, offOf Z3 + ((z5).toNat) * 1, none⟩ (.int .i64 (IntKind.i64.wrap (e13 + 1)))]) hS278 (by kernel_rfl) (by kernel_rfl) hx19 rfl rfl rfl fun w49 hS279 => ?_
              have hS280 : St w0 w49 [Own.of (.slice Z3 m9.length cz3) 3 (m9.set ((z5).toNat) (IntKind.i64.wrap (e13 + 1))), Own.blk b4 (.cells #[(.slice Z5 (m10 ++ [z5]).length cz5), (.slice Z1 m11.length cz1)] 36 (0, 0)), Own.of (.slice Z5 (m10 ++ [z5]).length cz5) 3 (m10 ++ [z5]), Own.blk b2 (.cells #[.int .i64 0, .int .i64 0] 39 (0, 0)), Own.blk b1 (.cells #[.slice none 0 0, .slice none 0 0] 36 (0, 0)), Own.of (.slice Z2 m8.length cz2) 3 m8, Own.of (.slice Z1 m11.length cz1) 3 m11] := hS279
              have hE9 : m9.length = (m9.set ((z5).toNat) (IntKind.i64.wrap (e13 + 1))).length := hS280.lenAt 0 rfl
              have hS281 : St w0 w49 [Own.of (.slice Z3 (m9.set ((z5).toNat) (IntKind.i64.wrap (e13 + 1))).length cz3) 3 (m9.set ((z5).toNat) (IntKind.i64.wrap (e13 + 1))), Own.blk b4 (.cells #[(.slice Z5 (m10 ++ [z5]).length cz5), (.slice Z1 m11.length cz1)] 36 (0, 0)), Own.of (.slice Z5 (m10 ++ [z5]).length cz5) 3 (m10 ++ [z5]), Own.blk b2 (.cells #[.int .i64 0, .int .i64 0] 39 (0, 0)), Own.blk b1 (.cells #[.slice none 0 0, .slice none 0 0] 36 (0, 0)), Own.of (.slice Z2 m8.length cz2) 3 m8, Own.of (.slice Z1 m11.length cz1) 3 m11] := by rw [← hE9]; exact hS280
              refine ge_same (t := 13) (v := (.slice Z3 m9.length cz3)) (v' := (.slice Z3 (m9.set ((z5).toNat) (IntKind.i64.wrap (e13 + 1))).length cz3)) (by kernel_rfl) (by rw [hE9]) ?_
              refine ge_same (t := 150) (v := (.slice Z3 m9.length cz3)) (v' := (.slice Z3 (m9.set ((z5).toNat) (IntKind.i64.wrap (e13 + 1))).length cz3)) (by kernel_rfl) (by rw [hE9]) ?_
              refine ge_nil fun a hF => hK54 _ _ ?_ a hF
              refine we_seq fun K55 hK55 => ?_
              refine we_seq fun K56 hK56 => ?_
              refine we_draws (by kernel_rfl) [(0, 0), (1, 0), (2, 0), (3, 0), (4, 0), (5, 0), (6, 0), (7, 0), (8, 0), (9, 0), (10, 0), (11, 0), (12, 0), (13, 0), (14, 0)] (by kernel_rfl) ?_
              have hS282 := hS281.drew
              refine ge_batch [0, 1] (ans := []) (vs := [(157, .int .i64 z5), (156, (.slice Z2 m8.length cz2))]) (l := []) (by kernel_rfl) trivial ?_
              rcases hx20 : m8[(z5).toNat]? with _ | e14
              · rw [hx20] at h; cases h
              rw [hx20] at h
              simp only [] at h
              refine ge_index (d := 158) (ty := 0) (t := 24) (el := 3) (sz := 1) (m := m8.length) (c := cz2) (x := (.tmp 156)) (y := (.tmp 157)) (A := Z2) (k' := .i64) (j := z5) (jn := ((z5).toNat)) (b0 := blkOf Z2) (o0 := offOf Z2) (by kernel_rfl) (by kernel_rfl) (by kernel_rfl) (by kernel_rfl) (by kernel_rfl) ((hS282.rdAt 5 rfl).eqSome (pos_of_get hx20)) (Int.toNat_of_nonneg hc30).symm (lt_of_get hx20) ?_
              refine ge_batch [3, 4, 5] (ans := [.val (.int .i64 e14)]) (vs := [(161, .int .i64 z5), (160, (.slice Z3 (m9.set ((z5).toNat) (IntKind.i64.wrap (e13 + 1))).length cz3)), (159, .int .i64 e14)]) (l := [.loaded ⟨blkOf Z2, offOf Z2 + ((z5).toNat) * 1, none⟩ (.int .i64 e14)]) (by kernel_rfl) ⟨RdL.cell (j := 0) (hS282.rdAt 5 rfl) hx20 rfl, trivial⟩ ?_
              rcases hx21 : (m9.set ((z5).toNat) (IntKind.i64.wrap (e13 + 1)))[(z5).toNat]? with _ | e15
              · rw [hx21] at h; cases h
              rw [hx21] at h
              simp only [] at h
              refine ge_index (d := 162) (ty := 0) (t := 24) (el := 3) (sz := 1) (m := (m9.set ((z5).toNat) (IntKind.i64.wrap (e13 + 1))).length) (c := cz3) (x := (.tmp 160)) (y := (.tmp 161)) (A := Z3) (k' := .i64) (j := z5) (jn := ((z5).toNat)) (b0 := blkOf Z3) (o0 := offOf Z3) (by kernel_rfl) (by kernel_rfl) (by kernel_rfl) (by kernel_rfl) (by kernel_rfl) ((hS282.rdAt 0 rfl).eqSome (pos_of_get hx21)) (Int.toNat_of_nonneg hc30).symm (lt_of_get hx21) ?_
              refine ge_batch [7, 8, 9, 10] (ans := [.val (.int .i64 e15)]) (vs := [(166, .int .i64 z5), (165, .slice A0 l0.length c0), (164, .int .i64 (IntKind.i64.wrap (e14 + e15))), (163, .int .i64 e15)]) (l := [.loaded ⟨blkOf Z3, offOf Z3 + ((z5).toNat) * 1, none⟩ (.int .i64 e15)]) (by kernel_rfl) ⟨RdL.cell (j := 0) (hS282.rdAt 0 rfl) hx21 rfl, trivial⟩ ?_
              rcases hx22 : l0[(z5).toNat]? with _ | e16
              · rw [hx22] at h; cases h
              rw [hx22] at h
              simp only [] at h
              refine ge_index (d := 167) (ty := 0) (t := 49) (el := 58) (sz := 5) (m := l0.length) (c := c0) (x := (.tmp 165)) (y := (.tmp 166)) (A := A0) (k' := .i64) (j := z5) (jn := ((z5).toNat)) (b0 := blkOf A0) (o0 := offOf A0) (by kernel_rfl) (by kernel_rfl) (by kernel_rfl) (by kernel_rfl) (by kernel_rfl) ((hS282.rd hR0).eqSome (pos_of_get hx22)) (Int.toNat_of_nonneg hc30).symm (lt_of_get hx22) ?_
              refine ge_batch [12, 13, 14] (ans := [.val (.int .i64 e16.C)]) (vs := [(170, .bool ((IntKind.i64.wrap (e14 + e15)) == e16.C)), (169, .int .i64 e16.C), (168, .pointer (some ⟨blkOf A0, offOf A0 + (z5).toNat * 5 + 2, none⟩))]) (l := [.loaded ⟨blkOf A0, offOf A0 + ((z5).toNat) * 5 + 2, none⟩ (.int .i64 e16.C)]) (by kernel_rfl) ⟨RdL.cell (j := 2) (hS282.rd hR0) hx22 rfl, trivial⟩ ?_
              refine ge_nil fun a hF => hK56 _ _ ?_ a hF
              by_cases hc31 : (IntKind.i64.wrap (e14 + e15)) = e16.C
              · rw [if_pos hc31] at h
                refine we_known (t := 170) (b := ((IntKind.i64.wrap (e14 + e15)) == e16.C)) (v := true) (by kernel_rfl) (beq_iff_eq.2 hc31) ?_
                refine we_true (by kernel_rfl) ?_
                refine we_region [(0, 0), (1, 0), (2, 0), (3, 0), (4, 0), (5, 0), (6, 2)] rfl ?_
                refine ge_batch [0, 1, 2, 3, 4] (ans := [.val ((.slice Z1 m11.length cz1))]) (vs := [(175, .int .i64 (IntKind.i64.wrap (z2 + 1))), (174, .int .i64 z2), (173, .int .i64 z5), (172, (.slice Z1 m11.length cz1)), (171, .pointer (some ⟨b4, 1, none⟩))]) (l := [.loaded ⟨b4, 1, none⟩ ((.slice Z1 m11.length cz1))]) (by kernel_rfl) ⟨hS282.cell 1 rfl rfl, trivial⟩ ?_
                rcases hx23 : m11[(z5).toNat]? with _ | e17
                · rw [hx23] at h; cases h
                rw [hx23] at h
                simp only [] at h
                refine ge_index (d := 176) (ty := 0) (t := 24) (el := 3) (sz := 1) (m := m11.length) (c := cz1) (x := (.tmp 172)) (y := (.tmp 173)) (A := Z1) (k' := .i64) (j := z5) (jn := ((z5).toNat)) (b0 := blkOf Z1) (o0 := offOf Z1) (by kernel_rfl) (by kernel_rfl) (by kernel_rfl) (by kernel_rfl) (by kernel_rfl) ((hS282.rdAt 6 rfl).eqSome (pos_of_get hx23)) (Int.toNat_of_nonneg hc30).symm (lt_of_get hx23) ?_
                have hS283 := hS282.bring 6 rfl
                refine ge_seti (α := Int) (A := Z1) (nn := m11.length) (c := cz1) (t := 3) (l := m11) (x := e17) (x' := (IntKind.i64.wrap (z2 + 1))) (jn := ((z5).toNat)) (j := 0) (vs := [.int .i64 (IntKind.i64.wrap (z2 + 1))]) (l' := [.stored ⟨blkOf Z1, offOf Z1 + ((z5).toNat) * 1, none⟩ (.int .i64 (IntKind.i64.wrap (z2 + 1)))]) hS283 (by kernel_rfl) (by kernel_rfl) hx23 rfl rfl rfl fun w50 hS284 => ?_
                have hS285 : St w0 w50 [Own.of (.slice Z1 m11.length cz1) 3 (m11.set ((z5).toNat) (IntKind.i64.wrap (z2 + 1))), Own.of (.slice Z3 (m9.set ((z5).toNat) (IntKind.i64.wrap (e13 + 1))).length cz3) 3 (m9.set ((z5).toNat) (IntKind.i64.wrap (e13 + 1))), Own.blk b4 (.cells #[(.slice Z5 (m10 ++ [z5]).length cz5), (.slice Z1 m11.length cz1)] 36 (0, 0)), Own.of (.slice Z5 (m10 ++ [z5]).length cz5) 3 (m10 ++ [z5]), Own.blk b2 (.cells #[.int .i64 0, .int .i64 0] 39 (0, 0)), Own.blk b1 (.cells #[.slice none 0 0, .slice none 0 0] 36 (0, 0)), Own.of (.slice Z2 m8.length cz2) 3 m8] := hS284
                have hE10 : m11.length = (m11.set ((z5).toNat) (IntKind.i64.wrap (z2 + 1))).length := hS285.lenAt 0 rfl
                have hS286 : St w0 w50 [Own.of (.slice Z1 (m11.set ((z5).toNat) (IntKind.i64.wrap (z2 + 1))).length cz1) 3 (m11.set ((z5).toNat) (IntKind.i64.wrap (z2 + 1))), Own.of (.slice Z3 (m9.set ((z5).toNat) (IntKind.i64.wrap (e13 + 1))).length cz3) 3 (m9.set ((z5).toNat) (IntKind.i64.wrap (e13 + 1))), Own.blk b4 (.cells #[(.slice Z5 (m10 ++ [z5]).length cz5), (.slice Z1 (m11.set ((z5).toNat) (IntKind.i64.wrap (z2 + 1))).length cz1)] 36 (0, 0)), Own.of (.slice Z5 (m10 ++ [z5]).length cz5) 3 (m10 ++ [z5]), Own.blk b2 (.cells #[.int .i64 0, .int .i64 0] 39 (0, 0)), Own.blk b1 (.cells #[.slice none 0 0, .slice none 0 0] 36 (0, 0)), Own.of (.slice Z2 m8.length cz2) 3 m8] := by rw [← hE10]; exact hS285
                refine ge_same (t := 172) (v := (.slice Z1 m11.length cz1)) (v' := (.slice Z1 (m11.set ((z5).toNat) (IntKind.i64.wrap (z2 + 1))).length cz1)) (by kernel_rfl) (by rw [hE10]) ?_
                refine ge_nil fun a hF => hK55 _ _ ?_ a hF
                refine we_seq fun K57 hK57 => ?_
                refine we_region [(0, 0), (1, 0), (2, 0), (3, 0), (4, 0), (5, 0)] rfl ?_
                refine ge_batch [0, 1] (ans := []) (vs := [(178, .int .i64 z5), (177, (.slice Z3 (m9.set ((z5).toNat) (IntKind.i64.wrap (e13 + 1))).length cz3))]) (l := []) (by kernel_rfl) trivial ?_
                refine ge_index (d := 179) (ty := 0) (t := 24) (el := 3) (sz := 1) (m := (m9.set ((z5).toNat) (IntKind.i64.wrap (e13 + 1))).length) (c := cz3) (x := (.tmp 177)) (y := (.tmp 178)) (A := Z3) (k' := .i64) (j := z5) (jn := ((z5).toNat)) (b0 := blkOf Z3) (o0 := offOf Z3) (by kernel_rfl) (by kernel_rfl) (by kernel_rfl) (by kernel_rfl) (by kernel_rfl) ((hS286.rdAt 1 rfl).eqSome (pos_of_get hx21)) (Int.toNat_of_nonneg hc30).symm (lt_of_get hx21) ?_
                refine ge_batch [3, 4, 5] (ans := [.val (.int .i64 e15)]) (vs := [(182, .bool (e15 == x1)), (181, .int .i64 x1), (180, .int .i64 e15)]) (l := [.loaded ⟨blkOf Z3, offOf Z3 + ((z5).toNat) * 1, none⟩ (.int .i64 e15)]) (by kernel_rfl) ⟨RdL.cell (j := 0) (hS286.rdAt 1 rfl) hx21 rfl, trivial⟩ ?_
                refine ge_nil fun a hF => hK57 _ _ ?_ a hF
                by_cases hc32 : e15 = x1
                · rw [if_pos hc32] at h
                  refine we_known (t := 182) (b := (e15 == x1)) (v := true) (by kernel_rfl) (beq_iff_eq.2 hc32) ?_
                  refine we_true (by kernel_rfl) ?_
                  refine we_region [(0, 0), (1, 0), (2, 0), (3, 0), (4, 0), (5, 0), (6, 0), (7, 0), (8, 0), (9, 0), (10, 0), (11, 2), (12, 0), (13, 2)] rfl ?_
                  refine ge_batch [0, 1, 2, 3, 4, 5] (ans := []) (vs := [(188, .int .i64 z5), (187, (.slice Z2 m8.length cz2)), (186, .int .i64 z5), (185, (.slice Z3 (m9.set ((z5).toNat) (IntKind.i64.wrap (e13 + 1))).length cz3)), (184, .int .i64 z5), (183, (.slice Z2 m8.length cz2))]) (l := []) (by kernel_rfl) trivial ?_
                  refine ge_index (d := 189) (ty := 0) (t := 24) (el := 3) (sz := 1) (m := m8.length) (c := cz2) (x := (.tmp 187)) (y := (.tmp 188)) (A := Z2) (k' := .i64) (j := z5) (jn := ((z5).toNat)) (b0 := blkOf Z2) (o0 := offOf Z2) (by kernel_rfl) (by kernel_rfl) (by kernel_rfl) (by kernel_rfl) (by kernel_rfl) ((hS286.rdAt 6 rfl).eqSome (pos_of_get hx20)) (Int.toNat_of_nonneg hc30).symm (lt_of_get hx20) ?_
                  refine ge_batch [7, 8, 9] (ans := [.val (.int .i64 e14)]) (vs := [(192, .int .i64 (IntKind.i64.wrap (e14 + x1))), (191, .int .i64 x1), (190, .int .i64 e14)]) (l := [.loaded ⟨blkOf Z2, offOf Z2 + ((z5).toNat) * 1, none⟩ (.int .i64 e14)]) (by kernel_rfl) ⟨RdL.cell (j := 0) (hS286.rdAt 6 rfl) hx20 rfl, trivial⟩ ?_
                  refine ge_index (d := 193) (ty := 0) (t := 24) (el := 3) (sz := 1) (m := m8.length) (c := cz2) (x := (.tmp 183)) (y := (.tmp 184)) (A := Z2) (k' := .i64) (j := z5) (jn := ((z5).toNat)) (b0 := blkOf Z2) (o0 := offOf Z2) (by kernel_rfl) (by kernel_rfl) (by kernel_rfl) (by kernel_rfl) (by kernel_rfl) ((hS286.rdAt 6 rfl).eqSome (pos_of_get hx20)) (Int.toNat_of_nonneg hc30).symm (lt_of_get hx20) ?_
                  have hS287 := hS286.bring 6 rfl
                  refine ge_seti (α := Int) (A := Z2) (nn := m8.length) (c := cz2) (t := 3) (l := m8) (x := e14) (x' := (IntKind.i64.wrap (e14 + x1))) (jn := ((z5).toNat)) (j := 0) (vs := [.int .i64 (IntKind.i64.wrap (e14 + x1))]) (l' := [.stored ⟨blkOf Z2, offOf Z2 + ((z5).toNat) * 1, none⟩ (.int .i64 (IntKind.i64.wrap (e14 + x1)))]) hS287 (by kernel_rfl) (by kernel_rfl) hx20 rfl rfl rfl fun w51 hS288 => ?_
                  have hS289 : St w0 w51 [Own.of (.slice Z2 m8.length cz2) 3 (m8.set ((z5).toNat) (IntKind.i64.wrap (e14 + x1))), Own.of (.slice Z1 (m11.set ((z5).toNat) (IntKind.i64.wrap (z2 + 1))).length cz1) 3 (m11.set ((z5).toNat) (IntKind.i64.wrap (z2 + 1))), Own.of (.slice Z3 (m9.set ((z5).toNat) (IntKind.i64.wrap (e13 + 1))).length cz3) 3 (m9.set ((z5).toNat) (IntKind.i64.wrap (e13 + 1))), Own.blk b4 (.cells #[(.slice Z5 (m10 ++ [z5]).length cz5), (.slice Z1 (m11.set ((z5).toNat) (IntKind.i64.wrap (z2 + 1))).length cz1)] 36 (0, 0)), Own.of (.slice Z5 (m10 ++ [z5]).length cz5) 3 (m10 ++ [z5]), Own.blk b2 (.cells #[.int .i64 0, .int .i64 0] 39 (0, 0)), Own.blk b1 (.cells #[.slice none 0 0, .slice none 0 0] 36 (0, 0))] := hS288
                  have hE11 : m8.length = (m8.set ((z5).toNat) (IntKind.i64.wrap (e14 + x1))).length := hS289.lenAt 0 rfl
                  have hS290 : St w0 w51 [Own.of (.slice Z2 (m8.set ((z5).toNat) (IntKind.i64.wrap (e14 + x1))).length cz2) 3 (m8.set ((z5).toNat) (IntKind.i64.wrap (e14 + x1))), Own.of (.slice Z1 (m11.set ((z5).toNat) (IntKind.i64.wrap (z2 + 1))).length cz1) 3 (m11.set ((z5).toNat) (IntKind.i64.wrap (z2 + 1))), Own.of (.slice Z3 (m9.set ((z5).toNat) (IntKind.i64.wrap (e13 + 1))).length cz3) 3 (m9.set ((z5).toNat) (IntKind.i64.wrap (e13 + 1))), Own.blk b4 (.cells #[(.slice Z5 (m10 ++ [z5]).length cz5), (.slice Z1 (m11.set ((z5).toNat) (IntKind.i64.wrap (z2 + 1))).length cz1)] 36 (0, 0)), Own.of (.slice Z5 (m10 ++ [z5]).length cz5) 3 (m10 ++ [z5]), Own.blk b2 (.cells #[.int .i64 0, .int .i64 0] 39 (0, 0)), Own.blk b1 (.cells #[.slice none 0 0, .slice none 0 0] 36 (0, 0))] := by rw [← hE11]; exact hS289
                  refine ge_same (t := 12) (v := (.slice Z2 m8.length cz2)) (v' := (.slice Z2 (m8.set ((z5).toNat) (IntKind.i64.wrap (e14 + x1))).length cz2)) (by kernel_rfl) (by rw [hE11]) ?_
                  refine ge_same (t := 156) (v := (.slice Z2 m8.length cz2)) (v' := (.slice Z2 (m8.set ((z5).toNat) (IntKind.i64.wrap (e14 + x1))).length cz2)) (by kernel_rfl) (by rw [hE11]) ?_
                  refine ge_same (t := 183) (v := (.slice Z2 m8.length cz2)) (v' := (.slice Z2 (m8.set ((z5).toNat) (IntKind.i64.wrap (e14 + x1))).length cz2)) (by kernel_rfl) (by rw [hE11]) ?_
                  refine ge_same (t := 187) (v := (.slice Z2 m8.length cz2)) (v' := (.slice Z2 (m8.set ((z5).toNat) (IntKind.i64.wrap (e14 + x1))).length cz2)) (by kernel_rfl) (by rw [hE11]) ?_
                  refine ge_index (d := 194) (ty := 0) (t := 24) (el := 3) (sz := 1) (m := (m9.set ((z5).toNat) (IntKind.i64.wrap (e13 + 1))).length) (c := cz3) (x := (.tmp 185)) (y := (.tmp 186)) (A := Z3) (k' := .i64) (j := z5) (jn := ((z5).toNat)) (b0 := blkOf Z3) (o0 := offOf Z3) (by kernel_rfl) (by kernel_rfl) (by kernel_rfl) (by kernel_rfl) (by kernel_rfl) ((hS290.rdAt 2 rfl).eqSome (pos_of_get hx21)) (Int.toNat_of_nonneg hc30).symm (lt_of_get hx21) ?_
                  have hS291 := hS290.bring 2 rfl
                  refine ge_seti (α := Int) (A := Z3) (nn := ((m9.set ((z5).toNat) (IntKind.i64.wrap (e13 + 1))).length)) (c := cz3) (t := 3) (l := (m9.set ((z5).toNat) (IntKind.i64.wrap (e13 + 1)))) (x := e15) (x' := 0) (jn := ((z5).toNat)) (j := 0) (vs := [.int .i64 0]) (l' := [.stored ⟨blkOf Z3, offOf Z3 + ((z5).toNat) * 1, none⟩ (.int .i64 0)]) hS291 (by kernel_rfl) (by kernel_rfl) hx21 rfl rfl rfl fun w52 hS292 => ?_
                  have hS293 : St w0 w52 [Own.of (.slice Z3 (m9.set ((z5).toNat) (IntKind.i64.wrap (e13 + 1))).length cz3) 3 ((m9.set ((z5).toNat) (IntKind.i64.wrap (e13 + 1))).set ((z5).toNat) 0), Own.of (.slice Z2 (m8.set ((z5).toNat) (IntKind.i64.wrap (e14 + x1))).length cz2) 3 (m8.set ((z5).toNat) (IntKind.i64.wrap (e14 + x1))), Own.of (.slice Z1 (m11.set ((z5).toNat) (IntKind.i64.wrap (z2 + 1))).length cz1) 3 (m11.set ((z5).toNat) (IntKind.i64.wrap (z2 + 1))), Own.blk b4 (.cells #[(.slice Z5 (m10 ++ [z5]).length cz5), (.slice Z1 (m11.set ((z5).toNat) (IntKind.i64.wrap (z2 + 1))).length cz1)] 36 (0, 0)), Own.of (.slice Z5 (m10 ++ [z5]).length cz5) 3 (m10 ++ [z5]), Own.blk b2 (.cells #[.int .i64 0, .int .i64 0] 39 (0, 0)), Own.blk b1 (.cells #[.slice none 0 0, .slice none 0 0] 36 (0, 0))] := hS292
                  have hE12 : (m9.set ((z5).toNat) (IntKind.i64.wrap (e13 + 1))).length = ((m9.set ((z5).toNat) (IntKind.i64.wrap (e13 + 1))).set ((z5).toNat) 0).length := hS293.lenAt 0 rfl
                  have hS294 : St w0 w52 [Own.of (.slice Z3 ((m9.set ((z5).toNat) (IntKind.i64.wrap (e13 + 1))).set ((z5).toNat) 0).length cz3) 3 ((m9.set ((z5).toNat) (IntKind.i64.wrap (e13 + 1))).set ((z5).toNat) 0), Own.of (.slice Z2 (m8.set ((z5).toNat) (IntKind.i64.wrap (e14 + x1))).length cz2) 3 (m8.set ((z5).toNat) (IntKind.i64.wrap (e14 + x1))), Own.of (.slice Z1 (m11.set ((z5).toNat) (IntKind.i64.wrap (z2 + 1))).length cz1) 3 (m11.set ((z5).toNat) (IntKind.i64.wrap (z2 + 1))), Own.blk b4 (.cells #[(.slice Z5 (m10 ++ [z5]).length cz5), (.slice Z1 (m11.set ((z5).toNat) (IntKind.i64.wrap (z2 + 1))).length cz1)] 36 (0, 0)), Own.of (.slice Z5 (m10 ++ [z5]).length cz5) 3 (m10 ++ [z5]), Own.blk b2 (.cells #[.int .i64 0, .int .i64 0] 39 (0, 0)), Own.blk b1 (.cells #[.slice none 0 0, .slice none 0 0] 36 (0, 0))] := by rw [← hE12]; exact hS293
                  refine ge_same (t := 13) (v := (.slice Z3 (m9.set ((z5).toNat) (IntKind.i64.wrap (e13 + 1))).length cz3)) (v' := (.slice Z3 ((m9.set ((z5).toNat) (IntKind.i64.wrap (e13 + 1))).set ((z5).toNat) 0).length cz3)) (by kernel_rfl) (by rw [hE12]) ?_
                  refine ge_same (t := 150) (v := (.slice Z3 (m9.set ((z5).toNat) (IntKind.i64.wrap (e13 + 1))).length cz3)) (v' := (.slice Z3 ((m9.set ((z5).toNat) (IntKind.i64.wrap (e13 + 1))).set ((z5).toNat) 0).length cz3)) (by kernel_rfl) (by rw [hE12]) ?_
                  refine ge_same (t := 160) (v := (.slice Z3 (m9.set ((z5).toNat) (IntKind.i64.wrap (e13 + 1))).length cz3)) (v' := (.slice Z3 ((m9.set ((z5).toNat) (IntKind.i64.wrap (e13 + 1))).set ((z5).toNat) 0).length cz3)) (by kernel_rfl) (by rw [hE12]) ?_
                  refine ge_same (t := 177) (v := (.slice Z3 (m9.set ((z5).toNat) (IntKind.i64.wrap (e13 + 1))).length cz3)) (v' := (.slice Z3 ((m9.set ((z5).toNat) (IntKind.i64.wrap (e13 + 1))).set ((z5).toNat) 0).length cz3)) (by kernel_rfl) (by rw [hE12]) ?_
                  refine ge_same (t := 185) (v := (.slice Z3 (m9.set ((z5).toNat) (IntKind.i64.wrap (e13 + 1))).length cz3)) (v' := (.slice Z3 ((m9.set ((z5).toNat) (IntKind.i64.wrap (e13 + 1))).set ((z5).toNat) 0).length cz3)) (by kernel_rfl) (by rw [hE12]) ?_
                  refine ge_nil fun a hF => hK33 _ _ ?_ a hF
                  refine we_region [(0, 0), (1, 0), (2, 0)] rfl ?_
                  refine ge_batch [0, 1, 2] (ans := []) (vs := [(16, .int .i64 (IntKind.i64.wrap (z2 + 1))), (92, .int .i64 (IntKind.i64.wrap (z2 + 1))), (91, .int .i64 z2)]) (l := []) (by kernel_rfl) trivial ?_
                  have hS295 := hS294.bring 2 rfl
                  have hS296 := hS295.bring 4 rfl
                  have hS297 := hS296.bring 2 rfl
                  have hS298 := hS297.bring 3 rfl
                  have hS299 := hS298.bring 6 rfl
                  have hS300 := hS299.bring 6 rfl
                  have hS301 := hS300.bring 6 rfl
                  obtain rfl := Option.some.inj h
                  exact ge_nil fun a hF => hQ _ _ _ (Outs.again ⟨(.slice Z5 (m10 ++ [z5]).length cz5), hS301, hF.weaken ⟨by kernel_rfl, by kernel_rfl, by kernel_rfl, by kernel_rfl, by kernel_rfl, by kernel_rfl, by kernel_rfl, by kernel_rfl, by kernel_rfl, by kernel_rfl, trivial⟩⟩)
                · rw [if_neg hc32] at h
                  refine we_known (t := 182) (b := (e15 == x1)) (v := false) (by kernel_rfl) (beq_eq_false_iff_ne.2 hc32) ?_
                  refine we_false (by kernel_rfl) ?_
                  refine we_skip fun a hF => hK33 _ _ ?_ a hF
                  refine we_region [(0, 0), (1, 0), (2, 0)] rfl ?_
                  refine ge_batch [0, 1, 2] (ans := []) (vs := [(16, .int .i64 (IntKind.i64.wrap (z2 + 1))), (92, .int .i64 (IntKind.i64.wrap (z2 + 1))), (91, .int .i64 z2)]) (l := []) (by kernel_rfl) trivial ?_
                  have hS302 := hS286.bring 3 rfl
                  have hS303 := hS302.bring 2 rfl
                  have hS304 := hS303.bring 6 rfl
                  have hS305 := hS304.bring 6 rfl
                  have hS306 := hS305.bring 6 rfl
                  have hS307 := hS306.bring 6 rfl
                  obtain rfl := Option.some.inj h
                  exact ge_nil fun a hF => hQ _ _ _ (Outs.again ⟨(.slice Z5 (m10 ++ [z5]).length cz5), hS307, hF.weaken ⟨by kernel_rfl, by kernel_rfl, by kernel_rfl, by kernel_rfl, by kernel_rfl, by kernel_rfl, by kernel_rfl, by kernel_rfl, by kernel_rfl, by kernel_rfl, trivial⟩⟩)
              · rw [if_neg hc31] at h
                refine we_known (t := 170) (b := ((IntKind.i64.wrap (e14 + e15)) == e16.C)) (v := false) (by kernel_rfl) (beq_eq_false_iff_ne.2 hc31) ?_
                refine we_false (by kernel_rfl) ?_
                refine we_skip fun a hF => hK55 _ _ ?_ a hF
                refine we_seq fun K58 hK58 => ?_
                refine we_region [(0, 0), (1, 0), (2, 0), (3, 0), (4, 0), (5, 0)] rfl ?_
                refine ge_batch [0, 1] (ans := []) (vs := [(178, .int .i64 z5), (177, (.slice Z3 (m9.set ((z5).toNat) (IntKind.i64.wrap (e13 + 1))).length cz3))]) (l := []) (by kernel_rfl) trivial ?_
                refine ge_index (d := 179) (ty := 0) (t := 24) (el := 3) (sz := 1) (m := (m9.set ((z5).toNat) (IntKind.i64.wrap (e13 + 1))).length) (c := cz3) (x := (.tmp 177)) (y := (.tmp 178)) (A := Z3) (k' := .i64) (j := z5) (jn := ((z5).toNat)) (b0 := blkOf Z3) (o0 := offOf Z3) (by kernel_rfl) (by kernel_rfl) (by kernel_rfl) (by kernel_rfl) (by kernel_rfl) ((hS282.rdAt 0 rfl).eqSome (pos_of_get hx21)) (Int.toNat_of_nonneg hc30).symm (lt_of_get hx21) ?_
                refine ge_batch [3, 4, 5] (ans := [.val (.int .i64 e15)]) (vs := [(182, .bool (e15 == x1)), (181, .int .i64 x1), (180, .int .i64 e15)]) (l := [.loaded ⟨blkOf Z3, offOf Z3 + ((z5).toNat) * 1, none⟩ (.int .i64 e15)]) (by kernel_rfl) ⟨RdL.cell (j := 0) (hS282.rdAt 0 rfl) hx21 rfl, trivial⟩ ?_
                refine ge_nil fun a hF => hK58 _ _ ?_ a hF
                by_cases hc33 : e15 = x1
                · rw [if_pos hc33] at h
                  refine we_known (t := 182) (b := (e15 == x1)) (v := true) (by kernel_rfl) (beq_iff_eq.2 hc33) ?_
                  refine we_true (by kernel_rfl) ?_
                  refine we_region [(0, 0), (1, 0), (2, 0), (3, 0), (4, 0), (5, 0), (6, 0), (7, 0), (8, 0), (9, 0), (10, 0), (11, 2), (12, 0), (13, 2)] rfl ?_
                  refine ge_batch [0, 1, 2, 3, 4, 5] (ans := []) (vs := [(188, .int .i64 z5), (187, (.slice Z2 m8.length cz2)), (186, .int .i64 z5), (185, (.slice Z3 (m9.set ((z5).toNat) (IntKind.i64.wrap (e13 + 1))).length cz3)), (184, .int .i64 z5), (183, (.slice Z2 m8.length cz2))]) (l := []) (by kernel_rfl) trivial ?_
                  refine ge_index (d := 189) (ty := 0) (t := 24) (el := 3) (sz := 1) (m := m8.length) (c := cz2) (x := (.tmp 187)) (y := (.tmp 188)) (A := Z2) (k' := .i64) (j := z5) (jn := ((z5).toNat)) (b0 := blkOf Z2) (o0 := offOf Z2) (by kernel_rfl) (by kernel_rfl) (by kernel_rfl) (by kernel_rfl) (by kernel_rfl) ((hS282.rdAt 5 rfl).eqSome (pos_of_get hx20)) (Int.toNat_of_nonneg hc30).symm (lt_of_get hx20) ?_
                  refine ge_batch [7, 8, 9] (ans := [.val (.int .i64 e14)]) (vs := [(192, .int .i64 (IntKind.i64.wrap (e14 + x1))), (191, .int .i64 x1), (190, .int .i64 e14)]) (l := [.loaded ⟨blkOf Z2, offOf Z2 + ((z5).toNat) * 1, none⟩ (.int .i64 e14)]) (by kernel_rfl) ⟨RdL.cell (j := 0) (hS282.rdAt 5 rfl) hx20 rfl, trivial⟩ ?_
                  refine ge_index (d := 193) (ty := 0) (t := 24) (el := 3) (sz := 1) (m := m8.length) (c := cz2) (x := (.tmp 183)) (y := (.tmp 184)) (A := Z2) (k' := .i64) (j := z5) (jn := ((z5).toNat)) (b0 := blkOf Z2) (o0 := offOf Z2) (by kernel_rfl) (by kernel_rfl) (by kernel_rfl) (by kernel_rfl) (by kernel_rfl) ((hS282.rdAt 5 rfl).eqSome (pos_of_get hx20)) (Int.toNat_of_nonneg hc30).symm (lt_of_get hx20) ?_
                  have hS308 := hS282.bring 5 rfl
                  refine ge_seti (α := Int) (A := Z2) (nn := m8.length) (c := cz2) (t := 3) (l := m8) (x := e14) (x' := (IntKind.i64.wrap (e14 + x1))) (jn := ((z5).toNat)) (j := 0) (vs := [.int .i64 (IntKind.i64.wrap (e14 + x1))]) (l' := [.stored ⟨blkOf Z2, offOf Z2 + ((z5).toNat) * 1, none⟩ (.int .i64 (IntKind.i64.wrap (e14 + x1)))]) hS308 (by kernel_rfl) (by kernel_rfl) hx20 rfl rfl rfl fun w53 hS309 => ?_
                  have hS310 : St w0 w53 [Own.of (.slice Z2 m8.length cz2) 3 (m8.set ((z5).toNat) (IntKind.i64.wrap (e14 + x1))), Own.of (.slice Z3 (m9.set ((z5).toNat) (IntKind.i64.wrap (e13 + 1))).length cz3) 3 (m9.set ((z5).toNat) (IntKind.i64.wrap (e13 + 1))), Own.blk b4 (.cells #[(.slice Z5 (m10 ++ [z5]).length cz5), (.slice Z1 m11.length cz1)] 36 (0, 0)), Own.of (.slice Z5 (m10 ++ [z5]).length cz5) 3 (m10 ++ [z5]), Own.blk b2 (.cells #[.int .i64 0, .int .i64 0] 39 (0, 0)), Own.blk b1 (.cells #[.slice none 0 0, .slice none 0 0] 36 (0, 0)), Own.of (.slice Z1 m11.length cz1) 3 m11] := hS309
                  have hE13 : m8.length = (m8.set ((z5).toNat) (IntKind.i64.wrap (e14 + x1))).length := hS310.lenAt 0 rfl
                  have hS311 : St w0 w53 [Own.of (.slice Z2 (m8.set ((z5).toNat) (IntKind.i64.wrap (e14 + x1))).length cz2) 3 (m8.set ((z5).toNat) (IntKind.i64.wrap (e14 + x1))), Own.of (.slice Z3 (m9.set ((z5).toNat) (IntKind.i64.wrap (e13 + 1))).length cz3) 3 (m9.set ((z5).toNat) (IntKind.i64.wrap (e13 + 1))), Own.blk b4 (.cells #[(.slice Z5 (m10 ++ [z5]).length cz5), (.slice Z1 m11.length cz1)] 36 (0, 0)), Own.of (.slice Z5 (m10 ++ [z5]).length cz5) 3 (m10 ++ [z5]), Own.blk b2 (.cells #[.int .i64 0, .int .i64 0] 39 (0, 0)), Own.blk b1 (.cells #[.slice none 0 0, .slice none 0 0] 36 (0, 0)), Own.of (.slice Z1 m11.length cz1) 3 m11] := by rw [← hE13]; exact hS310
                  refine ge_same (t := 12) (v := (.slice Z2 m8.length cz2)) (v' := (.slice Z2 (m8.set ((z5).toNat) (IntKind.i64.wrap (e14 + x1))).length cz2)) (by kernel_rfl) (by rw [hE13]) ?_
                  refine ge_same (t := 156) (v := (.slice Z2 m8.length cz2)) (v' := (.slice Z2 (m8.set ((z5).toNat) (IntKind.i64.wrap (e14 + x1))).length cz2)) (by kernel_rfl) (by rw [hE13]) ?_
                  refine ge_same (t := 183) (v := (.slice Z2 m8.length cz2)) (v' := (.slice Z2 (m8.set ((z5).toNat) (IntKind.i64.wrap (e14 + x1))).length cz2)) (by kernel_rfl) (by rw [hE13]) ?_
                  refine ge_same (t := 187) (v := (.slice Z2 m8.length cz2)) (v' := (.slice Z2 (m8.set ((z5).toNat) (IntKind.i64.wrap (e14 + x1))).length cz2)) (by kernel_rfl) (by rw [hE13]) ?_
                  refine ge_index (d := 194) (ty := 0) (t := 24) (el := 3) (sz := 1) (m := (m9.set ((z5).toNat) (IntKind.i64.wrap (e13 + 1))).length) (c := cz3) (x := (.tmp 185)) (y := (.tmp 186)) (A := Z3) (k' := .i64) (j := z5) (jn := ((z5).toNat)) (b0 := blkOf Z3) (o0 := offOf Z3) (by kernel_rfl) (by kernel_rfl) (by kernel_rfl) (by kernel_rfl) (by kernel_rfl) ((hS311.rdAt 1 rfl).eqSome (pos_of_get hx21)) (Int.toNat_of_nonneg hc30).symm (lt_of_get hx21) ?_
                  have hS312 := hS311.bring 1 rfl
                  refine ge_seti (α := Int) (A := Z3) (nn := ((m9.set ((z5).toNat) (IntKind.i64.wrap (e13 + 1))).length)) (c := cz3) (t := 3) (l := (m9.set ((z5).toNat) (IntKind.i64.wrap (e13 + 1)))) (x := e15) (x' := 0) (jn := ((z5).toNat)) (j := 0) (vs := [.int .i64 0]) (l' := [.stored ⟨blkOf Z3, offOf Z3 + ((z5).toNat) * 1, none⟩ (.int .i64 0)]) hS312 (by kernel_rfl) (by kernel_rfl) hx21 rfl rfl rfl fun w54 hS313 => ?_
                  have hS314 : St w0 w54 [Own.of (.slice Z3 (m9.set ((z5).toNat) (IntKind.i64.wrap (e13 + 1))).length cz3) 3 ((m9.set ((z5).toNat) (IntKind.i64.wrap (e13 + 1))).set ((z5).toNat) 0), Own.of (.slice Z2 (m8.set ((z5).toNat) (IntKind.i64.wrap (e14 + x1))).length cz2) 3 (m8.set ((z5).toNat) (IntKind.i64.wrap (e14 + x1))), Own.blk b4 (.cells #[(.slice Z5 (m10 ++ [z5]).length cz5), (.slice Z1 m11.length cz1)] 36 (0, 0)), Own.of (.slice Z5 (m10 ++ [z5]).length cz5) 3 (m10 ++ [z5]), Own.blk b2 (.cells #[.int .i64 0, .int .i64 0] 39 (0, 0)), Own.blk b1 (.cells #[.slice none 0 0, .slice none 0 0] 36 (0, 0)), Own.of (.slice Z1 m11.length cz1) 3 m11] := hS313
                  have hE14 : (m9.set ((z5).toNat) (IntKind.i64.wrap (e13 + 1))).length = ((m9.set ((z5).toNat) (IntKind.i64.wrap (e13 + 1))).set ((z5).toNat) 0).length := hS314.lenAt 0 rfl
                  have hS315 : St w0 w54 [Own.of (.slice Z3 ((m9.set ((z5).toNat) (IntKind.i64.wrap (e13 + 1))).set ((z5).toNat) 0).length cz3) 3 ((m9.set ((z5).toNat) (IntKind.i64.wrap (e13 + 1))).set ((z5).toNat) 0), Own.of (.slice Z2 (m8.set ((z5).toNat) (IntKind.i64.wrap (e14 + x1))).length cz2) 3 (m8.set ((z5).toNat) (IntKind.i64.wrap (e14 + x1))), Own.blk b4 (.cells #[(.slice Z5 (m10 ++ [z5]).length cz5), (.slice Z1 m11.length cz1)] 36 (0, 0)), Own.of (.slice Z5 (m10 ++ [z5]).length cz5) 3 (m10 ++ [z5]), Own.blk b2 (.cells #[.int .i64 0, .int .i64 0] 39 (0, 0)), Own.blk b1 (.cells #[.slice none 0 0, .slice none 0 0] 36 (0, 0)), Own.of (.slice Z1 m11.length cz1) 3 m11] := by rw [← hE14]; exact hS314
                  refine ge_same (t := 13) (v := (.slice Z3 (m9.set ((z5).toNat) (IntKind.i64.wrap (e13 + 1))).length cz3)) (v' := (.slice Z3 ((m9.set ((z5).toNat) (IntKind.i64.wrap (e13 + 1))).set ((z5).toNat) 0).length cz3)) (by kernel_rfl) (by rw [hE14]) ?_
                  refine ge_same (t := 150) (v := (.slice Z3 (m9.set ((z5).toNat) (IntKind.i64.wrap (e13 + 1))).length cz3)) (v' := (.slice Z3 ((m9.set ((z5).toNat) (IntKind.i64.wrap (e13 + 1))).set ((z5).toNat) 0).length cz3)) (by kernel_rfl) (by rw [hE14]) ?_
                  refine ge_same (t := 160) (v := (.slice Z3 (m9.set ((z5).toNat) (IntKind.i64.wrap (e13 + 1))).length cz3)) (v' := (.slice Z3 ((m9.set ((z5).toNat) (IntKind.i64.wrap (e13 + 1))).set ((z5).toNat) 0).length cz3)) (by kernel_rfl) (by rw [hE14]) ?_
                  refine ge_same (t := 177) (v := (.slice Z3 (m9.set ((z5).toNat) (IntKind.i64.wrap (e13 + 1))).length cz3)) (v' := (.slice Z3 ((m9.set ((z5).toNat) (IntKind.i64.wrap (e13 + 1))).set ((z5).toNat) 0).length cz3)) (by kernel_rfl) (by rw [hE14]) ?_
                  refine ge_same (t := 185) (v := (.slice Z3 (m9.set ((z5).toNat) (IntKind.i64.wrap (e13 + 1))).length cz3)) (v' := (.slice Z3 ((m9.set ((z5).toNat) (IntKind.i64.wrap (e13 + 1))).set ((z5).toNat) 0).length cz3)) (by kernel_rfl) (by rw [hE14]) ?_
                  refine ge_nil fun a hF => hK33 _ _ ?_ a hF
                  refine we_region [(0, 0), (1, 0), (2, 0)] rfl ?_
                  refine ge_batch [0, 1, 2] (ans := []) (vs := [(16, .int .i64 (IntKind.i64.wrap (z2 + 1))), (92, .int .i64 (IntKind.i64.wrap (z2 + 1))), (91, .int .i64 z2)]) (l := []) (by kernel_rfl) trivial ?_
                  have hS316 := hS315.bring 6 rfl
                  have hS317 := hS316.bring 4 rfl
                  have hS318 := hS317.bring 2 rfl
                  have hS319 := hS318.bring 3 rfl
                  have hS320 := hS319.bring 6 rfl
                  have hS321 := hS320.bring 6 rfl
                  have hS322 := hS321.bring 6 rfl
                  obtain rfl := Option.some.inj h
                  exact ge_nil fun a hF => hQ _ _ _ (Outs.again ⟨(.slice Z5 (m10 ++ [z5]).length cz5), hS322, hF.weaken ⟨by kernel_rfl, by kernel_rfl, by kernel_rfl, by kernel_rfl, by kernel_rfl, by kernel_rfl, by kernel_rfl, by kernel_rfl, by kernel_rfl, by kernel_rfl, trivial⟩⟩)
                · rw [if_neg hc33] at h
                  refine we_known (t := 182) (b := (e15 == x1)) (v := false) (by kernel_rfl) (beq_eq_false_iff_ne.2 hc33) ?_
                  refine we_false (by kernel_rfl) ?_
                  refine we_skip fun a hF => hK33 _ _ ?_ a hF
                  refine we_region [(0, 0), (1, 0), (2, 0)] rfl ?_
                  refine ge_batch [0, 1, 2] (ans := []) (vs := [(16, .int .i64 (IntKind.i64.wrap (z2 + 1))), (92, .int .i64 (IntKind.i64.wrap (z2 + 1))), (91, .int .i64 z2)]) (l := []) (by kernel_rfl) trivial ?_
                  have hS323 := hS282.bring 6 rfl
                  have hS324 := hS323.bring 3 rfl
                  have hS325 := hS324.bring 2 rfl
                  have hS326 := hS325.bring 6 rfl
                  have hS327 := hS326.bring 6 rfl
                  have hS328 := hS327.bring 6 rfl
                  have hS329 := hS328.bring 6 rfl
                  obtain rfl := Option.some.inj h
                  exact ge_nil fun a hF => hQ _ _ _ (Outs.again ⟨(.slice Z5 (m10 ++ [z5]).length cz5), hS329, hF.weaken ⟨by kernel_rfl, by kernel_rfl, by kernel_rfl, by kernel_rfl, by kernel_rfl, by kernel_rfl, by kernel_rfl, by kernel_rfl, by kernel_rfl, by kernel_rfl, trivial⟩⟩)
            · rw [if_neg hc30] at h
              cases h
      · rw [if_neg hc20] at h
        cases h
    · rw [hq13] at h
      simp only [] at h
      refine we_iter (A := punctualref_PlayAnew.A5 K w0 l0 A0 c0 x1 l2 A2 c2 x3 hR0 hL0 hR2 hL2 b1 b2 r1 b3 hc1 hc6 m3 m4 hc12 Z1 cz1 b4 Z2 cz2 Z3 cz3 m7 z2 m8 m9 m10 m11 hc14 Z4 cz4) (B := punctualref_PlayAnew.B5 K w0 l0 A0 c0 x1 l2 A2 c2 x3 hR0 hL0 hR2 hL2 b1 b2 r1 b3 hc1 hc6 m3 m4 hc12 Z1 cz1 b4 Z2 cz2 Z3 cz3 m7 z2 m8 m9 m10 m11 hc14 Z4 cz4) hq13 (fun a hF => ⟨hS146, hF.weaken ⟨by kernel_rfl, by kernel_rfl, by kernel_rfl, by kernel_rfl, by kernel_rfl, by kernel_rfl, by kernel_rfl, by kernel_rfl, by kernel_rfl, by kernel_rfl, by kernel_rfl, by kernel_rfl, by kernel_rfl, by kernel_rfl, trivial⟩⟩) (fun s o hf a w hA Q hQ => punctualref_PlayAnew_r5 K w0 l0 A0 c0 x1 l2 A2 c2 x3 hR0 hL0 hR2 hL2 b1 b2 r1 b3 hc1 hc6 m3 m4 hc12 Z1 cz1 b4 Z2 cz2 Z3 cz3 m7 z2 m8 m9 m10 m11 hc14 Z4 cz4 s o hf a w hA Q hQ) ?_
      rintro _ a w1 _ ⟨rfl, hb⟩
      obtain rfl := Option.some.inj h
      exact hQ _ _ _ (Outs.out nofun (Exits.on ⟨rfl, hb⟩))
  · rw [if_neg hc14] at h
    refine we_known (t := 90) (b := decide (z2 < x3)) (v := false) (by kernel_rfl) (decide_eq_false hc14) ?_
    refine we_false (by kernel_rfl) ?_
    have hS330 := hS.bring 6 rfl
    have hS331 := hS330.bring 6 rfl
    have hS332 := hS331.bring 4 rfl
    have hS333 := hS332.bring 4 rfl
    have hS334 := hS333.bring 4 rfl
    have hS335 := hS334.takeN 5
    obtain rfl := Option.some.inj h
    exact we_exit fun a hF => hQ _ _ _ (Outs.out nofun (Exits.here ⟨v8, hS335, hF.weaken ⟨by kernel_rfl, by kernel_rfl, by kernel_rfl, trivial⟩⟩))
abbrev punctualref_PlayAnew.A6 (K : Nat) (w0 : World) (l0 : List SJob) (A0 : Option Addr) (c0 : Nat) (x1 : Int) (l2 : List Int) (A2 : Option Addr) (c2 : Nat) (x3 : Int) (hR0 : RdL w0 A0 l0) (hL0 : l0.length ≤ c0) (hR2 : RdL w0 A2 l2) (hL2 : l2.length ≤ c2) (b1 : Nat) (b2 : Nat) (r1 : SFault) (b3 : Nat) (hc1 : ¬ (r1.Code = 0)) : (Int × Int × (List Int) × (List Int)) → Act → World → Prop := fun (s : Int × Int × (List Int) × (List Int)) a w => ∃ (v12 : Value) (v13 : Value), St w0 w [Own.blk b2 (.cells #[.int .i64 s.1, .int .i64 s.2.1] 39 (0, 0)), Own.blk b1 (.cells #[v12, v13] 36 (0, 0)), Own.of v12 3 s.2.2.1, Own.of v13 3 s.2.2.2] ∧ Frm 197 a [(8, .pointer (some ⟨b1, 0, none⟩)), (9, .pointer (some ⟨b2, 0, none⟩))]
abbrev punctualref_PlayAnew.B6 (K : Nat) (w0 : World) (l0 : List SJob) (A0 : Option Addr) (c0 : Nat) (x1 : Int) (l2 : List Int) (A2 : Option Addr) (c2 : Nat) (x3 : Int) (hR0 : RdL w0 A0 l0) (hL0 : l0.length ≤ c0) (hR2 : RdL w0 A2 l2) (hL2 : l2.length ≤ c2) (b1 : Nat) (b2 : Nat) (r1 : SFault) (b3 : Nat) (hc1 : ¬ (r1.Code = 0)) : (SPlayed × SFault) → Exit → Act → World → Prop := Rets Tryd.prog Tryd.f68 (punctualref_PlayAnew.Post w0)
theorem punctualref_PlayAnew_p6 (K : Nat) (w0 : World) (l0 : List SJob) (A0 : Option Addr) (c0 : Nat) (x1 : Int) (l2 : List Int) (A2 : Option Addr) (c2 : Nat) (x3 : Int) (hR0 : RdL w0 A0 l0) (hL0 : l0.length ≤ c0) (hR2 : RdL w0 A2 l2) (hL2 : l2.length ≤ c2) (b1 : Nat) (b2 : Nat) (r1 : SFault) (b3 : Nat) (hc1 : ¬ (r1.Code = 0)) (o : (Int × Int × (List Int) × (List Int)) ⊕ (SPlayed × SFault)) (h : punctualref_PlayAnew.p6 r1 = some o) (w : World) (hS : St w0 w [Own.blk b3 (.cells #[.int .i64 r1.Code, .int .i64 r1.At] 39 (0, 0)), Own.blk b2 (.cells #[.int .i64 0, .int .i64 0] 39 (0, 0)), Own.blk b1 (.cells #[.slice none 0 0, .slice none 0 0] 36 (0, 0))]) (Q : Exit → Act → World → Prop) (hQ : ∀ x a w, Outs (punctualref_PlayAnew.A6 K w0 l0 A0 c0 x1 l2 A2 c2 x3 hR0 hL0 hR2 hL2 b1 b2 r1 b3 hc1) (punctualref_PlayAnew.B6 K w0 l0 A0 c0 x1 l2 A2 c2 x3 hR0 hL0 hR2 hL2 b1 b2 r1 b3 hc1) o x a w → Q x a w) : WE Tryd.prog 197 (subF Tryd.f68 [1, 0, 1, 1, 0, 0]) Q [(0, .slice A0 l0.length c0), (1, .int .i64 x1), (2, .slice A2 l2.length c2), (3, .int .i64 x3), (8, .pointer (some ⟨b1, 0, none⟩)), (9, .pointer (some ⟨b2, 0, none⟩)), (10, .pointer (some ⟨b3, 0, none⟩)), (21, .slice A0 l0.length c0), (22, .agg #[.int .i64 r1.Code, .int .i64 r1.At]), (23, .pointer (some ⟨b3, 0, none⟩)), (24, .int .i64 r1.Code), (25, .bool true)] w := by
  simp only [punctualref_PlayAnew.p6] at h
  refine we_orders2 (by kernel_rfl) [(1, [⟨b3, 0, none⟩, ⟨b3, 1, none⟩])] (.vals [0] (.vals [1] (.alt 2 2 (.alt 3 2 .fin .nomore) .nomore))) (by kernel_rfl) ?_
  have hS346 := hS.drew
  refine go2_batch [0] (ans := []) (vs := [(26, .agg #[.slice none 0 0, .slice none 0 0])]) (l := []) (by kernel_rfl) trivial mem_nil ?_
  refine go2_batch [1] (ans := [.val (.int .i64 r1.Code), .val (.int .i64 r1.At)]) (vs := [(27, .agg #[.int .i64 r1.Code, .int .i64 r1.At])]) (l := [.loaded ⟨b3, 0, none⟩ (.int .i64 r1.Code), .loaded ⟨b3, 1, none⟩ (.int .i64 r1.At)]) (by kernel_rfl) ⟨hS346.cell 0 rfl rfl, hS346.cell 0 rfl rfl, trivial⟩ (mem_one (by kernel_rfl)) ?_
  refine go_alt2 (fun KK hKK => ?_) ?_
  · have hS347 := hS346.bring 2 rfl
    refine ge_set (b := b1) (j := 0) (cs := #[.slice none 0 0, .slice none 0 0]) (t := 36) (vs := [.slice none 0 0, .slice none 0 0]) hS347 (by kernel_rfl) rfl rfl fun w58 hS348 => ?_
    have hS349 : St w0 w58 [Own.blk b1 (.cells #[.slice none 0 0, .slice none 0 0] 36 (0, 0)), Own.blk b3 (.cells #[.int .i64 r1.Code, .int .i64 r1.At] 39 (0, 0)), Own.blk b2 (.cells #[.int .i64 0, .int .i64 0] 39 (0, 0))] := hS348
    refine ge_nil fun a hF => hKK _ _ (RS.of2 (l := [.loaded ⟨b3, 0, none⟩ (.int .i64 r1.Code), .loaded ⟨b3, 1, none⟩ (.int .i64 r1.At)]) (by kernel_rfl) ⟨hS346.cell 0 rfl rfl, hS346.cell 0 rfl rfl, trivial⟩ ⟨hS349.cell 1 rfl rfl, hS349.cell 1 rfl rfl, trivial⟩) ?_ a hF
    refine go_alt2 (fun KK hKK => ?_) ?_
    · have hS350 := hS349.bring 2 rfl
      refine ge_set (b := b2) (j := 0) (cs := #[.int .i64 0, .int .i64 0]) (t := 39) (vs := [.int .i64 r1.Code, .int .i64 r1.At]) hS350 (by kernel_rfl) rfl rfl fun w59 hS351 => ?_
      have hS352 : St w0 w59 [Own.blk b2 (.cells #[.int .i64 r1.Code, .int .i64 r1.At] 39 (0, 0)), Own.blk b1 (.cells #[.slice none 0 0, .slice none 0 0] 36 (0, 0)), Own.blk b3 (.cells #[.int .i64 r1.Code, .int .i64 r1.At] 39 (0, 0))] := hS351
      refine ge_nil fun a hF => hKK _ _ (RS.of2 (l := []) (by kernel_rfl) trivial trivial) ?_ a hF
      have hS353 := hS352.nil (α := Int) 3
      have hS354 := hS353.nil (α := Int) 3
      have hS355 := hS354.bring 1 rfl
      have hS356 := hS355.bring 1 rfl
      have hS357 := hS356.bring 3 rfl
      have hS358 := hS357.bring 3 rfl
      have hS359 := hS358.takeN 4
      obtain rfl := Option.some.inj h
      exact go_fin2 fun a hF => hQ _ _ _ (Outs.again ⟨(.slice none 0 0), (.slice none 0 0), hS359, hF.weaken ⟨by kernel_rfl, by kernel_rfl, trivial⟩⟩)
    exact go_nomore2
  exact go_nomore2
theorem punctualref_PlayAnew_ok (K : Nat) (l0 : List SJob) (A0 : Option Addr) (c0 : Nat) (x1 : Int) (l2 : List Int) (A2 : Option Addr) (c2 : Nat) (x3 : Int) (w0 : World) (hR0 : RdL w0 A0 l0) (hL0 : l0.length ≤ c0) (hR2 : RdL w0 A2 l2) (hL2 : l2.length ≤ c2) (r : SPlayed × SFault) (h : punctualref_PlayAnew.f K l0 x1 l2 x3 = some r) :
    Calls Tryd.prog 68 #[.slice A0 l0.length c0, .int .i64 x1, .slice A2 l2.length c2, .int .i64 x3] w0 (punctualref_PlayAnew.Post w0 r) := by
  have hS := St.start w0
  unfold punctualref_PlayAnew.f at h
  refine calls_enter (n := 197) (args := [.slice A0 l0.length c0, .int .i64 x1, .slice A2 l2.length c2, .int .i64 x3]) (fn := Tryd.f68) rfl rfl rfl rfl ?_
  show WE _ _ _ _ [(0, .slice A0 l0.length c0), (1, .int .i64 x1), (2, .slice A2 l2.length c2), (3, .int .i64 x3)] _
  refine we_seq fun K1 hK1 => ?_
  refine we_region [(0, 1), (1, 1)] rfl ?_
  refine ge_new (d := some 8) (o := .cells #[.slice none 0 0, .slice none 0 0] 36) (v := fun b => .pointer (some ⟨b, 0, none⟩)) hS (fun b => by kernel_rfl) fun b1 w1 hx1 hS1 => ?_
  refine ge_new (d := some 9) (o := .cells #[.int .i64 0, .int .i64 0] 39) (v := fun b => .pointer (some ⟨b, 0, none⟩)) hS1 (fun b => by kernel_rfl) fun b2 w2 hx2 hS2 => ?_
  refine ge_nil fun a hF => hK1 _ _ ?_ a hF
  refine we_seq fun K2 hK2 => ?_
  refine we_seq fun K3 hK3 => ?_
  refine we_region [(0, 0), (1, 1), (2, 1), (3, 2)] rfl ?_
  rcases hq1 : punctualref_CheckJobs.f K l0 with _ | r1
  · rw [hq1] at h; cases h
  rw [hq1] at h
  simp only [] at h
  refine ge_batch [0] (ans := []) (vs := [(21, .slice A0 l0.length c0)]) (l := []) (by kernel_rfl) trivial ?_
  refine ge_call (d := some 22) (f := 87) (args := #[.slice A0 l0.length c0]) (by kernel_rfl) (punctualref_CheckJobs_ok K l0 A0 c0 _ (hS2.rd hR0) hL0 _ hq1) ?_
  rintro _ w3 ⟨rfl, hS3⟩
  refine ⟨_, rfl, hS3.below, ?_⟩
  have hS4 := hS2.call hS3
  refine ge_new (d := some 10) (o := .cells #[.int .i64 0, .int .i64 0] 39) (v := fun b => .pointer (some ⟨b, 0, none⟩)) hS4 (fun b => by kernel_rfl) fun b3 w4 hx3 hS5 => ?_
  refine ge_set (b := b3) (j := 0) (cs := #[.int .i64 0, .int .i64 0]) (t := 39) (vs := [.int .i64 r1.Code, .int .i64 r1.At]) hS5 (by kernel_rfl) rfl rfl fun w5 hS6 => ?_
  have hS7 : St w0 w5 [Own.blk b3 (.cells #[.int .i64 r1.Code, .int .i64 r1.At] 39 (0, 0)), Own.blk b2 (.cells #[.int .i64 0, .int .i64 0] 39 (0, 0)), Own.blk b1 (.cells #[.slice none 0 0, .slice none 0 0] 36 (0, 0))] := hS6
  refine ge_nil fun a hF => hK3 _ _ ?_ a hF
  refine we_seq fun K4 hK4 => ?_
  refine we_region [(0, 0), (1, 0), (2, 0)] rfl ?_
  refine ge_batch [0, 1, 2] (ans := [.val (.int .i64 r1.Code)]) (vs := [(25, .bool (r1.Code != 0)), (24, .int .i64 r1.Code), (23, .pointer (some ⟨b3, 0, none⟩))]) (l := [.loaded ⟨b3, 0, none⟩ (.int .i64 r1.Code)]) (by kernel_rfl) ⟨hS7.cell 0 rfl rfl, trivial⟩ ?_
  refine ge_nil fun a hF => hK4 _ _ ?_ a hF
  by_cases hc1 : r1.Code = 0
  · rw [if_pos hc1] at h
    refine we_known (t := 25) (b := (r1.Code != 0)) (v := false) (by kernel_rfl) (bne_eq_false_iff_eq.2 hc1) ?_
    refine we_false (by kernel_rfl) ?_
    refine we_skip fun a hF => hK2 _ _ ?_ a hF
    refine we_seq fun K5 hK5 => ?_
    rcases hq6 : punctualref_PlayAnew.p0 x1 x3 with _ | (_ | rr6)
    · rw [hq6] at h; cases h
    · rw [hq6] at h
      simp only [] at h
      refine we_keep (e' := [(0, .slice A0 l0.length c0), (1, .int .i64 x1), (2, .slice A2 l2.length c2), (3, .int .i64 x3), (8, .pointer (some ⟨b1, 0, none⟩)), (9, .pointer (some ⟨b2, 0, none⟩)), (10, .pointer (some ⟨b3, 0, none⟩)), (21, .slice A0 l0.length c0), (22, .agg #[.int .i64 r1.Code, .int .i64 r1.At]), (23, .pointer (some ⟨b3, 0, none⟩)), (24, .int .i64 r1.Code), (25, .bool false)]) ⟨by kernel_rfl, by kernel_rfl, by kernel_rfl, by kernel_rfl, by kernel_rfl, by kernel_rfl, by kernel_rfl, by kernel_rfl, by kernel_rfl, by kernel_rfl, by kernel_rfl, by kernel_rfl, trivial⟩ (punctualref_PlayAnew_p0 K w0 l0 A0 c0 x1 l2 A2 c2 x3 hR0 hL0 hR2 hL2 b1 b2 r1 b3 hc1 _ hq6 _ hS7 _ ?_)
      rintro _ a w18 ⟨rfl, hS63, hF⟩
      replace hS63 : St w0 w18 [Own.blk b2 (.cells #[.int .i64 0, .int .i64 0] 39 (0, 0)), Own.blk b1 (.cells #[.slice none 0 0, .slice none 0 0] 36 (0, 0))] := hS63
      refine hK5 [(0, .slice A0 l0.length c0), (1, .int .i64 x1), (2, .slice A2 l2.length c2), (3, .int .i64 x3), (8, .pointer (some ⟨b1, 0, none⟩)), (9, .pointer (some ⟨b2, 0, none⟩))] w18 ?_ a hF
      refine we_seq fun K11 hK11 => ?_
      refine we_seq fun K12 hK12 => ?_
      refine we_region [(0, 0), (1, 0), (2, 0)] rfl ?_
      refine ge_batch [0, 1, 2] (ans := []) (vs := [(46, .bool (decide ((l2.length : Int) > 4000))), (45, .int .i64 (l2.length : Int)), (44, .slice A2 l2.length c2)]) (l := []) (by kernel_rfl) trivial ?_
      refine ge_nil fun a hF => hK12 _ _ ?_ a hF
      by_cases hc6 : (l2.length : Int) > 4000
      · rw [if_pos hc6] at h
        refine we_known (t := 46) (b := decide ((l2.length : Int) > 4000)) (v := true) (by kernel_rfl) (decide_eq_true hc6) ?_
        refine we_true (by kernel_rfl) ?_
        refine we_seq fun K13 hK13 => ?_
        refine we_region [(0, 0), (1, 1), (2, 2), (3, 2)] rfl ?_
        refine ge_batch [0] (ans := []) (vs := [(47, .agg #[.slice none 0 0, .slice none 0 0])]) (l := []) (by kernel_rfl) trivial ?_
        refine ge_call (d := some 48) (f := 74) (args := #[.int .i64 2, .int .i64 0]) (by kernel_rfl) (punctualref_F_ok 2 0 _ _ rfl) ?_
        rintro _ w19 ⟨rfl, hS64⟩
        refine ⟨_, rfl, hS64.below, ?_⟩
        have hS65 := hS63.call hS64
        have hS66 := hS65.bring 1 rfl
        refine ge_set (b := b1) (j := 0) (cs := #[.slice none 0 0, .slice none 0 0]) (t := 36) (vs := [.slice none 0 0, .slice none 0 0]) hS66 (by kernel_rfl) rfl rfl fun w20 hS67 => ?_
        have hS68 : St w0 w20 [Own.blk b1 (.cells #[.slice none 0 0, .slice none 0 0] 36 (0, 0)), Own.blk b2 (.cells #[.int .i64 0, .int .i64 0] 39 (0, 0))] := hS67
        have hS69 := hS68.bring 1 rfl
        refine ge_set (b := b2) (j := 0) (cs := #[.int .i64 0, .int .i64 0]) (t := 39) (vs := [.int .i64 ((punctualref_F.f 2 0).Code), .int .i64 ((punctualref_F.f 2 0).At)]) hS69 (by kernel_rfl) rfl rfl fun w21 hS70 => ?_
        have hS71 : St w0 w21 [Own.blk b2 (.cells #[.int .i64 ((punctualref_F.f 2 0).Code), .int .i64 ((punctualref_F.f 2 0).At)] 39 (0, 0)), Own.blk b1 (.cells #[.slice none 0 0, .slice none 0 0] 36 (0, 0))] := hS70
        refine ge_nil fun a hF => hK13 _ _ ?_ a hF
        have hS72 := hS71.nil (α := Int) 3
        have hS73 := hS72.nil (α := Int) 3
        have hS74 := hS73.bring 1 rfl
        have hS75 := hS74.bring 1 rfl
        have hS76 := hS75.takeN 2
        obtain rfl := Option.some.inj h
        exact we_ret (post_ret (rs := [.cell 8 36, .cell 9 39]) (ans := [.val ((.slice none 0 0)), .val ((.slice none 0 0)), .val (.int .i64 ((punctualref_F.f 2 0).Code)), .val (.int .i64 ((punctualref_F.f 2 0).At))]) (vs := [.agg #[(.slice none 0 0), (.slice none 0 0)], .agg #[.int .i64 ((punctualref_F.f 2 0).Code), .int .i64 ((punctualref_F.f 2 0).At)]]) (l := [.loaded ⟨b1, 0, none⟩ ((.slice none 0 0)), .loaded ⟨b1, 1, none⟩ ((.slice none 0 0)), .loaded ⟨b2, 0, none⟩ (.int .i64 ((punctualref_F.f 2 0).Code)), .loaded ⟨b2, 1, none⟩ (.int .i64 ((punctualref_F.f 2 0).At))]) rfl (by kernel_rfl) ⟨hS73.cell 3 rfl rfl, hS73.cell 3 rfl rfl, hS73.cell 2 rfl rfl, hS73.cell 2 rfl rfl, trivial⟩ ⟨(.slice none 0 0), (.slice none 0 0), rfl, hS76⟩)
      · rw [if_neg hc6] at h
        refine we_known (t := 46) (b := decide ((l2.length : Int) > 4000)) (v := false) (by kernel_rfl) (decide_eq_false hc6) ?_
        refine we_false (by kernel_rfl) ?_
        refine we_skip fun a hF => hK11 _ _ ?_ a hF
        refine we_seq fun K14 hK14 => ?_
        refine we_seq fun K15 hK15 => ?_
        refine we_region [(0, 0)] rfl ?_
        refine ge_batch [0] (ans := []) (vs := [(11, .int .i64 1)]) (l := []) (by kernel_rfl) trivial ?_
        refine ge_nil fun a hF => hK15 _ _ ?_ a hF
        refine we_block ?_
        have hS77 := hS63.bring 1 rfl
        have hS78 := hS77.bring 1 rfl
        rcases hq9 : iter (punctualref_PlayAnew.r1 l2) K 1 with _ | (_ | rr5)
        · rw [hq9] at h; cases h
        · rw [hq9] at h
          simp only [] at h
          refine we_iter (A := punctualref_PlayAnew.A1 K w0 l0 A0 c0 x1 l2 A2 c2 x3 hR0 hL0 hR2 hL2 b1 b2 r1 b3 hc1 hc6) (B := punctualref_PlayAnew.B1 K w0 l0 A0 c0 x1 l2 A2 c2 x3 hR0 hL0 hR2 hL2 b1 b2 r1 b3 hc1 hc6) hq9 (fun a hF => ⟨hS78, hF.weaken ⟨by kernel_rfl, by kernel_rfl, by kernel_rfl, by kernel_rfl, by kernel_rfl, by kernel_rfl, by kernel_rfl, trivial⟩⟩) (fun s o hf a w hA Q hQ => punctualref_PlayAnew_r1 K w0 l0 A0 c0 x1 l2 A2 c2 x3 hR0 hL0 hR2 hL2 b1 b2 r1 b3 hc1 hc6 s o hf a w hA Q hQ) ?_
          rintro _ a w25 _ ⟨rfl, hS97, hF⟩
          replace hS97 : St w0 w25 [Own.blk b2 (.cells #[.int .i64 0, .int .i64 0] 39 (0, 0)), Own.blk b1 (.cells #[.slice none 0 0, .slice none 0 0] 36 (0, 0))] := hS97
          refine hK14 [(0, .slice A0 l0.length c0), (1, .int .i64 x1), (2, .slice A2 l2.length c2), (3, .int .i64 x3), (8, .pointer (some ⟨b1, 0, none⟩)), (9, .pointer (some ⟨b2, 0, none⟩))] w25 ?_ a hF
          refine we_seq fun K21 hK21 => ?_
          rcases hq10 : punctualref_PlayAnew.p2 l0 with _ | (⟨m3, m4⟩ | rr4)
          · rw [hq10] at h; cases h
          · rw [hq10] at h
            simp only [] at h
            refine we_keep (e' := [(0, .slice A0 l0.length c0), (1, .int .i64 x1), (2, .slice A2 l2.length c2), (3, .int .i64 x3), (8, .pointer (some ⟨b1, 0, none⟩)), (9, .pointer (some ⟨b2, 0, none⟩))]) ⟨by kernel_rfl, by kernel_rfl, by kernel_rfl, by kernel_rfl, by kernel_rfl, by kernel_rfl, trivial⟩ (punctualref_PlayAnew_p2 K w0 l0 A0 c0 x1 l2 A2 c2 x3 hR0 hL0 hR2 hL2 b1 b2 r1 b3 hc1 hc6 _ hq10 _ hS97 _ ?_)
            rintro _ a w28 ⟨rfl, v5, v6, hS105, hF⟩
            replace hS105 : St w0 w28 [Own.blk b2 (.cells #[.int .i64 0, .int .i64 0] 39 (0, 0)), Own.blk b1 (.cells #[.slice none 0 0, .slice none 0 0] 36 (0, 0)), Own.of v5 3 m3, Own.of v6 3 m4] := hS105
            refine hK21 [(0, .slice A0 l0.length c0), (1, .int .i64 x1), (2, .slice A2 l2.length c2), (3, .int .i64 x3), (8, .pointer (some ⟨b1, 0, none⟩)), (9, .pointer (some ⟨b2, 0, none⟩)), (12, v5), (13, v6)] w28 ?_ a hF
            refine we_seq fun K22 hK22 => ?_
            refine we_region [(0, 0), (1, 0), (2, 1), (3, 0), (4, 1), (5, 2)] rfl ?_
            refine ge_batch [0, 1] (ans := []) (vs := [(75, .int .i64 (l0.length : Int)), (74, .slice A0 l0.length c0)]) (l := []) (by kernel_rfl) trivial ?_
            by_cases hc12 : l0.length ≤ 17592186044416
            · rw [if_pos hc12] at h
              refine ge_make (α := Int) (d := 76) (t := 24) (el := 3) (bytes := 8) (l := l0.length) (c := l0.length) (x := (.tmp 75)) (y := (.tmp 75)) (ty := 24) (k1 := .i64) (k2 := .i64) (li := (l0.length : Int)) (ci := (l0.length : Int)) (z := .int .i64 0) (z' := (0 : Int)) (by kernel_rfl) (by kernel_rfl) (by kernel_rfl) rfl rfl (by kernel_rfl) (by kernel_rfl) rfl hS105 (Nat.le_refl _) rfl (by omega) fun v7 w29 _ hS106 => ?_
              obtain ⟨Z1, cz1, rfl⟩ := hS106.open 0 rfl
              refine ge_batch [3] (ans := []) (vs := [(77, .agg #[.slice none 0 0, (.slice Z1 (List.replicate l0.length (0 : Int)).length cz1)])]) (l := []) (by kernel_rfl) trivial ?_
              refine ge_new (d := some 14) (o := .cells #[.slice none 0 0, .slice none 0 0] 36) (v := fun b => .pointer (some ⟨b, 0, none⟩)) hS106 (fun b => by kernel_rfl) fun b4 w30 hx6 hS107 => ?_
              refine ge_set (b := b4) (j := 0) (cs := #[.slice none 0 0, .slice none 0 0]) (t := 36) (vs := [.slice none 0 0, (.slice Z1 (List.replicate l0.length (0 : Int)).length cz1)]) hS107 (by kernel_rfl) rfl rfl fun w31 hS108 => ?_
              have hS109 : St w0 w31 [Own.blk b4 (.cells #[.slice none 0 0, (.slice Z1 (List.replicate l0.length (0 : Int)).length cz1)] 36 (0, 0)), Own.of (.slice Z1 (List.replicate l0.length (0 : Int)).length cz1) 3 (List.replicate l0.length (0 : Int)), Own.blk b2 (.cells #[.int .i64 0, .int .i64 0] 39 (0, 0)), Own.blk b1 (.cells #[.slice none 0 0, .slice none 0 0] 36 (0, 0)), Own.of v5 3 m3, Own.of v6 3 m4] := hS108
              refine ge_nil fun a hF => hK22 _ _ ?_ a hF
              refine we_seq fun K23 hK23 => ?_
              refine we_seq fun K24 hK24 => ?_
              refine we_region [(0, 0), (1, 0), (2, 0)] rfl ?_
              refine ge_batch [0, 1, 2] (ans := []) (vs := [(80, .int .i64 0), (79, .int .i64 (l0.length : Int)), (78, .slice A0 l0.length c0)]) (l := []) (by kernel_rfl) trivial ?_
              refine ge_nil fun a hF => hK24 _ _ ?_ a hF
              refine we_block ?_
              obtain ⟨Z2, cz2, rfl⟩ := hS109.open 4 rfl
              obtain ⟨Z3, cz3, rfl⟩ := hS109.open 5 rfl
              have hS110 := hS109.bring 1 rfl
              have hS111 := hS110.bring 5 rfl
              have hS112 := hS111.bring 5 rfl
              have hS113 := hS112.bring 5 rfl
              have hS114 := hS113.bring 5 rfl
              have hS115 := hS114.bring 5 rfl
              rcases hq11 : iter (punctualref_PlayAnew.r3 l0) K (0, (List.replicate l0.length (0 : Int))) with _ | (m7 | rr3)
              · rw [hq11] at h; cases h
              · rw [hq11] at h
                simp only [] at h
                refine we_iter (A := punctualref_PlayAnew.A3 K w0 l0 A0 c0 x1 l2 A2 c2 x3 hR0 hL0 hR2 hL2 b1 b2 r1 b3 hc1 hc6 m3 m4 hc12 Z1 cz1 b4 Z2 cz2 Z3 cz3) (B := punctualref_PlayAnew.B3 K w0 l0 A0 c0 x1 l2 A2 c2 x3 hR0 hL0 hR2 hL2 b1 b2 r1 b3 hc1 hc6 m3 m4 hc12 Z1 cz1 b4 Z2 cz2 Z3 cz3) hq11 (fun a hF => ⟨hS115, hF.weaken ⟨by kernel_rfl, by kernel_rfl, by kernel_rfl, by kernel_rfl, by kernel_rfl, by kernel_rfl, by kernel_rfl, by kernel_rfl, by kernel_rfl, by kernel_rfl, by kernel_rfl, trivial⟩⟩) (fun s o hf a w hA Q hQ => punctualref_PlayAnew_r3 K w0 l0 A0 c0 x1 l2 A2 c2 x3 hR0 hL0 hR2 hL2 b1 b2 r1 b3 hc1 hc6 m3 m4 hc12 Z1 cz1 b4 Z2 cz2 Z3 cz3 s o hf a w hA Q hQ) ?_
                rintro _ a w33 _ ⟨rfl, hS131, hF⟩
                replace hS131 : St w0 w33 [Own.blk b4 (.cells #[.slice none 0 0, (.slice Z1 m7.length cz1)] 36 (0, 0)), Own.blk b2 (.cells #[.int .i64 0, .int .i64 0] 39 (0, 0)), Own.blk b1 (.cells #[.slice none 0 0, .slice none 0 0] 36 (0, 0)), Own.of (.slice Z2 m3.length cz2) 3 m3, Own.of (.slice Z3 m4.length cz3) 3 m4, Own.of (.slice Z1 m7.length cz1) 3 m7] := hS131
                refine hK23 [(0, .slice A0 l0.length c0), (1, .int .i64 x1), (2, .slice A2 l2.length c2), (3, .int .i64 x3), (8, .pointer (some ⟨b1, 0, none⟩)), (9, .pointer (some ⟨b2, 0, none⟩)), (12, (.slice Z2 m3.length cz2)), (13, (.slice Z3 m4.length cz3)), (14, .pointer (some ⟨b4, 0, none⟩))] w33 ?_ a hF
                refine we_seq fun K29 hK29 => ?_
                refine we_seq fun K30 hK30 => ?_
                refine we_region [(0, 0)] rfl ?_
                refine ge_batch [0] (ans := []) (vs := [(16, .int .i64 0)]) (l := []) (by kernel_rfl) trivial ?_
                refine ge_nil fun a hF => hK30 _ _ ?_ a hF
                refine we_block ?_
                have hS132 := hS131.nil (α := Int) 3
                have hS133 := hS132.bring 6 rfl
                have hS134 := hS133.bring 1 rfl
                have hS135 := hS134.bring 6 rfl
                have hS136 := hS135.bring 6 rfl
                have hS137 := hS136.bring 6 rfl
                have hS138 := hS137.bring 6 rfl
                have hS139 := hS138.bring 6 rfl
                rcases hq15 : iter (punctualref_PlayAnew.r4 K l0 x1 l2 x3) K (0, m3, m4, ([] : List Int), m7) with _ | (⟨m14, m15⟩ | rr2)
                · rw [hq15] at h; cases h
                · rw [hq15] at h
                  simp only [] at h
                  refine we_iter (A := punctualref_PlayAnew.A4 K w0 l0 A0 c0 x1 l2 A2 c2 x3 hR0 hL0 hR2 hL2 b1 b2 r1 b3 hc1 hc6 m3 m4 hc12 Z1 cz1 b4 Z2 cz2 Z3 cz3 m7) (B := punctualref_PlayAnew.B4 K w0 l0 A0 c0 x1 l2 A2 c2 x3 hR0 hL0 hR2 hL2 b1 b2 r1 b3 hc1 hc6 m3 m4 hc12 Z1 cz1 b4 Z2 cz2 Z3 cz3 m7) hq15 (fun a hF => ⟨(.slice none 0 0), hS139, hF.weaken ⟨by kernel_rfl, by kernel_rfl, by kernel_rfl, by kernel_rfl, by kernel_rfl, by kernel_rfl, by kernel_rfl, by kernel_rfl, by kernel_rfl, by kernel_rfl, trivial⟩⟩) (fun s o hf a w hA Q hQ => punctualref_PlayAnew_r4 K w0 l0 A0 c0 x1 l2 A2 c2 x3 hR0 hL0 hR2 hL2 b1 b2 r1 b3 hc1 hc6 m3 m4 hc12 Z1 cz1 b4 Z2 cz2 Z3 cz3 m7 s o hf a w hA Q hQ) ?_
                  rintro _ a w55 _ ⟨rfl, v11, hS336, hF⟩
                  replace hS336 : St w0 w55 [Own.blk b4 (.cells #[v11, (.slice Z1 m15.length cz1)] 36 (0, 0)), Own.blk b2 (.cells #[.int .i64 0, .int .i64 0] 39 (0, 0)), Own.blk b1 (.cells #[.slice none 0 0, .slice none 0 0] 36 (0, 0)), Own.of v11 3 m14, Own.of (.slice Z1 m15.length cz1) 3 m15] := hS336
                  refine hK29 [(8, .pointer (some ⟨b1, 0, none⟩)), (9, .pointer (some ⟨b2, 0, none⟩)), (14, .pointer (some ⟨b4, 0, none⟩))] w55 ?_ a hF
                  refine we_seq fun K59 hK59 => ?_
                  refine we_region [(0, 0), (1, 0), (2, 2), (3, 2)] rfl ?_
                  refine ge_batch [0, 1] (ans := [.val (v11), .val ((.slice Z1 m15.length cz1))]) (vs := [(196, .agg #[.int .i64 0, .int .i64 0]), (195, .agg #[v11, (.slice Z1 m15.length cz1)])]) (l := [.loaded ⟨b4, 0, none⟩ (v11), .loaded ⟨b4, 1, none⟩ ((.slice Z1 m15.length cz1))]) (by kernel_rfl) ⟨hS336.cell 0 rfl rfl, hS336.cell 0 rfl rfl, trivial⟩ ?_
                  obtain ⟨Z6, cz6, rfl⟩ := hS336.open 3 rfl
                  have hS337 := hS336.bring 2 rfl
                  refine ge_set (b := b1) (j := 0) (cs := #[.slice none 0 0, .slice none 0 0]) (t := 36) (vs := [(.slice Z6 m14.length cz6), (.slice Z1 m15.length cz1)]) hS337 (by kernel_rfl) rfl rfl fun w56 hS338 => ?_
                  have hS339 : St w0 w56 [Own.blk b1 (.cells #[(.slice Z6 m14.length cz6), (.slice Z1 m15.length cz1)] 36 (0, 0)), Own.blk b4 (.cells #[(.slice Z6 m14.length cz6), (.slice Z1 m15.length cz1)] 36 (0, 0)), Own.blk b2 (.cells #[.int .i64 0, .int .i64 0] 39 (0, 0)), Own.of (.slice Z6 m14.length cz6) 3 m14, Own.of (.slice Z1 m15.length cz1) 3 m15] := hS338
                  have hS340 := hS339.bring 2 rfl
                  refine ge_set (b := b2) (j := 0) (cs := #[.int .i64 0, .int .i64 0]) (t := 39) (vs := [.int .i64 0, .int .i64 0]) hS340 (by kernel_rfl) rfl rfl fun w57 hS341 => ?_
                  have hS342 : St w0 w57 [Own.blk b2 (.cells #[.int .i64 0, .int .i64 0] 39 (0, 0)), Own.blk b1 (.cells #[(.slice Z6 m14.length cz6), (.slice Z1 m15.length cz1)] 36 (0, 0)), Own.blk b4 (.cells #[(.slice Z6 m14.length cz6), (.slice Z1 m15.length cz1)] 36 (0, 0)), Own.of (.slice Z6 m14.length cz6) 3 m14, Own.of (.slice Z1 m15.length cz1) 3 m15] := hS341
                  refine ge_nil fun a hF => hK59 _ _ ?_ a hF
                  have hS343 := hS342.bring 4 rfl
                  have hS344 := hS343.bring 4 rfl
                  have hS345 := hS344.takeN 2
                  obtain rfl := Option.some.inj h
                  exact we_ret (post_ret (rs := [.cell 8 36, .cell 9 39]) (ans := [.val ((.slice Z6 m14.length cz6)), .val ((.slice Z1 m15.length cz1)), .val (.int .i64 0), .val (.int .i64 0)]) (vs := [.agg #[(.slice Z6 m14.length cz6), (.slice Z1 m15.length cz1)], .agg #[.int .i64 0, .int .i64 0]]) (l := [.loaded ⟨b1, 0, none⟩ ((.slice Z6 m14.length cz6)), .loaded ⟨b1, 1, none⟩ ((.slice Z1 m15.length cz1)), .loaded ⟨b2, 0, none⟩ (.int .i64 0), .loaded ⟨b2, 1, none⟩ (.int .i64 0)]) rfl (by kernel_rfl) ⟨hS342.cell 1 rfl rfl, hS342.cell 1 rfl rfl, hS342.cell 0 rfl rfl, hS342.cell 0 rfl rfl, trivial⟩ ⟨(.slice Z6 m14.length cz6), (.slice Z1 m15.length cz1), rfl, hS345⟩)
                · rw [hq15] at h
                  simp only [] at h
                  refine we_iter (A := punctualref_PlayAnew.A4 K w0 l0 A0 c0 x1 l2 A2 c2 x3 hR0 hL0 hR2 hL2 b1 b2 r1 b3 hc1 hc6 m3 m4 hc12 Z1 cz1 b4 Z2 cz2 Z3 cz3 m7) (B := punctualref_PlayAnew.B4 K w0 l0 A0 c0 x1 l2 A2 c2 x3 hR0 hL0 hR2 hL2 b1 b2 r1 b3 hc1 hc6 m3 m4 hc12 Z1 cz1 b4 Z2 cz2 Z3 cz3 m7) hq15 (fun a hF => ⟨(.slice none 0 0), hS139, hF.weaken ⟨by kernel_rfl, by kernel_rfl, by kernel_rfl, by kernel_rfl, by kernel_rfl, by kernel_rfl, by kernel_rfl, by kernel_rfl, by kernel_rfl, by kernel_rfl, trivial⟩⟩) (fun s o hf a w hA Q hQ => punctualref_PlayAnew_r4 K w0 l0 A0 c0 x1 l2 A2 c2 x3 hR0 hL0 hR2 hL2 b1 b2 r1 b3 hc1 hc6 m3 m4 hc12 Z1 cz1 b4 Z2 cz2 Z3 cz3 m7 s o hf a w hA Q hQ) ?_
                  rintro _ a w1 _ ⟨rfl, hb⟩
                  obtain rfl := Option.some.inj h
                  exact hb
              · rw [hq11] at h
                simp only [] at h
                refine we_iter (A := punctualref_PlayAnew.A3 K w0 l0 A0 c0 x1 l2 A2 c2 x3 hR0 hL0 hR2 hL2 b1 b2 r1 b3 hc1 hc6 m3 m4 hc12 Z1 cz1 b4 Z2 cz2 Z3 cz3) (B := punctualref_PlayAnew.B3 K w0 l0 A0 c0 x1 l2 A2 c2 x3 hR0 hL0 hR2 hL2 b1 b2 r1 b3 hc1 hc6 m3 m4 hc12 Z1 cz1 b4 Z2 cz2 Z3 cz3) hq11 (fun a hF => ⟨hS115, hF.weaken ⟨by kernel_rfl, by kernel_rfl, by kernel_rfl, by kernel_rfl, by kernel_rfl, by kernel_rfl, by kernel_rfl, by kernel_rfl, by kernel_rfl, by kernel_rfl, by kernel_rfl, trivial⟩⟩) (fun s o hf a w hA Q hQ => punctualref_PlayAnew_r3 K w0 l0 A0 c0 x1 l2 A2 c2 x3 hR0 hL0 hR2 hL2 b1 b2 r1 b3 hc1 hc6 m3 m4 hc12 Z1 cz1 b4 Z2 cz2 Z3 cz3 s o hf a w hA Q hQ) ?_
                rintro _ a w1 _ ⟨rfl, hb⟩
                obtain rfl := Option.some.inj h
                exact hb
            · rw [if_neg hc12] at h
              cases h
          · rw [hq10] at h
            simp only [] at h
            refine we_keep (e' := [(0, .slice A0 l0.length c0), (1, .int .i64 x1), (2, .slice A2 l2.length c2), (3, .int .i64 x3), (8, .pointer (some ⟨b1, 0, none⟩)), (9, .pointer (some ⟨b2, 0, none⟩))]) ⟨by kernel_rfl, by kernel_rfl, by kernel_rfl, by kernel_rfl, by kernel_rfl, by kernel_rfl, trivial⟩ (punctualref_PlayAnew_p2 K w0 l0 A0 c0 x1 l2 A2 c2 x3 hR0 hL0 hR2 hL2 b1 b2 r1 b3 hc1 hc6 _ hq10 _ hS97 _ ?_)
            rintro _ a w1 ⟨_, rfl, hb⟩
            obtain rfl := Option.some.inj h
            exact hb
        · rw [hq9] at h
          simp only [] at h
          refine we_iter (A := punctualref_PlayAnew.A1 K w0 l0 A0 c0 x1 l2 A2 c2 x3 hR0 hL0 hR2 hL2 b1 b2 r1 b3 hc1 hc6) (B := punctualref_PlayAnew.B1 K w0 l0 A0 c0 x1 l2 A2 c2 x3 hR0 hL0 hR2 hL2 b1 b2 r1 b3 hc1 hc6) hq9 (fun a hF => ⟨hS78, hF.weaken ⟨by kernel_rfl, by kernel_rfl, by kernel_rfl, by kernel_rfl, by kernel_rfl, by kernel_rfl, by kernel_rfl, trivial⟩⟩) (fun s o hf a w hA Q hQ => punctualref_PlayAnew_r1 K w0 l0 A0 c0 x1 l2 A2 c2 x3 hR0 hL0 hR2 hL2 b1 b2 r1 b3 hc1 hc6 s o hf a w hA Q hQ) ?_
          rintro _ a w1 _ ⟨rfl, hb⟩
          obtain rfl := Option.some.inj h
          exact hb
    · rw [hq6] at h
      simp only [] at h
      refine we_keep (e' := [(0, .slice A0 l0.length c0), (1, .int .i64 x1), (2, .slice A2 l2.length c2), (3, .int .i64 x3), (8, .pointer (some ⟨b1, 0, none⟩)), (9, .pointer (some ⟨b2, 0, none⟩)), (10, .pointer (some ⟨b3, 0, none⟩)), (21, .slice A0 l0.length c0), (22, .agg #[.int .i64 r1.Code, .int .i64 r1.At]), (23, .pointer (some ⟨b3, 0, none⟩)), (24, .int .i64 r1.Code), (25, .bool false)]) ⟨by kernel_rfl, by kernel_rfl, by kernel_rfl, by kernel_rfl, by kernel_rfl, by kernel_rfl, by kernel_rfl, by kernel_rfl, by kernel_rfl, by kernel_rfl, by kernel_rfl, by kernel_rfl, trivial⟩ (punctualref_PlayAnew_p0 K w0 l0 A0 c0 x1 l2 A2 c2 x3 hR0 hL0 hR2 hL2 b1 b2 r1 b3 hc1 _ hq6 _ hS7 _ ?_)
      rintro _ a w1 ⟨_, rfl, hb⟩
      obtain rfl := Option.some.inj h
      exact hb
  · rw [if_neg hc1] at h
    refine we_known (t := 25) (b := (r1.Code != 0)) (v := true) (by kernel_rfl) (bne_iff_ne.2 hc1) ?_
    refine we_true (by kernel_rfl) ?_
    refine we_seq fun K60 hK60 => ?_
    rcases hq16 : punctualref_PlayAnew.p6 r1 with _ | (⟨z8, z9, m18, m19⟩ | rr7)
    · rw [hq16] at h; cases h
    · rw [hq16] at h
      simp only [] at h
      refine we_keep (e' := [(0, .slice A0 l0.length c0), (1, .int .i64 x1), (2, .slice A2 l2.length c2), (3, .int .i64 x3), (8, .pointer (some ⟨b1, 0, none⟩)), (9, .pointer (some ⟨b2, 0, none⟩)), (10, .pointer (some ⟨b3, 0, none⟩)), (21, .slice A0 l0.length c0), (22, .agg #[.int .i64 r1.Code, .int .i64 r1.At]), (23, .pointer (some ⟨b3, 0, none⟩)), (24, .int .i64 r1.Code), (25, .bool true)]) ⟨by kernel_rfl, by kernel_rfl, by kernel_rfl, by kernel_rfl, by kernel_rfl, by kernel_rfl, by kernel_rfl, by kernel_rfl, by kernel_rfl, by kernel_rfl, by kernel_rfl, by kernel_rfl, trivial⟩ (punctualref_PlayAnew_p6 K w0 l0 A0 c0 x1 l2 A2 c2 x3 hR0 hL0 hR2 hL2 b1 b2 r1 b3 hc1 _ hq16 _ hS7 _ ?_)
      rintro _ a w60 ⟨rfl, v14, v15, hS360, hF⟩
      replace hS360 : St w0 w60 [Own.blk b2 (.cells #[.int .i64 z8, .int .i64 z9] 39 (0, 0)), Own.blk b1 (.cells #[v14, v15] 36 (0, 0)), Own.of v14 3 m18, Own.of v15 3 m19] := hS360
      refine hK60 [(8, .pointer (some ⟨b1, 0, none⟩)), (9, .pointer (some ⟨b2, 0, none⟩))] w60 ?_ a hF
      have hS361 := hS360.bring 3 rfl
      have hS362 := hS361.bring 3 rfl
      have hS363 := hS362.takeN 2
      obtain rfl := Option.some.inj h
      exact we_ret (post_ret (rs := [.cell 8 36, .cell 9 39]) (ans := [.val (v14), .val (v15), .val (.int .i64 z8), .val (.int .i64 z9)]) (vs := [.agg #[v14, v15], .agg #[.int .i64 z8, .int .i64 z9]]) (l := [.loaded ⟨b1, 0, none⟩ (v14), .loaded ⟨b1, 1, none⟩ (v15), .loaded ⟨b2, 0, none⟩ (.int .i64 z8), .loaded ⟨b2, 1, none⟩ (.int .i64 z9)]) rfl (by kernel_rfl) ⟨hS360.cell 1 rfl rfl, hS360.cell 1 rfl rfl, hS360.cell 0 rfl rfl, hS360.cell 0 rfl rfl, trivial⟩ ⟨v14, v15, rfl, hS363⟩)
    · rw [hq16] at h
      simp only [] at h
      refine we_keep (e' := [(0, .slice A0 l0.length c0), (1, .int .i64 x1), (2, .slice A2 l2.length c2), (3, .int .i64 x3), (8, .pointer (some ⟨b1, 0, none⟩)), (9, .pointer (some ⟨b2, 0, none⟩)), (10, .pointer (some ⟨b3, 0, none⟩)), (21, .slice A0 l0.length c0), (22, .agg #[.int .i64 r1.Code, .int .i64 r1.At]), (23, .pointer (some ⟨b3, 0, none⟩)), (24, .int .i64 r1.Code), (25, .bool true)]) ⟨by kernel_rfl, by kernel_rfl, by kernel_rfl, by kernel_rfl, by kernel_rfl, by kernel_rfl, by kernel_rfl, by kernel_rfl, by kernel_rfl, by kernel_rfl, by kernel_rfl, by kernel_rfl, trivial⟩ (punctualref_PlayAnew_p6 K w0 l0 A0 c0 x1 l2 A2 c2 x3 hR0 hL0 hR2 hL2 b1 b2 r1 b3 hc1 _ hq16 _ hS7 _ ?_)
      rintro _ a w1 ⟨_, rfl, hb⟩
      obtain rfl := Option.some.inj h
      exact hb

/-! punctual/punctualsame.Played -/
abbrev punctualsame_Played.Post (w0 : World) (r : Bool) (e : Ending) (w : World) : Prop := e = .returned (.bool r) ∧ St w0 w []
def punctualsame_Played.f (K : Nat) (l0_0 : List Int) (l0_1 : List Int) (l1_0 : List Int) (l1_1 : List Int) : Option Bool :=
  match punctualsame_Same_int.f K l0_0 l1_0 with
  | none => none
  | some r1 =>
    if r1 = true then
      match punctualsame_Same_int.f K l0_1 l1_1 with
      | none => none
      | some r2 =>
        some r2
    else
      some false
theorem punctualsame_Played_ok (K : Nat) (l0_0 : List Int) (A0_0 : Option Addr) (c0_0 : Nat) (l0_1 : List Int) (A0_1 : Option Addr) (c0_1 : Nat) (l1_0 : List Int) (A1_0 : Option Addr) (c1_0 : Nat) (l1_1 : List Int) (A1_1 : Option Addr) (c1_1 : Nat) (w0 : World) (hR0_0 : RdL w0 A0_0 l0_0) (hL0_0 : l0_0.length ≤ c0_0) (hR0_1 : RdL w0 A0_1 l0_1) (hL0_1 : l0_1.length ≤ c0_1) (hR1_0 : RdL w0 A1_0 l1_0) (hL1_0 : l1_0.length ≤ c1_0) (hR1_1 : RdL w0 A1_1 l1_1) (hL1_1 : l1_1.length ≤ c1_1) (r : Bool) (h : punctualsame_Played.f K l0_0 l0_1 l1_0 l1_1 = some r) :
    Calls Tryd.prog 18 #[.agg #[.slice A0_0 l0_0.length c0_0, .slice A0_1 l0_1.length c0_1], .agg #[.slice A1_0 l1_0.length c1_0, .slice A1_1 l1_1.length c1_1]] w0 (punctualsame_Played.Post w0 r) := by
  have hS := St.start w0
  unfold punctualsame_Played.f at h
  refine calls_enter (n := 17) (args := [.agg #[.slice A0_0 l0_0.length c0_0, .slice A0_1 l0_1.length c0_1], .agg #[.slice A1_0 l1_0.length c1_0, .slice A1_1 l1_1.length c1_1]]) (fn := Tryd.f18) rfl rfl rfl rfl ?_
  show WE _ _ _ _ [(0, .agg #[.slice A0_0 l0_0.length c0_0, .slice A0_1 l0_1.length c0_1]), (1, .agg #[.slice A1_0 l1_0.length c1_0, .slice A1_1 l1_1.length c1_1])] _
  refine we_seq fun K1 hK1 => ?_
  refine we_region [(0, 1), (1, 1), (2, 0)] rfl ?_
  refine ge_new (d := some 2) (o := .cells #[.slice A0_0 l0_0.length c0_0, .slice A0_1 l0_1.length c0_1] 36) (v := fun b => .pointer (some ⟨b, 0, none⟩)) hS (fun b => by kernel_rfl) fun b1 w1 hx1 hS1 => ?_
  refine ge_new (d := some 3) (o := .cells #[.slice A1_0 l1_0.length c1_0, .slice A1_1 l1_1.length c1_1] 36) (v := fun b => .pointer (some ⟨b, 0, none⟩)) hS1 (fun b => by kernel_rfl) fun b2 w2 hx2 hS2 => ?_
  refine ge_batch [2] (ans := []) (vs := [(4, .bool false)]) (l := []) (by kernel_rfl) trivial ?_
  refine ge_nil fun a hF => hK1 _ _ ?_ a hF
  refine we_seq fun K2 hK2 => ?_
  refine we_region [(0, 0), (1, 0), (2, 0), (3, 0), (4, 1), (5, 0), (6, 0), (7, 0), (8, 0), (9, 0), (10, 1), (11, 0), (12, 0)] rfl ?_
  rcases hq1 : punctualsame_Same_int.f K l0_0 l1_0 with _ | r1
  · rw [hq1] at h; cases h
  rw [hq1] at h
  simp only [] at h
  refine ge_batch [0, 1, 2, 3] (ans := [.val (.slice A0_0 l0_0.length c0_0), .val (.slice A1_0 l1_0.length c1_0)]) (vs := [(8, .slice A1_0 l1_0.length c1_0), (7, .pointer (some ⟨b2, 0, none⟩)), (6, .slice A0_0 l0_0.length c0_0), (5, .pointer (some ⟨b1, 0, none⟩))]) (l := [.loaded ⟨b1, 0, none⟩ (.slice A0_0 l0_0.length c0_0), .loaded ⟨b2, 0, none⟩ (.slice A1_0 l1_0.length c1_0)]) (by kernel_rfl) ⟨hS2.cell 1 rfl rfl, hS2.cell 0 rfl rfl, trivial⟩ ?_
  refine ge_call (d := some 9) (f := 40) (args := #[.slice A0_0 l0_0.length c0_0, .slice A1_0 l1_0.length c1_0]) (by kernel_rfl) (punctualsame_Same_int_ok K l0_0 A0_0 c0_0 l1_0 A1_0 c1_0 _ (hS2.rd hR0_0) hL0_0 (hS2.rd hR1_0) hL1_0 _ hq1) ?_
  rintro _ w3 ⟨rfl, hS3⟩
  refine ⟨_, rfl, hS3.below, ?_⟩
  have hS4 := hS2.call hS3
  refine ge_batch [5] (ans := []) (vs := [(10, .bool r1)]) (l := []) (by kernel_rfl) trivial ?_
  by_cases hc1 : r1 = true
  · rw [if_pos hc1] at h
    refine ge_known (t := 10) (b := r1) (c := true) (by kernel_rfl) hc1 ?_
    rcases hq2 : punctualsame_Same_int.f K l0_1 l1_1 with _ | r2
    · rw [hq2] at h; cases h
    rw [hq2] at h
    simp only [] at h
    refine ge_batch [6, 7, 8, 9] (ans := [.val (.slice A0_1 l0_1.length c0_1), .val (.slice A1_1 l1_1.length c1_1)]) (vs := [(14, .slice A1_1 l1_1.length c1_1), (13, .pointer (some ⟨b2, 1, none⟩)), (12, .slice A0_1 l0_1.length c0_1), (11, .pointer (some ⟨b1, 1, none⟩))]) (l := [.loaded ⟨b1, 1, none⟩ (.slice A0_1 l0_1.length c0_1), .loaded ⟨b2, 1, none⟩ (.slice A1_1 l1_1.length c1_1)]) (by kernel_rfl) ⟨hS4.cell 1 rfl rfl, hS4.cell 0 rfl rfl, trivial⟩ ?_
    refine ge_call (d := some 15) (f := 40) (args := #[.slice A0_1 l0_1.length c0_1, .slice A1_1 l1_1.length c1_1]) (by kernel_rfl) (punctualsame_Same_int_ok K l0_1 A0_1 c0_1 l1_1 A1_1 c1_1 _ (hS4.rd hR0_1) hL0_1 (hS4.rd hR1_1) hL1_1 _ hq2) ?_
    rintro _ w4 ⟨rfl, hS5⟩
    refine ⟨_, rfl, hS5.below, ?_⟩
    have hS6 := hS4.call hS5
    refine ge_batch [11, 12] (ans := []) (vs := [(4, .bool r2), (16, .bool r2)]) (l := []) (by kernel_rfl) trivial ?_
    refine ge_nil fun a hF => hK2 _ _ ?_ a hF
    have hS7 := hS6.takeN 0
    obtain rfl := Option.some.inj h
    exact we_ret (post_ret (rs := [.tmp 4]) (ans := []) (vs := [.bool r2]) (l := []) rfl (by kernel_rfl) trivial ⟨rfl, hS7⟩)
  · rw [if_neg hc1] at h
    refine ge_known (t := 10) (b := r1) (c := false) (by kernel_rfl) (Bool.eq_false_iff.2 hc1) ?_
    refine ge_batch [6, 7, 8, 9] (ans := []) (vs := [(14, undef), (13, undef), (12, undef), (11, undef)]) (l := []) (by kernel_rfl) trivial ?_
    refine ge_off rfl rfl rfl (by kernel_rfl) ?_
    refine ge_batch [11, 12] (ans := []) (vs := [(4, .bool false), (16, .bool false)]) (l := []) (by kernel_rfl) trivial ?_
    refine ge_nil fun a hF => hK2 _ _ ?_ a hF
    have hS8 := hS4.takeN 0
    obtain rfl := Option.some.inj h
    exact we_ret (post_ret (rs := [.tmp 4]) (ans := []) (vs := [.bool false]) (l := []) rfl (by kernel_rfl) trivial ⟨rfl, hS8⟩)

/-! punctual/punctualsame.Still[punctual/api.Job] -/
abbrev punctualsame_Still_api_Job.Post (w0 : World) (r : Bool) (e : Ending) (w : World) : Prop := e = .returned (.bool r) ∧ St w0 w []
def punctualsame_Still_api_Job.r0 (f0 : List SJob) (l1 : List SJob) (x2 : SJob) : Nat → Option (Nat ⊕ (Unit ⊕ Bool))
  | i1 =>
    if (i1 : Int) < (f0.length : Int) then
      match f0[i1]? with
      | none => none
      | some e1 =>
        if (i1 : Int) < (l1.length : Int) then
          match l1[i1]? with
          | none => none
          | some e2 =>
            if (SJob.eqb e1 e2) = true then
              if (i1 : Int) ≥ (l1.length : Int) then
                if (SJob.eqb e1 x2) = true then
                  some (.inl (i1 + 1))
                else
                  some (.inr (.inr false))
              else
                some (.inl (i1 + 1))
            else
              some (.inr (.inr false))
        else
          if (i1 : Int) ≥ (l1.length : Int) then
            if (SJob.eqb e1 x2) = true then
              some (.inl (i1 + 1))
            else
              some (.inr (.inr false))
          else
            some (.inl (i1 + 1))
    else
      some (.inr (.inl ()))
def punctualsame_Still_api_Job.f (K : Nat) (f0 : List SJob) (l1 : List SJob) (x2 : SJob) : Option Bool :=
  if (IntKind.i64.wrap ((l1.length : Int) + 3)) = (f0.length : Int) then
    match iter (punctualsame_Still_api_Job.r0 f0 l1 x2) K 0 with
    | none => none
    | some (.inl _) =>
      some true
    | some (.inr rr1) =>
      some rr1
  else
    none
abbrev punctualsame_Still_api_Job.A0 (K : Nat) (w0 : World) (f0 : List SJob) (A0 : Option Addr) (n0 : Nat) (c0 : Nat) (l1 : List SJob) (A1 : Option Addr) (c1 : Nat) (x2 : SJob) (hR0 : RdL w0 A0 f0) (hc0 : f0.length ≤ c0) (hR1 : RdL w0 A1 l1) (hL1 : l1.length ≤ c1) (b1 : Nat) (hc1 : (IntKind.i64.wrap ((l1.length : Int) + 3)) = (f0.length : Int)) : Nat → Act → World → Prop := fun (s : Nat) a w => St w0 w [Own.blk b1 (.cells #[.int .i64 x2.Task, .int .i64 x2.At, .int .i64 x2.C, .int .i64 x2.Due, .int .i64 x2.P] 58 (0, 0))] ∧ Frm 46 a [(1, .slice A1 l1.length c1), (5, .pointer (some ⟨b1, 0, none⟩)), (15, .slice A0 f0.length c0), (16, .int .i64 (f0.length : Int)), (17, .int .i64 (s : Int))]
abbrev punctualsame_Still_api_Job.B0 (K : Nat) (w0 : World) (f0 : List SJob) (A0 : Option Addr) (n0 : Nat) (c0 : Nat) (l1 : List SJob) (A1 : Option Addr) (c1 : Nat) (x2 : SJob) (hR0 : RdL w0 A0 f0) (hc0 : f0.length ≤ c0) (hR1 : RdL w0 A1 l1) (hL1 : l1.length ≤ c1) (b1 : Nat) (hc1 : (IntKind.i64.wrap ((l1.length : Int) + 3)) = (f0.length : Int)) : (Unit ⊕ Bool) → Exit → Act → World → Prop := Exits 0 (fun (s : Unit) a w => St w0 w [] ∧ Frm 46 a []) (Rets Tryd.prog Tryd.f33 (punctualsame_Still_api_Job.Post w0))
theorem punctualsame_Still_api_Job_r0 (K : Nat) (w0 : World) (f0 : List SJob) (A0 : Option Addr) (n0 : Nat) (c0 : Nat) (l1 : List SJob) (A1 : Option Addr) (c1 : Nat) (x2 : SJob) (hR0 : RdL w0 A0 f0) (hc0 : f0.length ≤ c0) (hR1 : RdL w0 A1 l1) (hL1 : l1.length ≤ c1) (b1 : Nat) (hc1 : (IntKind.i64.wrap ((l1.length : Int) + 3)) = (f0.length : Int)) (s : Nat) (o : Nat ⊕ (Unit ⊕ Bool)) (h : punctualsame_Still_api_Job.r0 f0 l1 x2 s = some o) (a : Act) (w : World) (hA : punctualsame_Still_api_Job.A0 K w0 f0 A0 n0 c0 l1 A1 c1 x2 hR0 hc0 hR1 hL1 b1 hc1 s a w) (Q : Exit → Act → World → Prop) (hQ : ∀ x a w, Outs (punctualsame_Still_api_Job.A0 K w0 f0 A0 n0 c0 l1 A1 c1 x2 hR0 hc0 hR1 hL1 b1 hc1) (punctualsame_Still_api_Job.B0 K w0 f0 A0 n0 c0 l1 A1 c1 x2 hR0 hc0 hR1 hL1 b1 hc1) o x a w → Q x a w) : (subF Tryd.f33 [1, 1, 0, 1, 0, 0]).wp Tryd.prog Q a w := by
  obtain ⟨i1, hs⟩ : ∃ z, z = s := ⟨s, rfl⟩
  subst hs
  obtain ⟨hS, hF⟩ := hA
  replace hS : St w0 w [Own.blk b1 (.cells #[.int .i64 x2.Task, .int .i64 x2.At, .int .i64 x2.C, .int .i64 x2.Due, .int .i64 x2.P] 58 (0, 0))] := hS
  simp only [punctualsame_Still_api_Job.r0] at h
  refine (?_ : WE Tryd.prog 46 (subF Tryd.f33 [1, 1, 0, 1, 0, 0]) Q [(1, .slice A1 l1.length c1), (5, .pointer (some ⟨b1, 0, none⟩)), (15, .slice A0 f0.length c0), (16, .int .i64 (f0.length : Int)), (17, .int .i64 (i1 : Int))] w) a hF
  clear hF a
  refine we_seq fun K5 hK5 => ?_
  refine we_region [(0, 0)] rfl ?_
  refine ge_batch [0] (ans := []) (vs := [(18, .bool (decide ((i1 : Int) < (f0.length : Int))))]) (l := []) (by kernel_rfl) trivial ?_
  refine ge_nil fun a hF => hK5 _ _ ?_ a hF
  refine we_seq fun K6 hK6 => ?_
  by_cases hc2 : (i1 : Int) < (f0.length : Int)
  · rw [if_pos hc2] at h
    refine we_known (t := 18) (b := decide ((i1 : Int) < (f0.length : Int))) (v := true) (by kernel_rfl) (decide_eq_true hc2) ?_
    refine we_true (by kernel_rfl) ?_
    refine we_skip fun a hF => hK6 _ _ ?_ a hF
    refine we_seq fun K7 hK7 => ?_
    refine we_block ?_
    refine we_seq fun K8 hK8 => ?_
    refine we_region [(0, 0), (1, 0), (2, 0), (3, 1), (4, 0), (5, 2)] rfl ?_
    refine ge_batch [0] (ans := []) (vs := [(19, .int .i64 (i1 : Int))]) (l := []) (by kernel_rfl) trivial ?_
    rcases hx2 : f0[i1]? with _ | e1
    · rw [hx2] at h; cases h
    rw [hx2] at h
    simp only [] at h
    refine ge_index (d := 20) (ty := 0) (t := 49) (el := 58) (sz := 5) (m := f0.length) (c := c0) (x := (.tmp 15)) (y := (.tmp 17)) (A := A0) (k' := .i64) (j := (i1 : Int)) (jn := i1) (b0 := blkOf A0) (o0 := offOf A0) (by kernel_rfl) (by kernel_rfl) (by kernel_rfl) (by kernel_rfl) (by kernel_rfl) ((hS.rd hR0).eqSome (pos_of_get hx2)) rfl (lt_of_get hx2) ?_
    refine ge_batch [2] (ans := [.val (.int .i64 e1.Task), .val (.int .i64 e1.At), .val (.int .i64 e1.C), .val (.int .i64 e1.Due), .val (.int .i64 e1.P)]) (vs := [(21, .agg #[.int .i64 e1.Task, .int .i64 e1.At, .int .i64 e1.C, .int .i64 e1.Due, .int .i64 e1.P])]) (l := [.loaded ⟨blkOf A0, offOf A0 + i1 * 5, none⟩ (.int .i64 e1.Task), .loaded ⟨blkOf A0, offOf A0 + i1 * 5 + 1, none⟩ (.int .i64 e1.At), .loaded ⟨blkOf A0, offOf A0 + i1 * 5 + 2, none⟩ (.int .i64 e1.C), .loaded ⟨blkOf A0, offOf A0 + i1 * 5 + 3, none⟩ (.int .i64 e1.Due), .loaded ⟨blkOf A0, offOf A0 + i1 * 5 + 4, none⟩ (.int .i64 e1.P)]) (by kernel_rfl) ⟨RdL.cell (j := 0) (hS.rd hR0) hx2 rfl, RdL.cell (j := 1) (hS.rd hR0) hx2 rfl, RdL.cell (j := 2) (hS.rd hR0) hx2 rfl, RdL.cell (j := 3) (hS.rd hR0) hx2 rfl, RdL.cell (j := 4) (hS.rd hR0) hx2 rfl, trivial⟩ ?_
    refine ge_new (d := some 9) (o := .cells #[.int .i64 0, .int .i64 0, .int .i64 0, .int .i64 0, .int .i64 0] 58) (v := fun b => .pointer (some ⟨b, 0, none⟩)) hS (fun b => by kernel_rfl) fun b2 w2 hx3 hS2 => ?_
    refine ge_batch [4] (ans := []) (vs := [(8, .int .i64 (i1 : Int))]) (l := []) (by kernel_rfl) trivial ?_
    refine ge_set (b := b2) (j := 0) (cs := #[.int .i64 0, .int .i64 0, .int .i64 0, .int .i64 0, .int .i64 0]) (t := 58) (vs := [.int .i64 e1.Task, .int .i64 e1.At, .int .i64 e1.C, .int .i64 e1.Due, .int .i64 e1.P]) hS2 (by kernel_rfl) rfl rfl fun w3 hS3 => ?_
    have hS4 : St w0 w3 [Own.blk b2 (.cells #[.int .i64 e1.Task, .int .i64 e1.At, .int .i64 e1.C, .int .i64 e1.Due, .int .i64 e1.P] 58 (0, 0)), Own.blk b1 (.cells #[.int .i64 x2.Task, .int .i64 x2.At, .int .i64 x2.C, .int .i64 x2.Due, .int .i64 x2.P] 58 (0, 0))] := hS3
    refine ge_nil fun a hF => hK8 _ _ ?_ a hF
    refine we_seq fun K9 hK9 => ?_
    refine we_draws (by kernel_rfl) [(0, 0), (1, 0), (2, 0), (3, 0), (4, 0), (5, 0), (6, 0), (7, 0), (8, 0), (9, 0), (10, 0), (11, 0), (12, 0), (13, 0), (14, 0), (15, 0), (16, 0), (17, 0), (18, 0), (19, 0), (20, 0), (21, 0), (22, 0)] (by kernel_rfl) ?_
    have hS5 := hS4.drew
    refine ge_batch [0, 1, 2, 3, 4] (ans := []) (vs := [(26, .bool (decide ((i1 : Int) < (l1.length : Int)))), (25, .bool (decide ((i1 : Int) < (l1.length : Int)))), (24, .int .i64 (l1.length : Int)), (23, .slice A1 l1.length c1), (22, .int .i64 (i1 : Int))]) (l := []) (by kernel_rfl) trivial ?_
    by_cases hc3 : (i1 : Int) < (l1.length : Int)
    · rw [if_pos hc3] at h
      refine ge_known (t := 26) (b := decide ((i1 : Int) < (l1.length : Int))) (c := true) (by kernel_rfl) (decide_eq_true hc3) ?_
      refine ge_batch [5, 6, 7] (ans := [.val (.int .i64 e1.Task), .val (.int .i64 e1.At), .val (.int .i64 e1.C), .val (.int .i64 e1.Due), .val (.int .i64 e1.P)]) (vs := [(29, .int .i64 (i1 : Int)), (28, .slice A1 l1.length c1), (27, .agg #[.int .i64 e1.Task, .int .i64 e1.At, .int .i64 e1.C, .int .i64 e1.Due, .int .i64 e1.P])]) (l := [.loaded ⟨b2, 0, none⟩ (.int .i64 e1.Task), .loaded ⟨b2, 1, none⟩ (.int .i64 e1.At), .loaded ⟨b2, 2, none⟩ (.int .i64 e1.C), .loaded ⟨b2, 3, none⟩ (.int .i64 e1.Due), .loaded ⟨b2, 4, none⟩ (.int .i64 e1.P)]) (by kernel_rfl) ⟨hS5.cell 0 rfl rfl, hS5.cell 0 rfl rfl, hS5.cell 0 rfl rfl, hS5.cell 0 rfl rfl, hS5.cell 0 rfl rfl, trivial⟩ ?_
      rcases hx4 : l1[i1]? with _ | e2
      · rw [hx4] at h; cases h
      rw [hx4] at h
      simp only [] at h
      refine ge_index (d := 30) (ty := 0) (t := 49) (el := 58) (sz := 5) (m := l1.length) (c := c1) (x := (.tmp 28)) (y := (.tmp 29)) (A := A1) (k' := .i64) (j := (i1 : Int)) (jn := i1) (b0 := blkOf A1) (o0 := offOf A1) (by kernel_rfl) (by kernel_rfl) (by kernel_rfl) (by kernel_rfl) (by kernel_rfl) ((hS5.rd hR1).eqSome (pos_of_get hx4)) rfl (lt_of_get hx4) ?_
      refine ge_batch [9] (ans := [.val (.int .i64 e2.Task), .val (.int .i64 e2.At), .val (.int .i64 e2.C), .val (.int .i64 e2.Due), .val (.int .i64 e2.P)]) (vs := [(31, .agg #[.int .i64 e2.Task, .int .i64 e2.At, .int .i64 e2.C, .int .i64 e2.Due, .int .i64 e2.P])]) (l := [.loaded ⟨blkOf A1, offOf A1 + i1 * 5, none⟩ (.int .i64 e2.Task), .loaded ⟨blkOf A1, offOf A1 + i1 * 5 + 1, none⟩ (.int .i64 e2.At), .loaded ⟨blkOf A1, offOf A1 + i1 * 5 + 2, none⟩ (.int .i64 e2.C), .loaded ⟨blkOf A1, offOf A1 + i1 * 5 + 3, none⟩ (.int .i64 e2.Due), .loaded ⟨blkOf A1, offOf A1 + i1 * 5 + 4, none⟩ (.int .i64 e2.P)]) (by kernel_rfl) ⟨RdL.cell (j := 0) (hS5.rd hR1) hx4 rfl, RdL.cell (j := 1) (hS5.rd hR1) hx4 rfl, RdL.cell (j := 2) (hS5.rd hR1) hx4 rfl, RdL.cell (j := 3) (hS5.rd hR1) hx4 rfl, RdL.cell (j := 4) (hS5.rd hR1) hx4 rfl, trivial⟩ ?_
      refine ge_eqs (d := 32) (ty := 4) (op := .neq) (x := (.tmp 27)) (y := (.tmp 31)) (t := 58) (t2 := 58) (xs := #[.int .i64 e1.Task, .int .i64 e1.At, .int .i64 e1.C, .int .i64 e1.Due, .int .i64 e1.P]) (ys := #[.int .i64 e2.Task, .int .i64 e2.At, .int .i64 e2.C, .int .i64 e2.Due, .int .i64 e2.P]) (r := (SJob.eqb e1 e2)) (v := !(SJob.eqb e1 e2)) (by kernel_rfl) (by kernel_rfl) (by kernel_rfl) (by kernel_rfl) (by kernel_rfl) rfl ?_
      refine ge_batch [11, 12] (ans := []) (vs := [(34, .bool (!(SJob.eqb e1 e2))), (33, .bool (!(SJob.eqb e1 e2)))]) (l := []) (by kernel_rfl) trivial ?_
      by_cases hc4 : (SJob.eqb e1 e2) = true
      · rw [if_pos hc4] at h
        refine ge_known (t := 34) (b := !(SJob.eqb e1 e2)) (c := false) (by kernel_rfl) (congrArg (fun z => !z) hc4) ?_
        refine ge_batch [13, 14, 15, 16, 17] (ans := []) (vs := [(39, .bool (decide ((i1 : Int) ≥ (l1.length : Int)))), (38, .bool (decide ((i1 : Int) ≥ (l1.length : Int)))), (37, .int .i64 (l1.length : Int)), (36, .slice A1 l1.length c1), (35, .int .i64 (i1 : Int))]) (l := []) (by kernel_rfl) trivial ?_
        by_cases hc5 : (i1 : Int) ≥ (l1.length : Int)
        · rw [if_pos hc5] at h
          refine ge_known (t := 39) (b := decide ((i1 : Int) ≥ (l1.length : Int))) (c := true) (by kernel_rfl) (decide_eq_true hc5) ?_
          refine ge_batch [18, 19] (ans := [.val (.int .i64 e1.Task), .val (.int .i64 e1.At), .val (.int .i64 e1.C), .val (.int .i64 e1.Due), .val (.int .i64 e1.P), .val (.int .i64 x2.Task), .val (.int .i64 x2.At), .val (.int .i64 x2.C), .val (.int .i64 x2.Due), .val (.int .i64 x2.P)]) (vs := [(41, .agg #[.int .i64 x2.Task, .int .i64 x2.At, .int .i64 x2.C, .int .i64 x2.Due, .int .i64 x2.P]), (40, .agg #[.int .i64 e1.Task, .int .i64 e1.At, .int .i64 e1.C, .int .i64 e1.Due, .int .i64 e1.P])]) (l := [.loaded ⟨b2, 0, none⟩ (.int .i64 e1.Task), .loaded ⟨b2, 1, none⟩ (.int .i64 e1.At), .loaded ⟨b2, 2, none⟩ (.int .i64 e1.C), .loaded ⟨b2, 3, none⟩ (.int .i64 e1.Due), .loaded ⟨b2, 4, none⟩ (.int .i64 e1.P), .loaded ⟨b1, 0, none⟩ (.int .i64 x2.Task), .loaded ⟨b1, 1, none⟩ (.int .i64 x2.At), .loaded ⟨b1, 2, none⟩ (.int .i64 x2.C), .loaded ⟨b1, 3, none⟩ (.int .i64 x2.Due), .loaded ⟨b1, 4, none⟩ (.int .i64 x2.P)]) (by kernel_rfl) ⟨hS5.cell 0 rfl rfl, hS5.cell 0 rfl rfl, hS5.cell 0 rfl rfl, hS5.cell 0 rfl rfl, hS5.cell 0 rfl rfl, hS5.cell 1 rfl rfl, hS5.cell 1 rfl rfl, hS5.cell 1 rfl rfl, hS5.cell 1 rfl rfl, hS5.cell 1 rfl rfl, trivial⟩ ?_
          refine ge_eqs (d := 42) (ty := 4) (op := .neq) (x := (.tmp 40)) (y := (.tmp 41)) (t := 58) (t2 := 58) (xs := #[.int .i64 e1.Task, .int .i64 e1.At, .int .i64 e1.C, .int .i64 e1.Due, .int .i64 e1.P]) (ys := #[.int .i64 x2.Task, .int .i64 x2.At, .int .i64 x2.C, .int .i64 x2.Due, .int .i64 x2.P]) (r := (SJob.eqb e1 x2)) (v := !(SJob.eqb e1 x2)) (by kernel_rfl) (by kernel_rfl) (by kernel_rfl) (by kernel_rfl) (by kernel_rfl) rfl ?_
          refine ge_batch [21, 22] (ans := []) (vs := [(44, .bool (!(SJob.eqb e1 x2))), (43, .bool (!(SJob.eqb e1 x2)))]) (l := []) (by kernel_rfl) trivial ?_
          refine ge_nil fun a hF => hK9 _ _ ?_ a hF
          by_cases hc6 : (SJob.eqb e1 x2) = true
          · rw [if_pos hc6] at h
            refine we_known (t := 44) (b := !(SJob.eqb e1 x2)) (v := false) (by kernel_rfl) (congrArg (fun z => !z) hc6) ?_
            refine we_false (by kernel_rfl) ?_
            refine we_skip fun a hF => hK7 _ _ ?_ a hF
            refine we_region [(0, 0), (1, 0)] rfl ?_
            refine ge_addn (d := 45) (ty := 3) (x := (.tmp 17)) (y := (.const (.int .i64 1))) (t := 3) (t2 := 3) (k := .i64) (m := i1) (by kernel_rfl) (by kernel_rfl) (by kernel_rfl) (by have h0 := hR0.small; omega) ?_
            refine ge_batch [1] (ans := []) (vs := [(17, .int .i64 ((i1 + 1 : Nat) : Int))]) (l := []) (by kernel_rfl) trivial ?_
            have hS6 := hS5.bring 1 rfl
            have hS7 := hS6.takeN 1
            obtain rfl := Option.some.inj h
            exact ge_nil fun a hF => hQ _ _ _ (Outs.again ⟨hS7, hF.weaken ⟨by kernel_rfl, by kernel_rfl, by kernel_rfl, by kernel_rfl, by kernel_rfl, trivial⟩⟩)
          · rw [if_neg hc6] at h
            refine we_known (t := 44) (b := !(SJob.eqb e1 x2)) (v := true) (by kernel_rfl) (congrArg (fun z => !z) (Bool.eq_false_iff.2 hc6)) ?_
            refine we_true (by kernel_rfl) ?_
            refine we_seq fun K10 hK10 => ?_
            refine we_region [(0, 0)] rfl ?_
            refine ge_batch [0] (ans := []) (vs := [(6, .bool false)]) (l := []) (by kernel_rfl) trivial ?_
            refine ge_nil fun a hF => hK10 _ _ ?_ a hF
            have hS8 := hS5.takeN 0
            obtain rfl := Option.some.inj h
            exact we_ret fun a hF => hQ _ _ _ (Outs.out nofun (Exits.on ⟨rfl, (post_ret (rs := [.tmp 6]) (ans := []) (vs := [.bool false]) (l := []) rfl (by kernel_rfl) trivial ⟨rfl, hS8⟩) a hF⟩))
        · rw [if_neg hc5] at h
          refine ge_known (t := 39) (b := decide ((i1 : Int) ≥ (l1.length : Int))) (c := false) (by kernel_rfl) (decide_eq_false hc5) ?_
          refine ge_batch [18, 19, 20, 21, 22] (ans := []) (vs := [(44, .bool false), (43, .bool false), (42, undef), (41, undef), (40, undef)]) (l := []) (by kernel_rfl) trivial ?_
          refine ge_nil fun a hF => hK9 _ _ ?_ a hF
          refine we_false (by kernel_rfl) ?_
          refine we_skip fun a hF => hK7 _ _ ?_ a hF
          refine we_region [(0, 0), (1, 0)] rfl ?_
          refine ge_addn (d := 45) (ty := 3) (x := (.tmp 17)) (y := (.const (.int .i64 1))) (t := 3) (t2 := 3) (k := .i64) (m := i1) (by kernel_rfl) (by kernel_rfl) (by kernel_rfl) (by have h0 := hR0.small; omega) ?_
          refine ge_batch [1] (ans := []) (vs := [(17, .int .i64 ((i1 + 1 : Nat) : Int))]) (l := []) (by kernel_rfl) trivial ?_
          have hS9 := hS5.bring 1 rfl
          have hS10 := hS9.takeN 1
          obtain rfl := Option.some.inj h
          exact ge_nil fun a hF => hQ _ _ _ (Outs.again ⟨hS10, hF.weaken ⟨by kernel_rfl, by kernel_rfl, by kernel_rfl, by kernel_rfl, by kernel_rfl, trivial⟩⟩)
      · rw [if_neg hc4] at h
        refine ge_known (t := 34) (b := !(SJob.eqb e1 e2)) (c := true) (by kernel_rfl) (congrArg (fun z => !z) (Bool.eq_false_iff.2 hc4)) ?_
        refine ge_batch [13, 14, 15, 16, 17, 18, 19, 20, 21, 22] (ans := []) (vs := [(44, .bool true), (43, undef), (42, undef), (41, undef), (40, undef), (39, undef), (38, undef), (37, undef), (36, undef), (35, undef)]) (l := []) (by kernel_rfl) trivial ?_
        refine ge_nil fun a hF => hK9 _ _ ?_ a hF
        refine we_true (by kernel_rfl) ?_
        refine we_seq fun K11 hK11 => ?_
        refine we_region [(0, 0)] rfl ?_
        refine ge_batch [0] (ans := []) (vs := [(6, .bool false)]) (l := []) (by kernel_rfl) trivial ?_
        refine ge_nil fun a hF => hK11 _ _ ?_ a hF
        have hS11 := hS5.takeN 0
        obtain rfl := Option.some.inj h
        exact we_ret fun a hF => hQ _ _ _ (Outs.out nofun (Exits.on ⟨rfl, (post_ret (rs := [.tmp 6]) (ans := []) (vs := [.bool false]) (l := []) rfl (by kernel_rfl) trivial ⟨rfl, hS11⟩) a hF⟩))
    · rw [if_neg hc3] at h
      refine ge_known (t := 26) (b := decide ((i1 : Int) < (l1.length : Int))) (c := false) (by kernel_rfl) (decide_eq_false hc3) ?_
      refine ge_batch [5, 6, 7, 8, 9, 10, 11, 12, 13, 14, 15, 16, 17] (ans := []) (vs := [(39, .bool (decide ((i1 : Int) ≥ (l1.length : Int)))), (38, .bool (decide ((i1 : Int) ≥ (l1.length : Int)))), (37, .int .i64 (l1.length : Int)), (36, .slice A1 l1.length c1), (35, .int .i64 (i1 : Int)), (34, .bool false), (33, .bool false), (32, undef), (31, undef), (30, undef), (29, undef), (28, undef), (27, undef)]) (l := []) (by kernel_rfl) trivial ?_
      by_cases hc7 : (i1 : Int) ≥ (l1.length : Int)
      · rw [if_pos hc7] at h
        refine ge_known (t := 39) (b := decide ((i1 : Int) ≥ (l1.length : Int))) (c := true) (by kernel_rfl) (decide_eq_true hc7) ?_
        refine ge_batch [18, 19] (ans := [.val (.int .i64 e1.Task), .val (.int .i64 e1.At), .val (.int .i64 e1.C), .val (.int .i64 e1.Due), .val (.int .i64 e1.P), .val (.int .i64 x2.Task), .val (.int .i64 x2.At), .val (.int .i64 x2.C), .val (.int .i64 x2.Due), .val (.int .i64 x2.P)]) (vs := [(41, .agg #[.int .i64 x2.Task, .int .i64 x2.At, .int .i64 x2.C, .int .i64 x2.Due, .int .i64 x2.P]), (40, .agg #[.int .i64 e1.Task, .int .i64 e1.At, .int .i64 e1.C, .int .i64 e1.Due, .int .i64 e1.P])]) (l := [.loaded ⟨b2, 0, none⟩ (.int .i64 e1.Task), .loaded ⟨b2, 1, none⟩ (.int .i64 e1.At), .loaded ⟨b2, 2, none⟩ (.int .i64 e1.C), .loaded ⟨b2, 3, none⟩ (.int .i64 e1.Due), .loaded ⟨b2, 4, none⟩ (.int .i64 e1.P), .loaded ⟨b1, 0, none⟩ (.int .i64 x2.Task), .loaded ⟨b1, 1, none⟩ (.int .i64 x2.At), .loaded ⟨b1, 2, none⟩ (.int .i64 x2.C), .loaded ⟨b1, 3, none⟩ (.int .i64 x2.Due), .loaded ⟨b1, 4, none⟩ (.int .i64 x2.P)]) (by kernel_rfl) ⟨hS5.cell 0 rfl rfl, hS5.cell 0 rfl rfl, hS5.cell 0 rfl rfl, hS5.cell 0 rfl rfl, hS5.cell 0 rfl rfl, hS5.cell 1 rfl rfl, hS5.cell 1 rfl rfl, hS5.cell 1 rfl rfl, hS5.cell 1 rfl rfl, hS5.cell 1 rfl rfl, trivial⟩ ?_
        refine ge_eqs (d := 42) (ty := 4) (op := .neq) (x := (.tmp 40)) (y := (.tmp 41)) (t := 58) (t2 := 58) (xs := #[.int .i64 e1.Task, .int .i64 e1.At, .int .i64 e1.C, .int .i64 e1.Due, .int .i64 e1.P]) (ys := #[.int .i64 x2.Task, .int .i64 x2.At, .int .i64 x2.C, .int .i64 x2.Due, .int .i64 x2.P]) (r := (SJob.eqb e1 x2)) (v := !(SJob.eqb e1 x2)) (by kernel_rfl) (by kernel_rfl) (by kernel_rfl) (by kernel_rfl) (by kernel_rfl) rfl ?_
        refine ge_batch [21, 22] (ans := []) (vs := [(44, .bool (!(SJob.eqb e1 x2))), (43, .bool (!(SJob.eqb e1 x2)))]) (l := []) (by kernel_rfl) trivial ?_
        refine ge_nil fun a hF => hK9 _ _ ?_ a hF
        by_cases hc8 : (SJob.eqb e1 x2) = true
        · rw [if_pos hc8] at h
          refine we_known (t := 44) (b := !(SJob.eqb e1 x2)) (v := false) (by kernel_rfl) (congrArg (fun z => !z) hc8) ?_
          refine we_false (by kernel_rfl) ?_
          refine we_skip fun a hF => hK7 _ _ ?_ a hF
          refine we_region [(0, 0), (1, 0)] rfl ?_
          refine ge_addn (d := 45) (ty := 3) (x := (.tmp 17)) (y := (.const (.int .i64 1))) (t := 3) (t2 := 3) (k := .i64) (m := i1) (by kernel_rfl) (by kernel_rfl) (by kernel_rfl) (by have h0 := hR0.small; omega) ?_
          refine ge_batch [1] (ans := []) (vs := [(17, .int .i64 ((i1 + 1 : Nat) : Int))]) (l := []) (by kernel_rfl) trivial ?_
          have hS12 := hS5.bring 1 rfl
          have hS13 := hS12.takeN 1
          obtain rfl := Option.some.inj h
          exact ge_nil fun a hF => hQ _ _ _ (Outs.again ⟨hS13, hF.weaken ⟨by kernel_rfl, by kernel_rfl, by kernel_rfl, by kernel_rfl, by kernel_rfl, trivial⟩⟩)
        · rw [if_neg hc8] at h
          refine we_known (t := 44) (b := !(SJob.eqb e1 x2)) (v := true) (by kernel_rfl) (congrArg (fun z => !z) (Bool.eq_false_iff.2 hc8)) ?_
          refine we_true (by kernel_rfl) ?_
          refine we_seq fun K12 hK12 => ?_
          refine we_region [(0, 0)] rfl ?_
          refine ge_batch [0] (ans := []) (vs := [(6, .bool false)]) (l := []) (by kernel_rfl) trivial ?_
          refine ge_nil fun a hF => hK12 _ _ ?_ a hF
          have hS14 := hS5.takeN 0
          obtain rfl := Option.some.inj h
          exact we_ret fun a hF => hQ _ _ _ (Outs.out nofun (Exits.on ⟨rfl, (post_ret (rs := [.tmp 6]) (ans := []) (vs := [.bool false]) (l := []) rfl (by kernel_rfl) trivial ⟨rfl, hS14⟩) a hF⟩))
      · rw [if_neg hc7] at h
        refine ge_known (t := 39) (b := decide ((i1 : Int) ≥ (l1.length : Int))) (c := false) (by kernel_rfl) (decide_eq_false hc7) ?_
        refine ge_batch [18, 19, 20, 21, 22] (ans := []) (vs := [(44, .bool false), (43, .bool false), (42, undef), (41, undef), (40, undef)]) (l := []) (by kernel_rfl) trivial ?_
        refine ge_nil fun a hF => hK9 _ _ ?_ a hF
        refine we_false (by kernel_rfl) ?_
        refine we_skip fun a hF => hK7 _ _ ?_ a hF
        refine we_region [(0, 0), (1, 0)] rfl ?_
        refine ge_addn (d := 45) (ty := 3) (x := (.tmp 17)) (y := (.const (.int .i64 1))) (t := 3) (t2 := 3) (k := .i64) (m := i1) (by kernel_rfl) (by kernel_rfl) (by kernel_rfl) (by have h0 := hR0.small; omega) ?_
        refine ge_batch [1] (ans := []) (vs := [(17, .int .i64 ((i1 + 1 : Nat) : Int))]) (l := []) (by kernel_rfl) trivial ?_
        have hS15 := hS5.bring 1 rfl
        have hS16 := hS15.takeN 1
        obtain rfl := Option.some.inj h
        exact ge_nil fun a hF => hQ _ _ _ (Outs.again ⟨hS16, hF.weaken ⟨by kernel_rfl, by kernel_rfl, by kernel_rfl, by kernel_rfl, by kernel_rfl, trivial⟩⟩)
  · rw [if_neg hc2] at h
    refine we_known (t := 18) (b := decide ((i1 : Int) < (f0.length : Int))) (v := false) (by kernel_rfl) (decide_eq_false hc2) ?_
    refine we_false (by kernel_rfl) ?_
    have hS17 := hS.takeN 0
    obtain rfl := Option.some.inj h
    exact we_exit fun a hF => hQ _ _ _ (Outs.out nofun (Exits.here ⟨hS17, hF.weaken trivial⟩))
theorem punctualsame_Still_api_Job_ok (K : Nat) (f0 : List SJob) (A0 : Option Addr) (n0 : Nat) (c0 : Nat) (l1 : List SJob) (A1 : Option Addr) (c1 : Nat) (x2 : SJob) (w0 : World) (hR0 : RdL w0 A0 f0) (hc0 : f0.length ≤ c0) (hR1 : RdL w0 A1 l1) (hL1 : l1.length ≤ c1) (r : Bool) (h : punctualsame_Still_api_Job.f K f0 l1 x2 = some r) :
    Calls Tryd.prog 33 #[.slice A0 n0 c0, .slice A1 l1.length c1, .agg #[.int .i64 x2.Task, .int .i64 x2.At, .int .i64 x2.C, .int .i64 x2.Due, .int .i64 x2.P]] w0 (punctualsame_Still_api_Job.Post w0 r) := by
  have hS := St.start w0
  unfold punctualsame_Still_api_Job.f at h
  refine calls_enter (n := 46) (args := [.slice A0 n0 c0, .slice A1 l1.length c1, .agg #[.int .i64 x2.Task, .int .i64 x2.At, .int .i64 x2.C, .int .i64 x2.Due, .int .i64 x2.P]]) (fn := Tryd.f33) rfl rfl rfl rfl ?_
  show WE _ _ _ _ [(0, .slice A0 n0 c0), (1, .slice A1 l1.length c1), (2, .agg #[.int .i64 x2.Task, .int .i64 x2.At, .int .i64 x2.C, .int .i64 x2.Due, .int .i64 x2.P])] _
  refine we_seq fun K1 hK1 => ?_
  refine we_region [(0, 1), (1, 0)] rfl ?_
  refine ge_new (d := some 5) (o := .cells #[.int .i64 x2.Task, .int .i64 x2.At, .int .i64 x2.C, .int .i64 x2.Due, .int .i64 x2.P] 58) (v := fun b => .pointer (some ⟨b, 0, none⟩)) hS (fun b => by kernel_rfl) fun b1 w1 hx1 hS1 => ?_
  refine ge_batch [1] (ans := []) (vs := [(6, .bool false)]) (l := []) (by kernel_rfl) trivial ?_
  refine ge_nil fun a hF => hK1 _ _ ?_ a hF
  refine we_seq fun K2 hK2 => ?_
  refine we_region [(0, 0), (1, 0), (2, 0), (3, 0), (4, 0), (5, 0)] rfl ?_
  refine ge_batch [0, 1, 2, 3] (ans := []) (vs := [(13, .int .i64 (IntKind.i64.wrap ((l1.length : Int) + 3))), (12, .int .i64 (l1.length : Int)), (11, .slice A1 l1.length c1), (10, .slice A0 n0 c0)]) (l := []) (by kernel_rfl) trivial ?_
  by_cases hc1 : (IntKind.i64.wrap ((l1.length : Int) + 3)) = (f0.length : Int)
  · rw [if_pos hc1] at h
    refine ge_sliceHi (d := 14) (ty := 49) (t := 49) (el := 58) (sz := 5) (m := n0) (c := c0) (hn := f0.length) (x := (.tmp 10)) (y := (.tmp 13)) (A := A0) (k' := .i64) (hi := (IntKind.i64.wrap ((l1.length : Int) + 3))) (by kernel_rfl) (by kernel_rfl) (by kernel_rfl) hc1 (by kernel_rfl) (by kernel_rfl) hc0 ?_
    refine ge_batch [5] (ans := []) (vs := [(7, .slice A0 f0.length c0)]) (l := []) (by kernel_rfl) trivial ?_
    refine ge_nil fun a hF => hK2 _ _ ?_ a hF
    refine we_seq fun K3 hK3 => ?_
    refine we_seq fun K4 hK4 => ?_
    refine we_region [(0, 0), (1, 0), (2, 0)] rfl ?_
    refine ge_batch [0, 1, 2] (ans := []) (vs := [(17, .int .i64 0), (16, .int .i64 (f0.length : Int)), (15, .slice A0 f0.length c0)]) (l := []) (by kernel_rfl) trivial ?_
    refine ge_nil fun a hF => hK4 _ _ ?_ a hF
    refine we_block ?_
    rcases hq1 : iter (punctualsame_Still_api_Job.r0 f0 l1 x2) K 0 with _ | (_ | rr1)
    · rw [hq1] at h; cases h
    · rw [hq1] at h
      simp only [] at h
      refine we_iter (A := punctualsame_Still_api_Job.A0 K w0 f0 A0 n0 c0 l1 A1 c1 x2 hR0 hc0 hR1 hL1 b1 hc1) (B := punctualsame_Still_api_Job.B0 K w0 f0 A0 n0 c0 l1 A1 c1 x2 hR0 hc0 hR1 hL1 b1 hc1) hq1 (fun a hF => ⟨hS1, hF.weaken ⟨by kernel_rfl, by kernel_rfl, by kernel_rfl, by kernel_rfl, by kernel_rfl, trivial⟩⟩) (fun s o hf a w hA Q hQ => punctualsame_Still_api_Job_r0 K w0 f0 A0 n0 c0 l1 A1 c1 x2 hR0 hc0 hR1 hL1 b1 hc1 s o hf a w hA Q hQ) ?_
      rintro _ a w4 _ ⟨rfl, hS18, hF⟩
      replace hS18 : St w0 w4 [] := hS18
      refine hK3 [] w4 ?_ a hF
      refine we_seq fun K13 hK13 => ?_
      refine we_region [(0, 0)] rfl ?_
      refine ge_batch [0] (ans := []) (vs := [(6, .bool true)]) (l := []) (by kernel_rfl) trivial ?_
      refine ge_nil fun a hF => hK13 _ _ ?_ a hF
      obtain rfl := Option.some.inj h
      exact we_ret (post_ret (rs := [.tmp 6]) (ans := []) (vs := [.bool true]) (l := []) rfl (by kernel_rfl) trivial ⟨rfl, hS18⟩)
    · rw [hq1] at h
      simp only [] at h
      refine we_iter (A := punctualsame_Still_api_Job.A0 K w0 f0 A0 n0 c0 l1 A1 c1 x2 hR0 hc0 hR1 hL1 b1 hc1) (B := punctualsame_Still_api_Job.B0 K w0 f0 A0 n0 c0 l1 A1 c1 x2 hR0 hc0 hR1 hL1 b1 hc1) hq1 (fun a hF => ⟨hS1, hF.weaken ⟨by kernel_rfl, by kernel_rfl, by kernel_rfl, by kernel_rfl, by kernel_rfl, trivial⟩⟩) (fun s o hf a w hA Q hQ => punctualsame_Still_api_Job_r0 K w0 f0 A0 n0 c0 l1 A1 c1 x2 hR0 hc0 hR1 hL1 b1 hc1 s o hf a w hA Q hQ) ?_
      rintro _ a w1 _ ⟨rfl, hb⟩
      obtain rfl := Option.some.inj h
      exact hb
  · rw [if_neg hc1] at h
    cases h
end Go.Proofs.YtcogbnkioobmkaaDoor.GV
