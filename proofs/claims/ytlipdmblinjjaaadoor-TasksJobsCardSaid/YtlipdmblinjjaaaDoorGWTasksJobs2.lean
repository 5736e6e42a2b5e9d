/- Walks of single functions, written by a program of this work. -/
import Derived.Test.YtlipdmblinjjaaaDoorGWTasksJobs1
namespace Go.Proofs.YtlipdmblinjjaaaDoor.GV
open Go Go.RowKit
set_option linter.unusedVariables false
set_option linter.unusedSimpArgs false
set_option maxRecDepth 100000

/-! punctual/punctualref.CheckSet -/
abbrev punctualref_CheckSet.Post (w0 : World) (r : SFault) (e : Ending) (w : World) : Prop := e = .returned (.agg #[.int .i64 r.Code, .int .i64 r.At]) ∧ St w0 w []
def punctualref_CheckSet.p0 (l0 : List STask) : Option (Unit ⊕ SFault) :=
    if (l0.length : Int) = 0 then
      some (.inr (punctualref_F.f 2 0))
    else
      if (l0.length : Int) > 8 then
        some (.inr (punctualref_F.f 2 0))
      else
        some (.inl ())
def punctualref_CheckSet.p2 (e1 : STask) : Option (Bool ⊕ SFault) :=
    if (e1.Name.size : Int) ≥ 1 then
      some (.inl (decide ((e1.Name.size : Int) ≤ 10)))
    else
      some (.inl false)
def punctualref_CheckSet.r3 (e1 : STask) : Bool × Int → Option ((Bool × Int) ⊕ (Bool ⊕ SFault))
  | (q3, z1) =>
    if z1 < (e1.Name.size : Int) then
      if q3 = true then
        if 0 ≤ z1 then
          match e1.Name[(z1).toNat]? with
          | none => none
          | some b3 =>
            if (b3.toNat : Int) ≥ 97 then
              some (.inl (decide ((b3.toNat : Int) ≤ 122), IntKind.i64.wrap (z1 + 1)))
            else
              some (.inl (false, IntKind.i64.wrap (z1 + 1)))
        else
          none
      else
        some (.inl (false, IntKind.i64.wrap (z1 + 1)))
    else
      some (.inr (.inl q3))
def punctualref_CheckSet.r4 (l0 : List STask) (i1 : Nat) (e1 : STask) : Nat → Option (Nat ⊕ (Unit ⊕ SFault))
  | i2 =>
    if (i2 : Int) < (((l0.take i1).drop 0).length : Int) then
      match ((l0.take i1).drop 0)[i2]? with
      | none => none
      | some e2 =>
        if e2.Name.toList = e1.Name.toList then
          some (.inr (.inr (punctualref_F.f 5 (i1 : Int))))
        else
          some (.inl (i2 + 1))
    else
      some (.inr (.inl ()))
def punctualref_CheckSet.r5 (i1 : Nat) (e1 : STask) : Nat → Option (Nat ⊕ (Unit ⊕ SFault))
  | i3 =>
    if (i3 : Int) < 6 then
      match ([(punctualref_sixOf.f e1).a0, (punctualref_sixOf.f e1).a1, (punctualref_sixOf.f e1).a2, (punctualref_sixOf.f e1).a3, (punctualref_sixOf.f e1).a4, (punctualref_sixOf.f e1).a5] : List Int)[i3]? with
      | none => none
      | some e3 =>
        match ([1, 1, 1, 0, 0, 0] : List Int)[i3]? with
        | none => none
        | some e4 =>
          if e3 < e4 then
            some (.inr (.inr (punctualref_F.f 3 (i1 : Int))))
          else
            match ([10000, 10000, 10000, 10000, 10000, 1000] : List Int)[i3]? with
            | none => none
            | some e5 =>
              if e3 > e5 then
                some (.inr (.inr (punctualref_F.f 3 (i1 : Int))))
              else
                some (.inl (i3 + 1))
    else
      some (.inr (.inl ()))
def punctualref_CheckSet.r1 (K : Nat) (l0 : List STask) : Nat → Option (Nat ⊕ (Unit ⊕ SFault))
  | i1 =>
    if (i1 : Int) < (l0.length : Int) then
      match l0[i1]? with
      | none => none
      | some e1 =>
        match punctualref_CheckSet.p2 e1 with
        | none => none
        | some (.inl q2) =>
          match iter (punctualref_CheckSet.r3 e1) K (q2, 0) with
          | none => none
          | some (.inl q5) =>
            if q5 = true then
              if i1 ≤ l0.length then
                match iter (punctualref_CheckSet.r4 l0 i1 e1) K 0 with
                | none => none
                | some (.inl _) =>
                  match iter (punctualref_CheckSet.r5 i1 e1) K 0 with
                  | none => none
                  | some (.inl _) =>
                    if e1.D < e1.C then
                      some (.inr (.inr (punctualref_F.f 12 (i1 : Int))))
                    else
                      some (.inl (i1 + 1))
                  | some (.inr rr1) =>
                    some (.inr (.inr rr1))
                | some (.inr rr2) =>
                  some (.inr (.inr rr2))
              else
                none
            else
              some (.inr (.inr (punctualref_F.f 4 (i1 : Int))))
          | some (.inr rr3) =>
            some (.inr (.inr rr3))
        | some (.inr rr4) =>
          some (.inr (.inr rr4))
    else
      some (.inr (.inl ()))
def punctualref_CheckSet.f (K : Nat) (l0 : List STask) : Option SFault :=
  match punctualref_CheckSet.p0 l0 with
  | none => none
  | some (.inl _) =>
    match iter (punctualref_CheckSet.r1 K l0) K 0 with
    | none => none
    | some (.inl _) =>
      some (⟨0, 0⟩ : SFault)
    | some (.inr rr5) =>
      some rr5
  | some (.inr rr6) =>
    some rr6
abbrev punctualref_CheckSet.A0 (K : Nat) (w0 : World) (l0 : List STask) (A0 : Option Addr) (c0 : Nat) (hR0 : RdL w0 A0 l0) (hL0 : l0.length ≤ c0) (b1 : Nat) : Unit → Act → World → Prop := fun (s : Unit) a w => St w0 w [Own.blk b1 (.cells #[.int .i64 0, .int .i64 0] 26 (0, 0))] ∧ Frm 113 a [(0, .slice A0 l0.length c0), (2, .pointer (some ⟨b1, 0, none⟩))]
abbrev punctualref_CheckSet.B0 (K : Nat) (w0 : World) (l0 : List STask) (A0 : Option Addr) (c0 : Nat) (hR0 : RdL w0 A0 l0) (hL0 : l0.length ≤ c0) (b1 : Nat) : SFault → Exit → Act → World → Prop := Rets Tryd.prog Tryd.f23 (punctualref_CheckSet.Post w0)
theorem punctualref_CheckSet_p0 (K : Nat) (w0 : World) (l0 : List STask) (A0 : Option Addr) (c0 : Nat) (hR0 : RdL w0 A0 l0) (hL0 : l0.length ≤ c0) (b1 : Nat) (o : Unit ⊕ SFault) (h : punctualref_CheckSet.p0 l0 = some o) (w : World) (hS : St w0 w [Own.blk b1 (.cells #[.int .i64 0, .int .i64 0] 26 (0, 0))]) (Q : Exit → Act → World → Prop) (hQ : ∀ x a w, Outs (punctualref_CheckSet.A0 K w0 l0 A0 c0 hR0 hL0 b1) (punctualref_CheckSet.B0 K w0 l0 A0 c0 hR0 hL0 b1) o x a w → Q x a w) : WE Tryd.prog 113 (subF Tryd.f23 [1, 0]) Q [(0, .slice A0 l0.length c0), (2, .pointer (some ⟨b1, 0, none⟩))] w := by
  simp only [punctualref_CheckSet.p0] at h
  refine we_seq fun K3 hK3 => ?_
  refine we_region [(0, 0), (1, 0), (2, 0), (3, 0), (4, 0), (5, 0), (6, 0), (7, 0)] rfl ?_
  refine ge_batch [0, 1, 2, 3] (ans := []) (vs := [(16, .bool ((l0.length : Int) == 0)), (15, .bool ((l0.length : Int) == 0)), (14, .int .i64 (l0.length : Int)), (13, .slice A0 l0.length c0)]) (l := []) (by kernel_rfl) trivial ?_
  by_cases hc1 : (l0.length : Int) = 0
  · rw [if_pos hc1] at h
    refine ge_known (t := 16) (b := ((l0.length : Int) == 0)) (c := true) (by kernel_rfl) (beq_iff_eq.2 hc1) ?_
    refine ge_batch [4, 5, 6, 7] (ans := []) (vs := [(20, .bool true), (19, undef), (18, undef), (17, undef)]) (l := []) (by kernel_rfl) trivial ?_
    refine ge_nil fun a hF => hK3 _ _ ?_ a hF
    refine we_true (by kernel_rfl) ?_
    refine we_seq fun K4 hK4 => ?_
    refine we_region [(0, 1), (1, 2)] rfl ?_
    refine ge_call (d := some 21) (f := 21) (args := #[.int .i64 2, .int .i64 0]) (by kernel_rfl) (punctualref_F_ok 2 0 _ _ rfl) ?_
    rintro _ w2 ⟨rfl, hS2⟩
    refine ⟨_, rfl, hS2.below, ?_⟩
    have hS3 := hS.call hS2
    refine ge_set (b := b1) (j := 0) (cs := #[.int .i64 0, .int .i64 0]) (t := 26) (vs := [.int .i64 ((punctualref_F.f 2 0).Code), .int .i64 ((punctualref_F.f 2 0).At)]) hS3 (by kernel_rfl) rfl rfl fun w3 hS4 => ?_
    have hS5 : St w0 w3 [Own.blk b1 (.cells #[.int .i64 ((punctualref_F.f 2 0).Code), .int .i64 ((punctualref_F.f 2 0).At)] 26 (0, 0))] := hS4
    refine ge_nil fun a hF => hK4 _ _ ?_ a hF
    have hS6 := hS5.takeN 0
    obtain rfl := Option.some.inj h
    exact we_ret fun a hF => hQ _ _ _ (Outs.out nofun ⟨rfl, (post_ret (rs := [.cell 2 26]) (ans := [.val (.int .i64 ((punctualref_F.f 2 0).Code)), .val (.int .i64 ((punctualref_F.f 2 0).At))]) (vs := [.agg #[.int .i64 ((punctualref_F.f 2 0).Code), .int .i64 ((punctualref_F.f 2 0).At)]]) (l := [.loaded ⟨b1, 0, none⟩ (.int .i64 ((punctualref_F.f 2 0).Code)), .loaded ⟨b1, 1, none⟩ (.int .i64 ((punctualref_F.f 2 0).At))]) rfl (by kernel_rfl) ⟨hS5.cell 0 rfl rfl, hS5.cell 0 rfl rfl, trivial⟩ ⟨rfl, hS6⟩) a hF⟩)
  · rw [if_neg hc1] at h
    refine ge_known (t := 16) (b := ((l0.length : Int) == 0)) (c := false) (by kernel_rfl) (beq_eq_false_iff_ne.2 hc1) ?_
    refine ge_batch [4, 5, 6, 7] (ans := []) (vs := [(20, .bool (decide ((l0.length : Int) > 8))), (19, .bool (decide ((l0.length : Int) > 8))), (18, .int .i64 (l0.length : Int)), (17, .slice A0 l0.length c0)]) (l := []) (by kernel_rfl) trivial ?_
    refine ge_nil fun a hF => hK3 _ _ ?_ a hF
    by_cases hc2 : (l0.length : Int) > 8
    · rw [if_pos hc2] at h
      refine we_known (t := 20) (b := decide ((l0.length : Int) > 8)) (v := true) (by kernel_rfl) (decide_eq_true hc2) ?_
      refine we_true (by kernel_rfl) ?_
      refine we_seq fun K5 hK5 => ?_
      refine we_region [(0, 1), (1, 2)] rfl ?_
      refine ge_call (d := some 21) (f := 21) (args := #[.int .i64 2, .int .i64 0]) (by kernel_rfl) (punctualref_F_ok 2 0 _ _ rfl) ?_
      rintro _ w4 ⟨rfl, hS7⟩
      refine ⟨_, rfl, hS7.below, ?_⟩
      have hS8 := hS.call hS7
      refine ge_set (b := b1) (j := 0) (cs := #[.int .i64 0, .int .i64 0]) (t := 26) (vs := [.int .i64 ((punctualref_F.f 2 0).Code), .int .i64 ((punctualref_F.f 2 0).At)]) hS8 (by kernel_rfl) rfl rfl fun w5 hS9 => ?_
      have hS10 : St w0 w5 [Own.blk b1 (.cells #[.int .i64 ((punctualref_F.f 2 0).Code), .int .i64 ((punctualref_F.f 2 0).At)] 26 (0, 0))] := hS9
      refine ge_nil fun a hF => hK5 _ _ ?_ a hF
      have hS11 := hS10.takeN 0
      obtain rfl := Option.some.inj h
      exact we_ret fun a hF => hQ _ _ _ (Outs.out nofun ⟨rfl, (post_ret (rs := [.cell 2 26]) (ans := [.val (.int .i64 ((punctualref_F.f 2 0).Code)), .val (.int .i64 ((punctualref_F.f 2 0).At))]) (vs := [.agg #[.int .i64 ((punctualref_F.f 2 0).Code), .int .i64 ((punctualref_F.f 2 0).At)]]) (l := [.loaded ⟨b1, 0, none⟩ (.int .i64 ((punctualref_F.f 2 0).Code)), .loaded ⟨b1, 1, none⟩ (.int .i64 ((punctualref_F.f 2 0).At))]) rfl (by kernel_rfl) ⟨hS10.cell 0 rfl rfl, hS10.cell 0 rfl rfl, trivial⟩ ⟨rfl, hS11⟩) a hF⟩)
    · rw [if_neg hc2] at h
      refine we_known (t := 20) (b := decide ((l0.length : Int) > 8)) (v := false) (by kernel_rfl) (decide_eq_false hc2) ?_
      refine we_false (by kernel_rfl) ?_
      obtain rfl := Option.some.inj h
      exact we_skip fun a hF => hQ _ _ _ (Outs.again ⟨hS, hF.weaken ⟨by kernel_rfl, by kernel_rfl, trivial⟩⟩)
abbrev punctualref_CheckSet.A2 (K : Nat) (w0 : World) (l0 : List STask) (A0 : Option Addr) (c0 : Nat) (hR0 : RdL w0 A0 l0) (hL0 : l0.length ≤ c0) (b1 : Nat) (i1 : Nat) (hc3 : (i1 : Int) < (l0.length : Int)) (e1 : STask) (hx2 : l0[i1]? = some e1) (b2 : Nat) : Bool → Act → World → Prop := fun (s : Bool) a w => St w0 w [Own.blk b2 (.cells #[.string e1.Name, .int .i64 e1.C, .int .i64 e1.T, .int .i64 e1.D, .int .i64 e1.J, .int .i64 e1.O, .int .i64 e1.P] 46 (0, 0)), Own.blk b1 (.cells #[.int .i64 0, .int .i64 0] 26 (0, 0))] ∧ Frm 113 a [(0, .slice A0 l0.length c0), (2, .pointer (some ⟨b1, 0, none⟩)), (3, .int .i64 (i1 : Int)), (4, .pointer (some ⟨b2, 0, none⟩)), (5, .bool s), (22, .slice A0 l0.length c0), (23, .int .i64 (l0.length : Int)), (24, .int .i64 (i1 : Int))]
abbrev punctualref_CheckSet.B2 (K : Nat) (w0 : World) (l0 : List STask) (A0 : Option Addr) (c0 : Nat) (hR0 : RdL w0 A0 l0) (hL0 : l0.length ≤ c0) (b1 : Nat) (i1 : Nat) (hc3 : (i1 : Int) < (l0.length : Int)) (e1 : STask) (hx2 : l0[i1]? = some e1) (b2 : Nat) : SFault → Exit → Act → World → Prop := Rets Tryd.prog Tryd.f23 (punctualref_CheckSet.Post w0)
theorem punctualref_CheckSet_p2 (K : Nat) (w0 : World) (l0 : List STask) (A0 : Option Addr) (c0 : Nat) (hR0 : RdL w0 A0 l0) (hL0 : l0.length ≤ c0) (b1 : Nat) (i1 : Nat) (hc3 : (i1 : Int) < (l0.length : Int)) (e1 : STask) (hx2 : l0[i1]? = some e1) (b2 : Nat) (o : Bool ⊕ SFault) (h : punctualref_CheckSet.p2 e1 = some o) (w : World) (hS : St w0 w [Own.blk b2 (.cells #[.string e1.Name, .int .i64 e1.C, .int .i64 e1.T, .int .i64 e1.D, .int .i64 e1.J, .int .i64 e1.O, .int .i64 e1.P] 46 (0, 0)), Own.blk b1 (.cells #[.int .i64 0, .int .i64 0] 26 (0, 0))]) (Q : Exit → Act → World → Prop) (hQ : ∀ x a w, Outs (punctualref_CheckSet.A2 K w0 l0 A0 c0 hR0 hL0 b1 i1 hc3 e1 hx2 b2) (punctualref_CheckSet.B2 K w0 l0 A0 c0 hR0 hL0 b1 i1 hc3 e1 hx2 b2) o x a w → Q x a w) : WE Tryd.prog 113 (subF Tryd.f23 [1, 1, 0, 1, 0, 0, 1, 1, 0, 0, 1, 0]) Q [(0, .slice A0 l0.length c0), (2, .pointer (some ⟨b1, 0, none⟩)), (3, .int .i64 (i1 : Int)), (4, .pointer (some ⟨b2, 0, none⟩)), (22, .slice A0 l0.length c0), (23, .int .i64 (l0.length : Int)), (24, .int .i64 (i1 : Int)), (25, .bool true), (26, .int .i64 (i1 : Int)), (27, .pointer (some ⟨blkOf A0, offOf A0 + i1 * 7, none⟩)), (28, .agg #[.string e1.Name, .int .i64 e1.C, .int .i64 e1.T, .int .i64 e1.D, .int .i64 e1.J, .int .i64 e1.O, .int .i64 e1.P])] w := by
  simp only [punctualref_CheckSet.p2] at h
  refine we_region [(0, 0), (1, 0), (2, 0), (3, 0), (4, 0), (5, 0), (6, 0), (7, 0), (8, 0), (9, 0), (10, 0)] rfl ?_
  refine ge_batch [0, 1, 2, 3, 4] (ans := [.val (.string e1.Name)]) (vs := [(33, .bool (decide ((e1.Name.size : Int) ≥ 1))), (32, .bool (decide ((e1.Name.size : Int) ≥ 1))), (31, .int .i64 (e1.Name.size : Int)), (30, .string e1.Name), (29, .pointer (some ⟨b2, 0, none⟩))]) (l := [.loaded ⟨b2, 0, none⟩ (.string e1.Name)]) (by kernel_rfl) ⟨hS.cell 0 rfl rfl, trivial⟩ ?_
  by_cases hc4 : (e1.Name.size : Int) ≥ 1
  · rw [if_pos hc4] at h
    refine ge_known (t := 33) (b := decide ((e1.Name.size : Int) ≥ 1)) (c := true) (by kernel_rfl) (decide_eq_true hc4) ?_
    refine ge_batch [5, 6, 7, 8, 9, 10] (ans := [.val (.string e1.Name)]) (vs := [(5, .bool (decide ((e1.Name.size : Int) ≤ 10))), (38, .bool (decide ((e1.Name.size : Int) ≤ 10))), (37, .bool (decide ((e1.Name.size : Int) ≤ 10))), (36, .int .i64 (e1.Name.size : Int)), (35, .string e1.Name), (34, .pointer (some ⟨b2, 0, none⟩))]) (l := [.loaded ⟨b2, 0, none⟩ (.string e1.Name)]) (by kernel_rfl) ⟨hS.cell 0 rfl rfl, trivial⟩ ?_
    have hS16 := hS.bring 1 rfl
    have hS17 := hS16.bring 1 rfl
    obtain rfl := Option.some.inj h
    exact ge_nil fun a hF => hQ _ _ _ (Outs.again ⟨hS17, hF.weaken ⟨by kernel_rfl, by kernel_rfl, by kernel_rfl, by kernel_rfl, by kernel_rfl, by kernel_rfl, by kernel_rfl, by kernel_rfl, trivial⟩⟩)
  · rw [if_neg hc4] at h
    refine ge_known (t := 33) (b := decide ((e1.Name.size : Int) ≥ 1)) (c := false) (by kernel_rfl) (decide_eq_false hc4) ?_
    refine ge_batch [5, 6, 7, 8, 9, 10] (ans := []) (vs := [(5, .bool false), (38, .bool false), (37, undef), (36, undef), (35, undef), (34, undef)]) (l := []) (by kernel_rfl) trivial ?_
    have hS18 := hS.bring 1 rfl
    have hS19 := hS18.bring 1 rfl
    obtain rfl := Option.some.inj h
    exact ge_nil fun a hF => hQ _ _ _ (Outs.again ⟨hS19, hF.weaken ⟨by kernel_rfl, by kernel_rfl, by kernel_rfl, by kernel_rfl, by kernel_rfl, by kernel_rfl, by kernel_rfl, by kernel_rfl, trivial⟩⟩)
abbrev punctualref_CheckSet.A3 (K : Nat) (w0 : World) (l0 : List STask) (A0 : Option Addr) (c0 : Nat) (hR0 : RdL w0 A0 l0) (hL0 : l0.length ≤ c0) (b1 : Nat) (i1 : Nat) (hc3 : (i1 : Int) < (l0.length : Int)) (e1 : STask) (hx2 : l0[i1]? = some e1) (b2 : Nat) (q2 : Bool) : (Bool × Int) → Act → World → Prop := fun (s : Bool × Int) a w => St w0 w [Own.blk b2 (.cells #[.string e1.Name, .int .i64 e1.C, .int .i64 e1.T, .int .i64 e1.D, .int .i64 e1.J, .int .i64 e1.O, .int .i64 e1.P] 46 (0, 0)), Own.blk b1 (.cells #[.int .i64 0, .int .i64 0] 26 (0, 0))] ∧ Frm 113 a [(0, .slice A0 l0.length c0), (2, .pointer (some ⟨b1, 0, none⟩)), (3, .int .i64 (i1 : Int)), (4, .pointer (some ⟨b2, 0, none⟩)), (5, .bool s.1), (6, .int .i64 s.2), (22, .slice A0 l0.length c0), (23, .int .i64 (l0.length : Int)), (24, .int .i64 (i1 : Int))]
abbrev punctualref_CheckSet.B3 (K : Nat) (w0 : World) (l0 : List STask) (A0 : Option Addr) (c0 : Nat) (hR0 : RdL w0 A0 l0) (hL0 : l0.length ≤ c0) (b1 : Nat) (i1 : Nat) (hc3 : (i1 : Int) < (l0.length : Int)) (e1 : STask) (hx2 : l0[i1]? = some e1) (b2 : Nat) (q2 : Bool) : (Bool ⊕ SFault) → Exit → Act → World → Prop := Exits 2 (fun (s : Bool) a w => St w0 w [Own.blk b2 (.cells #[.string e1.Name, .int .i64 e1.C, .int .i64 e1.T, .int .i64 e1.D, .int .i64 e1.J, .int .i64 e1.O, .int .i64 e1.P] 46 (0, 0)), Own.blk b1 (.cells #[.int .i64 0, .int .i64 0] 26 (0, 0))] ∧ Frm 113 a [(0, .slice A0 l0.length c0), (2, .pointer (some ⟨b1, 0, none⟩)), (3, .int .i64 (i1 : Int)), (4, .pointer (some ⟨b2, 0, none⟩)), (5, .bool s), (22, .slice A0 l0.length c0), (23, .int .i64 (l0.length : Int)), (24, .int .i64 (i1 : Int))]) (Rets Tryd.prog Tryd.f23 (punctualref_CheckSet.Post w0))
theorem punctualref_CheckSet_r3 (K : Nat) (w0 : World) (l0 : List STask) (A0 : Option Addr) (c0 : Nat) (hR0 : RdL w0 A0 l0) (hL0 : l0.length ≤ c0) (b1 : Nat) (i1 : Nat) (hc3 : (i1 : Int) < (l0.length : Int)) (e1 : STask) (hx2 : l0[i1]? = some e1) (b2 : Nat) (q2 : Bool) (s : Bool × Int) (o : (Bool × Int) ⊕ (Bool ⊕ SFault)) (h : punctualref_CheckSet.r3 e1 s = some o) (a : Act) (w : World) (hA : punctualref_CheckSet.A3 K w0 l0 A0 c0 hR0 hL0 b1 i1 hc3 e1 hx2 b2 q2 s a w) (Q : Exit → Act → World → Prop) (hQ : ∀ x a w, Outs (punctualref_CheckSet.A3 K w0 l0 A0 c0 hR0 hL0 b1 i1 hc3 e1 hx2 b2 q2) (punctualref_CheckSet.B3 K w0 l0 A0 c0 hR0 hL0 b1 i1 hc3 e1 hx2 b2 q2) o x a w → Q x a w) : (subF Tryd.f23 [1, 1, 0, 1, 0, 0, 1, 1, 0, 0, 1, 1, 0, 1, 0, 0]).wp Tryd.prog Q a w := by
  obtain ⟨q3, z1⟩ := s
  obtain ⟨hS, hF⟩ := hA
  replace hS : St w0 w [Own.blk b2 (.cells #[.string e1.Name, .int .i64 e1.C, .int .i64 e1.T, .int .i64 e1.D, .int .i64 e1.J, .int .i64 e1.O, .int .i64 e1.P] 46 (0, 0)), Own.blk b1 (.cells #[.int .i64 0, .int .i64 0] 26 (0, 0))] := hS
  simp only [punctualref_CheckSet.r3] at h
  refine (?_ : WE Tryd.prog 113 (subF Tryd.f23 [1, 1, 0, 1, 0, 0, 1, 1, 0, 0, 1, 1, 0, 1, 0, 0]) Q [(0, .slice A0 l0.length c0), (2, .pointer (some ⟨b1, 0, none⟩)), (3, .int .i64 (i1 : Int)), (4, .pointer (some ⟨b2, 0, none⟩)), (5, .bool q3), (6, .int .i64 z1), (22, .slice A0 l0.length c0), (23, .int .i64 (l0.length : Int)), (24, .int .i64 (i1 : Int))] w) a hF
  clear hF a
  refine we_seq fun K15 hK15 => ?_
  refine we_seq fun K16 hK16 => ?_
  refine we_region [(0, 0), (1, 0), (2, 0), (3, 0), (4, 0)] rfl ?_
  refine ge_batch [0, 1, 2, 3, 4] (ans := [.val (.string e1.Name)]) (vs := [(43, .bool (decide (z1 < (e1.Name.size : Int)))), (42, .int .i64 (e1.Name.size : Int)), (41, .string e1.Name), (40, .pointer (some ⟨b2, 0, none⟩)), (39, .int .i64 z1)]) (l := [.loaded ⟨b2, 0, none⟩ (.string e1.Name)]) (by kernel_rfl) ⟨hS.cell 0 rfl rfl, trivial⟩ ?_
  refine ge_nil fun a hF => hK16 _ _ ?_ a hF
  by_cases hc5 : z1 < (e1.Name.size : Int)
  · rw [if_pos hc5] at h
    refine we_known (t := 43) (b := decide (z1 < (e1.Name.size : Int))) (v := true) (by kernel_rfl) (decide_eq_true hc5) ?_
    refine we_true (by kernel_rfl) ?_
    refine we_skip fun a hF => hK15 _ _ ?_ a hF
    refine we_seq fun K17 hK17 => ?_
    refine we_block ?_
    refine we_region [(0, 0), (1, 0), (2, 0), (3, 0), (4, 0), (5, 0), (6, 0), (7, 0), (8, 0), (9, 0), (10, 0), (11, 0), (12, 0), (13, 0), (14, 0), (15, 0)] rfl ?_
    refine ge_batch [0, 1] (ans := []) (vs := [(47, .bool q3), (46, .bool q3)]) (l := []) (by kernel_rfl) trivial ?_
    by_cases hc6 : q3 = true
    · rw [if_pos hc6] at h
      refine ge_known (t := 47) (b := q3) (c := true) (by kernel_rfl) hc6 ?_
      refine ge_batch [2, 3, 4] (ans := [.val (.string e1.Name)]) (vs := [(50, .int .i64 z1), (49, .string e1.Name), (48, .pointer (some ⟨b2, 0, none⟩))]) (l := [.loaded ⟨b2, 0, none⟩ (.string e1.Name)]) (by kernel_rfl) ⟨hS.cell 0 rfl rfl, trivial⟩ ?_
      by_cases hc7 : 0 ≤ z1
      · rw [if_pos hc7] at h
        rcases hx4 : e1.Name[(z1).toNat]? with _ | b3
        · rw [hx4] at h; cases h
        rw [hx4] at h
        simp only [] at h
        refine ge_letter (d := 51) (ty := 5) (t := 9) (x := (.tmp 49)) (y := (.tmp 50)) (k' := .i64) (j := z1) (jn := ((z1).toNat)) (s := e1.Name) (b := b3) (by kernel_rfl) (by kernel_rfl) (by kernel_rfl) (by kernel_rfl) (Int.toNat_of_nonneg hc7).symm hx4 ?_
        refine ge_batch [6, 7, 8] (ans := []) (vs := [(54, .bool (decide ((b3.toNat : Int) ≥ 97))), (53, .bool (decide ((b3.toNat : Int) ≥ 97))), (52, .bool (decide ((b3.toNat : Int) ≥ 97)))]) (l := []) (by kernel_rfl) trivial ?_
        by_cases hc8 : (b3.toNat : Int) ≥ 97
        · rw [if_pos hc8] at h
          refine ge_known (t := 54) (b := decide ((b3.toNat : Int) ≥ 97)) (c := true) (by kernel_rfl) (decide_eq_true hc8) ?_
          refine ge_batch [9, 10, 11] (ans := [.val (.string e1.Name)]) (vs := [(57, .int .i64 z1), (56, .string e1.Name), (55, .pointer (some ⟨b2, 0, none⟩))]) (l := [.loaded ⟨b2, 0, none⟩ (.string e1.Name)]) (by kernel_rfl) ⟨hS.cell 0 rfl rfl, trivial⟩ ?_
          refine ge_letter (d := 58) (ty := 5) (t := 9) (x := (.tmp 56)) (y := (.tmp 57)) (k' := .i64) (j := z1) (jn := ((z1).toNat)) (s := e1.Name) (b := b3) (by kernel_rfl) (by kernel_rfl) (by kernel_rfl) (by kernel_rfl) (Int.toNat_of_nonneg hc7).symm hx4 ?_
          refine ge_batch [13, 14, 15] (ans := []) (vs := [(5, .bool (decide ((b3.toNat : Int) ≤ 122))), (60, .bool (decide ((b3.toNat : Int) ≤ 122))), (59, .bool (decide ((b3.toNat : Int) ≤ 122)))]) (l := []) (by kernel_rfl) trivial ?_
          refine ge_nil fun a hF => hK17 _ _ ?_ a hF
          refine we_region [(0, 0), (1, 0), (2, 0)] rfl ?_
          refine ge_batch [0, 1, 2] (ans := []) (vs := [(6, .int .i64 (IntKind.i64.wrap (z1 + 1))), (45, .int .i64 (IntKind.i64.wrap (z1 + 1))), (44, .int .i64 z1)]) (l := []) (by kernel_rfl) trivial ?_
          have hS23 := hS.bring 1 rfl
          have hS24 := hS23.bring 1 rfl
          obtain rfl := Option.some.inj h
          exact ge_nil fun a hF => hQ _ _ _ (Outs.again ⟨hS24, hF.weaken ⟨by kernel_rfl, by kernel_rfl, by kernel_rfl, by kernel_rfl, by kernel_rfl, by kernel_rfl, by kernel_rfl, by kernel_rfl, by kernel_rfl, trivial⟩⟩)
        · rw [if_neg hc8] at h
          refine ge_known (t := 54) (b := decide ((b3.toNat : Int) ≥ 97)) (c := false) (by kernel_rfl) (decide_eq_false hc8) ?_
          refine ge_batch [9, 10, 11, 12, 13, 14, 15] (ans := []) (vs := [(5, .bool false), (60, .bool false), (59, undef), (58, undef), (57, undef), (56, undef), (55, undef)]) (l := []) (by kernel_rfl) trivial ?_
          refine ge_nil fun a hF => hK17 _ _ ?_ a hF
          refine we_region [(0, 0), (1, 0), (2, 0)] rfl ?_
          refine ge_batch [0, 1, 2] (ans := []) (vs := [(6, .int .i64 (IntKind.i64.wrap (z1 + 1))), (45, .int .i64 (IntKind.i64.wrap (z1 + 1))), (44, .int .i64 z1)]) (l := []) (by kernel_rfl) trivial ?_
          have hS25 := hS.bring 1 rfl
          have hS26 := hS25.bring 1 rfl
          obtain rfl := Option.some.inj h
          exact ge_nil fun a hF => hQ _ _ _ (Outs.again ⟨hS26, hF.weaken ⟨by kernel_rfl, by kernel_rfl, by kernel_rfl, by kernel_rfl, by kernel_rfl, by kernel_rfl, by kernel_rfl, by kernel_rfl, by kernel_rfl, trivial⟩⟩)
      · rw [if_neg hc7] at h
        cases h
    · rw [if_neg hc6] at h
      refine ge_known (t := 47) (b := q3) (c := false) (by kernel_rfl) (Bool.eq_false_iff.2 hc6) ?_
      refine ge_batch [2, 3, 4, 5, 6, 7, 8, 9, 10, 11, 12, 13, 14, 15] (ans := []) (vs := [(5, .bool false), (60, .bool false), (59, undef), (58, undef), (57, undef), (56, undef), (55, undef), (54, .bool false), (53, .bool false), (52, undef), (51, undef), (50, undef), (49, undef), (48, undef)]) (l := []) (by kernel_rfl) trivial ?_
      refine ge_nil fun a hF => hK17 _ _ ?_ a hF
      refine we_region [(0, 0), (1, 0), (2, 0)] rfl ?_
      refine ge_batch [0, 1, 2] (ans := []) (vs := [(6, .int .i64 (IntKind.i64.wrap (z1 + 1))), (45, .int .i64 (IntKind.i64.wrap (z1 + 1))), (44, .int .i64 z1)]) (l := []) (by kernel_rfl) trivial ?_
      have hS27 := hS.bring 1 rfl
      have hS28 := hS27.bring 1 rfl
      obtain rfl := Option.some.inj h
      exact ge_nil fun a hF => hQ _ _ _ (Outs.again ⟨hS28, hF.weaken ⟨by kernel_rfl, by kernel_rfl, by kernel_rfl, by kernel_rfl, by kernel_rfl, by kernel_rfl, by kernel_rfl, by kernel_rfl, by kernel_rfl, trivial⟩⟩)
  · rw [if_neg hc5] at h
    refine we_known (t := 43) (b := decide (z1 < (e1.Name.size : Int))) (v := false) (by kernel_rfl) (decide_eq_false hc5) ?_
    refine we_false (by kernel_rfl) ?_
    have hS29 := hS.bring 1 rfl
    have hS30 := hS29.bring 1 rfl
    obtain rfl := Option.some.inj h
    exact we_exit fun a hF => hQ _ _ _ (Outs.out nofun (Exits.here ⟨hS30, hF.weaken ⟨by kernel_rfl, by kernel_rfl, by kernel_rfl, by kernel_rfl, by kernel_rfl, by kernel_rfl, by kernel_rfl, by kernel_rfl, trivial⟩⟩))
abbrev punctualref_CheckSet.A4 (K : Nat) (w0 : World) (l0 : List STask) (A0 : Option Addr) (c0 : Nat) (hR0 : RdL w0 A0 l0) (hL0 : l0.length ≤ c0) (b1 : Nat) (i1 : Nat) (hc3 : (i1 : Int) < (l0.length : Int)) (e1 : STask) (hx2 : l0[i1]? = some e1) (b2 : Nat) (q2 : Bool) (q5 : Bool) (hc9 : q5 = true) (hc10 : i1 ≤ l0.length) : Nat → Act → World → Prop := fun (s : Nat) a w => St w0 w [Own.blk b2 (.cells #[.string e1.Name, .int .i64 e1.C, .int .i64 e1.T, .int .i64 e1.D, .int .i64 e1.J, .int .i64 e1.O, .int .i64 e1.P] 46 (0, 0)), Own.blk b1 (.cells #[.int .i64 0, .int .i64 0] 26 (0, 0))] ∧ Frm 113 a [(0, .slice A0 l0.length c0), (2, .pointer (some ⟨b1, 0, none⟩)), (3, .int .i64 (i1 : Int)), (4, .pointer (some ⟨b2, 0, none⟩)), (22, .slice A0 l0.length c0), (23, .int .i64 (l0.length : Int)), (24, .int .i64 (i1 : Int)), (67, .slice (subA A0 c0 0 7) (((l0.take i1).drop 0).length) (c0 - 0)), (68, .int .i64 (((l0.take i1).drop 0).length : Int)), (69, .int .i64 (s : Int))]
abbrev punctualref_CheckSet.B4 (K : Nat) (w0 : World) (l0 : List STask) (A0 : Option Addr) (c0 : Nat) (hR0 : RdL w0 A0 l0) (hL0 : l0.length ≤ c0) (b1 : Nat) (i1 : Nat) (hc3 : (i1 : Int) < (l0.length : Int)) (e1 : STask) (hx2 : l0[i1]? = some e1) (b2 : Nat) (q2 : Bool) (q5 : Bool) (hc9 : q5 = true) (hc10 : i1 ≤ l0.length) : (Unit ⊕ SFault) → Exit → Act → World → Prop := Exits 4 (fun (s : Unit) a w => St w0 w [Own.blk b2 (.cells #[.string e1.Name, .int .i64 e1.C, .int .i64 e1.T, .int .i64 e1.D, .int .i64 e1.J, .int .i64 e1.O, .int .i64 e1.P] 46 (0, 0)), Own.blk b1 (.cells #[.int .i64 0, .int .i64 0] 26 (0, 0))] ∧ Frm 113 a [(0, .slice A0 l0.length c0), (2, .pointer (some ⟨b1, 0, none⟩)), (3, .int .i64 (i1 : Int)), (4, .pointer (some ⟨b2, 0, none⟩)), (22, .slice A0 l0.length c0), (23, .int .i64 (l0.length : Int)), (24, .int .i64 (i1 : Int))]) (Rets Tryd.prog Tryd.f23 (punctualref_CheckSet.Post w0))
theorem punctualref_CheckSet_r4 (K : Nat) (w0 : World) (l0 : List STask) (A0 : Option Addr) (c0 : Nat) (hR0 : RdL w0 A0 l0) (hL0 : l0.length ≤ c0) (b1 : Nat) (i1 : Nat) (hc3 : (i1 : Int) < (l0.length : Int)) (e1 : STask) (hx2 : l0[i1]? = some e1) (b2 : Nat) (q2 : Bool) (q5 : Bool) (hc9 : q5 = true) (hc10 : i1 ≤ l0.length) (s : Nat) (o : Nat ⊕ (Unit ⊕ SFault)) (h : punctualref_CheckSet.r4 l0 i1 e1 s = some o) (a : Act) (w : World) (hA : punctualref_CheckSet.A4 K w0 l0 A0 c0 hR0 hL0 b1 i1 hc3 e1 hx2 b2 q2 q5 hc9 hc10 s a w) (Q : Exit → Act → World → Prop) (hQ : ∀ x a w, Outs (punctualref_CheckSet.A4 K w0 l0 A0 c0 hR0 hL0 b1 i1 hc3 e1 hx2 b2 q2 q5 hc9 hc10) (punctualref_CheckSet.B4 K w0 l0 A0 c0 hR0 hL0 b1 i1 hc3 e1 hx2 b2 q2 q5 hc9 hc10) o x a w → Q x a w) : (subF Tryd.f23 [1, 1, 0, 1, 0, 0, 1, 1, 0, 0, 1, 1, 1, 1, 0, 1, 0, 0]).wp Tryd.prog Q a w := by
  obtain ⟨i2, hs⟩ : ∃ z, z = s := ⟨s, rfl⟩
  subst hs
  obtain ⟨hS, hF⟩ := hA
  replace hS : St w0 w [Own.blk b2 (.cells #[.string e1.Name, .int .i64 e1.C, .int .i64 e1.T, .int .i64 e1.D, .int .i64 e1.J, .int .i64 e1.O, .int .i64 e1.P] 46 (0, 0)), Own.blk b1 (.cells #[.int .i64 0, .int .i64 0] 26 (0, 0))] := hS
  simp only [punctualref_CheckSet.r4] at h
  refine (?_ : WE Tryd.prog 113 (subF Tryd.f23 [1, 1, 0, 1, 0, 0, 1, 1, 0, 0, 1, 1, 1, 1, 0, 1, 0, 0]) Q [(0, .slice A0 l0.length c0), (2, .pointer (some ⟨b1, 0, none⟩)), (3, .int .i64 (i1 : Int)), (4, .pointer (some ⟨b2, 0, none⟩)), (22, .slice A0 l0.length c0), (23, .int .i64 (l0.length : Int)), (24, .int .i64 (i1 : Int)), (67, .slice (subA A0 c0 0 7) (((l0.take i1).drop 0).length) (c0 - 0)), (68, .int .i64 (((l0.take i1).drop 0).length : Int)), (69, .int .i64 (i2 : Int))] w) a hF
  clear hF a
  refine we_seq fun K22 hK22 => ?_
  refine we_region [(0, 0)] rfl ?_
  refine ge_batch [0] (ans := []) (vs := [(70, .bool (decide ((i2 : Int) < (((l0.take i1).drop 0).length : Int))))]) (l := []) (by kernel_rfl) trivial ?_
  refine ge_nil fun a hF => hK22 _ _ ?_ a hF
  refine we_seq fun K23 hK23 => ?_
  by_cases hc11 : (i2 : Int) < (((l0.take i1).drop 0).length : Int)
  · rw [if_pos hc11] at h
    refine we_known (t := 70) (b := decide ((i2 : Int) < (((l0.take i1).drop 0).length : Int))) (v := true) (by kernel_rfl) (decide_eq_true hc11) ?_
    refine we_true (by kernel_rfl) ?_
    refine we_skip fun a hF => hK23 _ _ ?_ a hF
    refine we_seq fun K24 hK24 => ?_
    refine we_block ?_
    refine we_seq fun K25 hK25 => ?_
    refine we_region [(0, 0), (1, 0), (2, 1), (3, 2)] rfl ?_
    rcases hx5 : ((l0.take i1).drop 0)[i2]? with _ | e2
    · rw [hx5] at h; cases h
    rw [hx5] at h
    simp only [] at h
    refine ge_index (d := 71) (ty := 0) (t := 40) (el := 46) (sz := 7) (m := ((l0.take i1).drop 0).length) (c := (c0 - 0)) (x := (.tmp 67)) (y := (.tmp 69)) (A := (subA A0 c0 0 7)) (k' := .i64) (j := (i2 : Int)) (jn := i2) (b0 := blkOf (subA A0 c0 0 7)) (o0 := offOf (subA A0 c0 0 7)) (by kernel_rfl) (by kernel_rfl) (by kernel_rfl) (by kernel_rfl) (by kernel_rfl) ((hS.rd (RdL.part hR0 hL0 0 i1)).eqSome (pos_of_get hx5)) rfl (lt_of_get hx5) ?_
    refine ge_batch [1] (ans := [.val (.string e2.Name), .val (.int .i64 e2.C), .val (.int .i64 e2.T), .val (.int .i64 e2.D), .val (.int .i64 e2.J), .val (.int .i64 e2.O), .val (.int .i64 e2.P)]) (vs := [(72, .agg #[.string e2.Name, .int .i64 e2.C, .int .i64 e2.T, .int .i64 e2.D, .int .i64 e2.J, .int .i64 e2.O, .int .i64 e2.P])]) (l := [.loaded ⟨blkOf (subA A0 c0 0 7), offOf (subA A0 c0 0 7) + i2 * 7, none⟩ (.string e2.Name), .loaded ⟨blkOf (subA A0 c0 0 7), offOf (subA A0 c0 0 7) + i2 * 7 + 1, none⟩ (.int .i64 e2.C), .loaded ⟨blkOf (subA A0 c0 0 7), offOf (subA A0 c0 0 7) + i2 * 7 + 2, none⟩ (.int .i64 e2.T), .loaded ⟨blkOf (subA A0 c0 0 7), offOf (subA A0 c0 0 7) + i2 * 7 + 3, none⟩ (.int .i64 e2.D), .loaded ⟨blkOf (subA A0 c0 0 7), offOf (subA A0 c0 0 7) + i2 * 7 + 4, none⟩ (.int .i64 e2.J), .loaded ⟨blkOf (subA A0 c0 0 7), offOf (subA A0 c0 0 7) + i2 * 7 + 5, none⟩ (.int .i64 e2.O), .loaded ⟨blkOf (subA A0 c0 0 7), offOf (subA A0 c0 0 7) + i2 * 7 + 6, none⟩ (.int .i64 e2.P)]) (by kernel_rfl) ⟨RdL.cell (j := 0) (hS.rd (RdL.part hR0 hL0 0 i1)) hx5 rfl, RdL.cell (j := 1) (hS.rd (RdL.part hR0 hL0 0 i1)) hx5 rfl, RdL.cell (j := 2) (hS.rd (RdL.part hR0 hL0 0 i1)) hx5 rfl, RdL.cell (j := 3) (hS.rd (RdL.part hR0 hL0 0 i1)) hx5 rfl, RdL.cell (j := 4) (hS.rd (RdL.part hR0 hL0 0 i1)) hx5 rfl, RdL.cell (j := 5) (hS.rd (RdL.part hR0 hL0 0 i1)) hx5 rfl, RdL.cell (j := 6) (hS.rd (RdL.part hR0 hL0 0 i1)) hx5 rfl, trivial⟩ ?_
    refine ge_new (d := some 8) (o := .cells #[.string (⟨#[]⟩), .int .i64 0, .int .i64 0, .int .i64 0, .int .i64 0, .int .i64 0, .int .i64 0] 46) (v := fun b => .pointer (some ⟨b, 0, none⟩)) hS (fun b => by kernel_rfl) fun b4 w11 hx6 hS34 => ?_
    refine ge_set (b := b4) (j := 0) (cs := #[.string (⟨#[]⟩), .int .i64 0, .int .i64 0, .int .i64 0, .int .i64 0, .int .i64 0, .int .i64 0]) (t := 46) (vs := [.string e2.Name, .int .i64 e2.C, .int .i64 e2.T, .int .i64 e2.D, .int .i64 e2.J, .int .i64 e2.O, .int .i64 e2.P]) hS34 (by kernel_rfl) rfl rfl fun w12 hS35 => ?_
    have hS36 : St w0 w12 [Own.blk b4 (.cells #[.string e2.Name, .int .i64 e2.C, .int .i64 e2.T, .int .i64 e2.D, .int .i64 e2.J, .int .i64 e2.O, .int .i64 e2.P] 46 (0, 0)), Own.blk b2 (.cells #[.string e1.Name, .int .i64 e1.C, .int .i64 e1.T, .int .i64 e1.D, .int .i64 e1.J, .int .i64 e1.O, .int .i64 e1.P] 46 (0, 0)), Own.blk b1 (.cells #[.int .i64 0, .int .i64 0] 26 (0, 0))] := hS35
    refine ge_nil fun a hF => hK25 _ _ ?_ a hF
    refine we_seq fun K26 hK26 => ?_
    refine we_region [(0, 0), (1, 0), (2, 0), (3, 0), (4, 0)] rfl ?_
    refine ge_batch [0, 1, 2, 3, 4] (ans := [.val (.string e2.Name), .val (.string e1.Name)]) (vs := [(77, .bool (e2.Name.toList == e1.Name.toList)), (76, .string e1.Name), (75, .pointer (some ⟨b2, 0, none⟩)), (74, .string e2.Name), (73, .pointer (some ⟨b4, 0, none⟩))]) (l := [.loaded ⟨b4, 0, none⟩ (.string e2.Name), .loaded ⟨b2, 0, none⟩ (.string e1.Name)]) (by kernel_rfl) ⟨hS36.cell 0 rfl rfl, hS36.cell 1 rfl rfl, trivial⟩ ?_
    refine ge_nil fun a hF => hK26 _ _ ?_ a hF
    by_cases hc12 : e2.Name.toList = e1.Name.toList
    · rw [if_pos hc12] at h
      refine we_known (t := 77) (b := (e2.Name.toList == e1.Name.toList)) (v := true) (by kernel_rfl) (beq_iff_eq.2 hc12) ?_
      refine we_true (by kernel_rfl) ?_
      refine we_seq fun K27 hK27 => ?_
      refine we_region [(0, 0), (1, 1), (2, 2)] rfl ?_
      refine ge_batch [0] (ans := []) (vs := [(78, .int .i64 (i1 : Int))]) (l := []) (by kernel_rfl) trivial ?_
      refine ge_call (d := some 79) (f := 21) (args := #[.int .i64 5, .int .i64 (i1 : Int)]) (by kernel_rfl) (punctualref_F_ok 5 (i1 : Int) _ _ rfl) ?_
      rintro _ w13 ⟨rfl, hS37⟩
      refine ⟨_, rfl, hS37.below, ?_⟩
      have hS38 := hS36.call hS37
      have hS39 := hS38.bring 2 rfl
      refine ge_set (b := b1) (j := 0) (cs := #[.int .i64 0, .int .i64 0]) (t := 26) (vs := [.int .i64 ((punctualref_F.f 5 (i1 : Int)).Code), .int .i64 ((punctualref_F.f 5 (i1 : Int)).At)]) hS39 (by kernel_rfl) rfl rfl fun w14 hS40 => ?_
      have hS41 : St w0 w14 [Own.blk b1 (.cells #[.int .i64 ((punctualref_F.f 5 (i1 : Int)).Code), .int .i64 ((punctualref_F.f 5 (i1 : Int)).At)] 26 (0, 0)), Own.blk b4 (.cells #[.string e2.Name, .int .i64 e2.C, .int .i64 e2.T, .int .i64 e2.D, .int .i64 e2.J, .int .i64 e2.O, .int .i64 e2.P] 46 (0, 0)), Own.blk b2 (.cells #[.string e1.Name, .int .i64 e1.C, .int .i64 e1.T, .int .i64 e1.D, .int .i64 e1.J, .int .i64 e1.O, .int .i64 e1.P] 46 (0, 0))] := hS40
      refine ge_nil fun a hF => hK27 _ _ ?_ a hF
      have hS42 := hS41.takeN 0
      obtain rfl := Option.some.inj h
      exact we_ret fun a hF => hQ _ _ _ (Outs.out nofun (Exits.on ⟨rfl, (post_ret (rs := [.cell 2 26]) (ans := [.val (.int .i64 ((punctualref_F.f 5 (i1 : Int)).Code)), .val (.int .i64 ((punctualref_F.f 5 (i1 : Int)).At))]) (vs := [.agg #[.int .i64 ((punctualref_F.f 5 (i1 : Int)).Code), .int .i64 ((punctualref_F.f 5 (i1 : Int)).At)]]) (l := [.loaded ⟨b1, 0, none⟩ (.int .i64 ((punctualref_F.f 5 (i1 : Int)).Code)), .loaded ⟨b1, 1, none⟩ (.int .i64 ((punctualref_F.f 5 (i1 : Int)).At))]) rfl (by kernel_rfl) ⟨hS41.cell 0 rfl rfl, hS41.cell 0 rfl rfl, trivial⟩ ⟨rfl, hS42⟩) a hF⟩))
    · rw [if_neg hc12] at h
      refine we_known (t := 77) (b := (e2.Name.toList == e1.Name.toList)) (v := false) (by kernel_rfl) (beq_eq_false_iff_ne.2 hc12) ?_
      refine we_false (by kernel_rfl) ?_
      refine we_skip fun a hF => hK24 _ _ ?_ a hF
      refine we_region [(0, 0), (1, 0)] rfl ?_
      refine ge_addn (d := 80) (ty := 3) (x := (.tmp 69)) (y := (.const (.int .i64 1))) (t := 3) (t2 := 3) (k := .i64) (m := i2) (by kernel_rfl) (by kernel_rfl) (by kernel_rfl) (by have h0 := hR0.small; have h1 : ((l0.take i1).drop 0).length ≤ l0.length := (by simp only [List.length_drop, List.length_take]; omega); omega) ?_
      refine ge_batch [1] (ans := []) (vs := [(69, .int .i64 ((i2 + 1 : Nat) : Int))]) (l := []) (by kernel_rfl) trivial ?_
      have hS43 := hS36.bring 2 rfl
      have hS44 := hS43.bring 2 rfl
      have hS45 := hS44.takeN 2
      obtain rfl := Option.some.inj h
      exact ge_nil fun a hF => hQ _ _ _ (Outs.again ⟨hS45, hF.weaken ⟨by kernel_rfl, by kernel_rfl, by kernel_rfl, by kernel_rfl, by kernel_rfl, by kernel_rfl, by kernel_rfl, by kernel_rfl, by kernel_rfl, by kernel_rfl, trivial⟩⟩)
  · rw [if_neg hc11] at h
    refine we_known (t := 70) (b := decide ((i2 : Int) < (((l0.take i1).drop 0).length : Int))) (v := false) (by kernel_rfl) (decide_eq_false hc11) ?_
    refine we_false (by kernel_rfl) ?_
    have hS46 := hS.bring 1 rfl
    have hS47 := hS46.bring 1 rfl
    obtain rfl := Option.some.inj h
    exact we_exit fun a hF => hQ _ _ _ (Outs.out nofun (Exits.here ⟨hS47, hF.weaken ⟨by kernel_rfl, by kernel_rfl, by kernel_rfl, by kernel_rfl, by kernel_rfl, by kernel_rfl, by kernel_rfl, trivial⟩⟩))
abbrev punctualref_CheckSet.A5 (K : Nat) (w0 : World) (l0 : List STask) (A0 : Option Addr) (c0 : Nat) (hR0 : RdL w0 A0 l0) (hL0 : l0.length ≤ c0) (b1 : Nat) (i1 : Nat) (hc3 : (i1 : Int) < (l0.length : Int)) (e1 : STask) (hx2 : l0[i1]? = some e1) (b2 : Nat) (q2 : Bool) (q5 : Bool) (hc9 : q5 = true) (hc10 : i1 ≤ l0.length) (b5 : Nat) (b6 : Nat) : Nat → Act → World → Prop := fun (s : Nat) a w => St w0 w [Own.blk b6 (.cells #[.int .i64 10000, .int .i64 10000, .int .i64 10000, .int .i64 10000, .int .i64 10000, .int .i64 1000] 94 (0, 0)), Own.blk b5 (.cells #[.int .i64 1, .int .i64 1, .int .i64 1, .int .i64 0, .int .i64 0, .int .i64 0] 94 (0, 0)), Own.blk b2 (.cells #[.string e1.Name, .int .i64 e1.C, .int .i64 e1.T, .int .i64 e1.D, .int .i64 e1.J, .int .i64 e1.O, .int .i64 e1.P] 46 (0, 0)), Own.blk b1 (.cells #[.int .i64 0, .int .i64 0] 26 (0, 0))] ∧ Frm 113 a [(0, .slice A0 l0.length c0), (2, .pointer (some ⟨b1, 0, none⟩)), (3, .int .i64 (i1 : Int)), (4, .pointer (some ⟨b2, 0, none⟩)), (9, .pointer (some ⟨b5, 0, none⟩)), (10, .pointer (some ⟨b6, 0, none⟩)), (22, .slice A0 l0.length c0), (23, .int .i64 (l0.length : Int)), (24, .int .i64 (i1 : Int)), (84, .agg #[.int .i64 ((punctualref_sixOf.f e1).a0), .int .i64 ((punctualref_sixOf.f e1).a1), .int .i64 ((punctualref_sixOf.f e1).a2), .int .i64 ((punctualref_sixOf.f e1).a3), .int .i64 ((punctualref_sixOf.f e1).a4), .int .i64 ((punctualref_sixOf.f e1).a5)]), (85, .int .i64 (s : Int))]
abbrev punctualref_CheckSet.B5 (K : Nat) (w0 : World) (l0 : List STask) (A0 : Option Addr) (c0 : Nat) (hR0 : RdL w0 A0 l0) (hL0 : l0.length ≤ c0) (b1 : Nat) (i1 : Nat) (hc3 : (i1 : Int) < (l0.length : Int)) (e1 : STask) (hx2 : l0[i1]? = some e1) (b2 : Nat) (q2 : Bool) (q5 : Bool) (hc9 : q5 = true) (hc10 : i1 ≤ l0.length) (b5 : Nat) (b6 : Nat) : (Unit ⊕ SFault) → Exit → Act → World → Prop := Exits 6 (fun (s : Unit) a w => St w0 w [Own.blk b2 (.cells #[.string e1.Name, .int .i64 e1.C, .int .i64 e1.T, .int .i64 e1.D, .int .i64 e1.J, .int .i64 e1.O, .int .i64 e1.P] 46 (0, 0)), Own.blk b1 (.cells #[.int .i64 0, .int .i64 0] 26 (0, 0))] ∧ Frm 113 a [(0, .slice A0 l0.length c0), (2, .pointer (some ⟨b1, 0, none⟩)), (3, .int .i64 (i1 : Int)), (4, .pointer (some ⟨b2, 0, none⟩)), (22, .slice A0 l0.length c0), (23, .int .i64 (l0.length : Int)), (24, .int .i64 (i1 : Int))]) (Rets Tryd.prog Tryd.f23 (punctualref_CheckSet.Post w0))
theorem punctualref_CheckSet_r5 (K : Nat) (w0 : World) (l0 : List STask) (A0 : Option Addr) (c0 : Nat) (hR0 : RdL w0 A0 l0) (hL0 : l0.length ≤ c0) (b1 : Nat) (i1 : Nat) (hc3 : (i1 : Int) < (l0.length : Int)) (e1 : STask) (hx2 : l0[i1]? = some e1) (b2 : Nat) (q2 : Bool) (q5 : Bool) (hc9 : q5 = true) (hc10 : i1 ≤ l0.length) (b5 : Nat) (b6 : Nat) (s : Nat) (o : Nat ⊕ (Unit ⊕ SFault)) (h : punctualref_CheckSet.r5 i1 e1 s = some o) (a : Act) (w : World) (hA : punctualref_CheckSet.A5 K w0 l0 A0 c0 hR0 hL0 b1 i1 hc3 e1 hx2 b2 q2 q5 hc9 hc10 b5 b6 s a w) (Q : Exit → Act → World → Prop) (hQ : ∀ x a w, Outs (punctualref_CheckSet.A5 K w0 l0 A0 c0 hR0 hL0 b1 i1 hc3 e1 hx2 b2 q2 q5 hc9 hc10 b5 b6) (punctualref_CheckSet.B5 K w0 l0 A0 c0 hR0 hL0 b1 i1 hc3 e1 hx2 b2 q2 q5 hc9 hc10 b5 b6) o x a w → Q x a w) : (subF Tryd.f23 [1, 1, 0, 1, 0, 0, 1, 1, 0, 0, 1, 1, 1, 1, 1, 1, 0, 1, 0, 0]).wp Tryd.prog Q a w := by
  obtain ⟨i3, hs⟩ : ∃ z, z = s := ⟨s, rfl⟩
  subst hs
  obtain ⟨hS, hF⟩ := hA
  replace hS : St w0 w [Own.blk b6 (.cells #[.int .i64 10000, .int .i64 10000, .int .i64 10000, .int .i64 10000, .int .i64 10000, .int .i64 1000] 94 (0, 0)), Own.blk b5 (.cells #[.int .i64 1, .int .i64 1, .int .i64 1, .int .i64 0, .int .i64 0, .int .i64 0] 94 (0, 0)), Own.blk b2 (.cells #[.string e1.Name, .int .i64 e1.C, .int .i64 e1.T, .int .i64 e1.D, .int .i64 e1.J, .int .i64 e1.O, .int .i64 e1.P] 46 (0, 0)), Own.blk b1 (.cells #[.int .i64 0, .int .i64 0] 26 (0, 0))] := hS
  simp only [punctualref_CheckSet.r5] at h
  refine (?_ : WE Tryd.prog 113 (subF Tryd.f23 [1, 1, 0, 1, 0, 0, 1, 1, 0, 0, 1, 1, 1, 1, 1, 1, 0, 1, 0, 0]) Q [(0, .slice A0 l0.length c0), (2, .pointer (some ⟨b1, 0, none⟩)), (3, .int .i64 (i1 : Int)), (4, .pointer (some ⟨b2, 0, none⟩)), (9, .pointer (some ⟨b5, 0, none⟩)), (10, .pointer (some ⟨b6, 0, none⟩)), (22, .slice A0 l0.length c0), (23, .int .i64 (l0.length : Int)), (24, .int .i64 (i1 : Int)), (84, .agg #[.int .i64 ((punctualref_sixOf.f e1).a0), .int .i64 ((punctualref_sixOf.f e1).a1), .int .i64 ((punctualref_sixOf.f e1).a2), .int .i64 ((punctualref_sixOf.f e1).a3), .int .i64 ((punctualref_sixOf.f e1).a4), .int .i64 ((punctualref_sixOf.f e1).a5)]), (85, .int .i64 (i3 : Int))] w) a hF
  clear hF a
  refine we_seq fun K31 hK31 => ?_
  refine we_region [(0, 0)] rfl ?_
  refine ge_batch [0] (ans := []) (vs := [(86, .bool (decide ((i3 : Int) < 6)))]) (l := []) (by kernel_rfl) trivial ?_
  refine ge_nil fun a hF => hK31 _ _ ?_ a hF
  refine we_seq fun K32 hK32 => ?_
  by_cases hc13 : (i3 : Int) < 6
  · rw [if_pos hc13] at h
    refine we_known (t := 86) (b := decide ((i3 : Int) < 6)) (v := true) (by kernel_rfl) (decide_eq_true hc13) ?_
    refine we_true (by kernel_rfl) ?_
    refine we_skip fun a hF => hK32 _ _ ?_ a hF
    refine we_seq fun K33 hK33 => ?_
    refine we_block ?_
    refine we_seq fun K34 hK34 => ?_
    refine we_region [(0, 0), (1, 0), (2, 0), (3, 0)] rfl ?_
    refine ge_batch [0] (ans := []) (vs := [(87, .int .i64 (i3 : Int))]) (l := []) (by kernel_rfl) trivial ?_
    rcases hx9 : ([(punctualref_sixOf.f e1).a0, (punctualref_sixOf.f e1).a1, (punctualref_sixOf.f e1).a2, (punctualref_sixOf.f e1).a3, (punctualref_sixOf.f e1).a4, (punctualref_sixOf.f e1).a5] : List Int)[i3]? with _ | e3
    · rw [hx9] at h; cases h
    rw [hx9] at h
    simp only [] at h
    refine ge_arr2 (α := Int) (d := 88) (ty := 3) (t := 94) (len := 6) (el := 3) (x := (.tmp 84)) (y := (.tmp 85)) (k' := .i64) (j := (i3 : Int)) (jn := i3) (l := ([(punctualref_sixOf.f e1).a0, (punctualref_sixOf.f e1).a1, (punctualref_sixOf.f e1).a2, (punctualref_sixOf.f e1).a3, (punctualref_sixOf.f e1).a4, (punctualref_sixOf.f e1).a5] : List Int)) (u := e3) (cs := #[.int .i64 ((punctualref_sixOf.f e1).a0), .int .i64 ((punctualref_sixOf.f e1).a1), .int .i64 ((punctualref_sixOf.f e1).a2), .int .i64 ((punctualref_sixOf.f e1).a3), .int .i64 ((punctualref_sixOf.f e1).a4), .int .i64 ((punctualref_sixOf.f e1).a5)]) (v := .int .i64 e3) (by kernel_rfl) (by kernel_rfl) rfl (by kernel_rfl) (by kernel_rfl) (by kernel_rfl) rfl rfl rfl hx9 rfl (fun w' => by kernel_rfl) ?_
    refine ge_batch [2, 3] (ans := []) (vs := [(12, .int .i64 e3), (11, .int .i64 (i3 : Int))]) (l := []) (by kernel_rfl) trivial ?_
    refine ge_nil fun a hF => hK34 _ _ ?_ a hF
    refine we_seq fun K35 hK35 => ?_
    refine we_region [(0, 0), (1, 0), (2, 0), (3, 0), (4, 0), (5, 0), (6, 0), (7, 0), (8, 0), (9, 0), (10, 0), (11, 0)] rfl ?_
    refine ge_batch [0, 1] (ans := []) (vs := [(90, .int .i64 (i3 : Int)), (89, .int .i64 e3)]) (l := []) (by kernel_rfl) trivial ?_
    rcases hx10 : ([1, 1, 1, 0, 0, 0] : List Int)[i3]? with _ | e4
    · rw [hx10] at h; cases h
    rw [hx10] at h
    simp only [] at h
    refine ge_arrAddr (d := 91) (ty := 0) (t := 94) (len := 6) (el := 3) (b := b5) (o0 := 0) (sz := 1) (x := (.tmp 9)) (y := (.tmp 90)) (k' := .i64) (j := (i3 : Int)) (jn := i3) (by kernel_rfl) (by kernel_rfl) (by kernel_rfl) (by kernel_rfl) (by kernel_rfl) rfl (lt_of_get hx10) ?_
    refine ge_batch [3, 4, 5] (ans := [.val (.int .i64 e4)]) (vs := [(94, .bool (decide (e3 < e4))), (93, .bool (decide (e3 < e4))), (92, .int .i64 e4)]) (l := [.loaded ⟨b5, 0 + i3 * 1, none⟩ (.int .i64 e4)]) (by kernel_rfl) ⟨hS.cellA 1 (pre := []) (post := []) (l := ([1, 1, 1, 0, 0, 0] : List Int)) rfl rfl rfl hx10 rfl rfl, trivial⟩ ?_
    by_cases hc14 : e3 < e4
    · rw [if_pos hc14] at h
      refine ge_known (t := 94) (b := decide (e3 < e4)) (c := true) (by kernel_rfl) (decide_eq_true hc14) ?_
      refine ge_batch [6, 7, 8, 9, 10, 11] (ans := []) (vs := [(100, .bool true), (99, undef), (98, undef), (97, undef), (96, undef), (95, undef)]) (l := []) (by kernel_rfl) trivial ?_
      refine ge_nil fun a hF => hK35 _ _ ?_ a hF
      refine we_true (by kernel_rfl) ?_
      refine we_seq fun K36 hK36 => ?_
      refine we_region [(0, 0), (1, 1), (2, 2)] rfl ?_
      refine ge_batch [0] (ans := []) (vs := [(101, .int .i64 (i1 : Int))]) (l := []) (by kernel_rfl) trivial ?_
      refine ge_call (d := some 102) (f := 21) (args := #[.int .i64 3, .int .i64 (i1 : Int)]) (by kernel_rfl) (punctualref_F_ok 3 (i1 : Int) _ _ rfl) ?_
      rintro _ w21 ⟨rfl, hS63⟩
      refine ⟨_, rfl, hS63.below, ?_⟩
      have hS64 := hS.call hS63
      have hS65 := hS64.bring 3 rfl
      refine ge_set (b := b1) (j := 0) (cs := #[.int .i64 0, .int .i64 0]) (t := 26) (vs := [.int .i64 ((punctualref_F.f 3 (i1 : Int)).Code), .int .i64 ((punctualref_F.f 3 (i1 : Int)).At)]) hS65 (by kernel_rfl) rfl rfl fun w22 hS66 => ?_
      have hS67 : St w0 w22 [Own.blk b1 (.cells #[.int .i64 ((punctualref_F.f 3 (i1 : Int)).Code), .int .i64 ((punctualref_F.f 3 (i1 : Int)).At)] 26 (0, 0)), Own.blk b6 (.cells #[.int .i64 10000, .int .i64 10000, .int .i64 10000, .int .i64 10000, .int .i64 10000, .int .i64 1000] 94 (0, 0)), Own.blk b5 (.cells #[.int .i64 1, .int .i64 1, .int .i64 1, .int .i64 0, .int .i64 0, .int .i64 0] 94 (0, 0)), Own.blk b2 (.cells #[.string e1.Name, .int .i64 e1.C, .int .i64 e1.T, .int .i64 e1.D, .int .i64 e1.J, .int .i64 e1.O, .int .i64 e1.P] 46 (0, 0))] := hS66
      refine ge_nil fun a hF => hK36 _ _ ?_ a hF
      have hS68 := hS67.takeN 0
      obtain rfl := Option.some.inj h
      exact we_ret fun a hF => hQ _ _ _ (Outs.out nofun (Exits.on ⟨rfl, (post_ret (rs := [.cell 2 26]) (ans := [.val (.int .i64 ((punctualref_F.f 3 (i1 : Int)).Code)), .val (.int .i64 ((punctualref_F.f 3 (i1 : Int)).At))]) (vs := [.agg #[.int .i64 ((punctualref_F.f 3 (i1 : Int)).Code), .int .i64 ((punctualref_F.f 3 (i1 : Int)).At)]]) (l := [.loaded ⟨b1, 0, none⟩ (.int .i64 ((punctualref_F.f 3 (i1 : Int)).Code)), .loaded ⟨b1, 1, none⟩ (.int .i64 ((punctualref_F.f 3 (i1 : Int)).At))]) rfl (by kernel_rfl) ⟨hS67.cell 0 rfl rfl, hS67.cell 0 rfl rfl, trivial⟩ ⟨rfl, hS68⟩) a hF⟩))
    · rw [if_neg hc14] at h
      refine ge_known (t := 94) (b := decide (e3 < e4)) (c := false) (by kernel_rfl) (decide_eq_false hc14) ?_
      refine ge_batch [6, 7] (ans := []) (vs := [(96, .int .i64 (i3 : Int)), (95, .int .i64 e3)]) (l := []) (by kernel_rfl) trivial ?_
      rcases hx11 : ([10000, 10000, 10000, 10000, 10000, 1000] : List Int)[i3]? with _ | e5
      · rw [hx11] at h; cases h
      rw [hx11] at h
      simp only [] at h
      refine ge_arrAddr (d := 97) (ty := 0) (t := 94) (len := 6) (el := 3) (b := b6) (o0 := 0) (sz := 1) (x := (.tmp 10)) (y := (.tmp 96)) (k' := .i64) (j := (i3 : Int)) (jn := i3) (by kernel_rfl) (by kernel_rfl) (by kernel_rfl) (by kernel_rfl) (by kernel_rfl) rfl (lt_of_get hx11) ?_
      refine ge_batch [9, 10, 11] (ans := [.val (.int .i64 e5)]) (vs := [(100, .bool (decide (e3 > e5))), (99, .bool (decide (e3 > e5))), (98, .int .i64 e5)]) (l := [.loaded ⟨b6, 0 + i3 * 1, none⟩ (.int .i64 e5)]) (by kernel_rfl) ⟨hS.cellA 0 (pre := []) (post := []) (l := ([10000, 10000, 10000, 10000, 10000, 1000] : List Int)) rfl rfl rfl hx11 rfl rfl, trivial⟩ ?_
      refine ge_nil fun a hF => hK35 _ _ ?_ a hF
      by_cases hc15 : e3 > e5
      · rw [if_pos hc15] at h
        refine we_known (t := 100) (b := decide (e3 > e5)) (v := true) (by kernel_rfl) (decide_eq_true hc15) ?_
        refine we_true (by kernel_rfl) ?_
        refine we_seq fun K37 hK37 => ?_
        refine we_region [(0, 0), (1, 1), (2, 2)] rfl ?_
        refine ge_batch [0] (ans := []) (vs := [(101, .int .i64 (i1 : Int))]) (l := []) (by kernel_rfl) trivial ?_
        refine ge_call (d := some 102) (f := 21) (args := #[.int .i64 3, .int .i64 (i1 : Int)]) (by kernel_rfl) (punctualref_F_ok 3 (i1 : Int) _ _ rfl) ?_
        rintro _ w23 ⟨rfl, hS69⟩
        refine ⟨_, rfl, hS69.below, ?_⟩
        have hS70 := hS.call hS69
        have hS71 := hS70.bring 3 rfl
        refine ge_set (b := b1) (j := 0) (cs := #[.int .i64 0, .int .i64 0]) (t := 26) (vs := [.int .i64 ((punctualref_F.f 3 (i1 : Int)).Code), .int .i64 ((punctualref_F.f 3 (i1 : Int)).At)]) hS71 (by kernel_rfl) rfl rfl fun w24 hS72 => ?_
        have hS73 : St w0 w24 [Own.blk b1 (.cells #[.int .i64 ((punctualref_F.f 3 (i1 : Int)).Code), .int .i64 ((punctualref_F.f 3 (i1 : Int)).At)] 26 (0, 0)), Own.blk b6 (.cells #[.int .i64 10000, .int .i64 10000, .int .i64 10000, .int .i64 10000, .int .i64 10000, .int .i64 1000] 94 (0, 0)), Own.blk b5 (.cells #[.int .i64 1, .int .i64 1, .int .i64 1, .int .i64 0, .int .i64 0, .int .i64 0] 94 (0, 0)), Own.blk b2 (.cells #[.string e1.Name, .int .i64 e1.C, .int .i64 e1.T, .int .i64 e1.D, .int .i64 e1.J, .int .i64 e1.O, .int .i64 e1.P] 46 (0, 0))] := hS72
        refine ge_nil fun a hF => hK37 _ _ ?_ a hF
        have hS74 := hS73.takeN 0
        obtain rfl := Option.some.inj h
        exact we_ret fun a hF => hQ _ _ _ (Outs.out nofun (Exits.on ⟨rfl, (post_ret (rs := [.cell 2 26]) (ans := [.val (.int .i64 ((punctualref_F.f 3 (i1 : Int)).Code)), .val (.int .i64 ((punctualref_F.f 3 (i1 : Int)).At))]) (vs := [.agg #[.int .i64 ((punctualref_F.f 3 (i1 : Int)).Code), .int .i64 ((punctualref_F.f 3 (i1 : Int)).At)]]) (l := [.loaded ⟨b1, 0, none⟩ (.int .i64 ((punctualref_F.f 3 (i1 : Int)).Code)), .loaded ⟨b1, 1, none⟩ (.int .i64 ((punctualref_F.f 3 (i1 : Int)).At))]) rfl (by kernel_rfl) ⟨hS73.cell 0 rfl rfl, hS73.cell 0 rfl rfl, trivial⟩ ⟨rfl, hS74⟩) a hF⟩))
      · rw [if_neg hc15] at h
        refine we_known (t := 100) (b := decide (e3 > e5)) (v := false) (by kernel_rfl) (decide_eq_false hc15) ?_
        refine we_false (by kernel_rfl) ?_
        refine we_skip fun a hF => hK33 _ _ ?_ a hF
        refine we_region [(0, 0), (1, 0)] rfl ?_
        refine ge_addn (d := 103) (ty := 3) (x := (.tmp 85)) (y := (.const (.int .i64 1))) (t := 3) (t2 := 3) (k := .i64) (m := i3) (by kernel_rfl) (by kernel_rfl) (by kernel_rfl) (by omega) ?_
        refine ge_batch [1] (ans := []) (vs := [(85, .int .i64 ((i3 + 1 : Nat) : Int))]) (l := []) (by kernel_rfl) trivial ?_
        have hS75 := hS.bring 3 rfl
        have hS76 := hS75.bring 3 rfl
        have hS77 := hS76.bring 3 rfl
        have hS78 := hS77.bring 3 rfl
        obtain rfl := Option.some.inj h
        exact ge_nil fun a hF => hQ _ _ _ (Outs.again ⟨hS78, hF.weaken ⟨by kernel_rfl, by kernel_rfl, by kernel_rfl, by kernel_rfl, by kernel_rfl, by kernel_rfl, by kernel_rfl, by kernel_rfl, by kernel_rfl, by kernel_rfl, by kernel_rfl, trivial⟩⟩)
  · rw [if_neg hc13] at h
    refine we_known (t := 86) (b := decide ((i3 : Int) < 6)) (v := false) (by kernel_rfl) (decide_eq_false hc13) ?_
    refine we_false (by kernel_rfl) ?_
    have hS79 := hS.bring 3 rfl
    have hS80 := hS79.bring 3 rfl
    have hS81 := hS80.takeN 2
    obtain rfl := Option.some.inj h
    exact we_exit fun a hF => hQ _ _ _ (Outs.out nofun (Exits.here ⟨hS81, hF.weaken ⟨by kernel_rfl, by kernel_rfl, by kernel_rfl, by kernel_rfl, by kernel_rfl, by kernel_rfl, by kernel_rfl, trivial⟩⟩))
abbrev punctualref_CheckSet.A1 (K : Nat) (w0 : World) (l0 : List STask) (A0 : Option Addr) (c0 : Nat) (hR0 : RdL w0 A0 l0) (hL0 : l0.length ≤ c0) (b1 : Nat) : Nat → Act → World → Prop := fun (s : Nat) a w => St w0 w [Own.blk b1 (.cells #[.int .i64 0, .int .i64 0] 26 (0, 0))] ∧ Frm 113 a [(0, .slice A0 l0.length c0), (2, .pointer (some ⟨b1, 0, none⟩)), (22, .slice A0 l0.length c0), (23, .int .i64 (l0.length : Int)), (24, .int .i64 (s : Int))]
abbrev punctualref_CheckSet.B1 (K : Nat) (w0 : World) (l0 : List STask) (A0 : Option Addr) (c0 : Nat) (hR0 : RdL w0 A0 l0) (hL0 : l0.length ≤ c0) (b1 : Nat) : (Unit ⊕ SFault) → Exit → Act → World → Prop := Exits 0 (fun (s : Unit) a w => St w0 w [Own.blk b1 (.cells #[.int .i64 0, .int .i64 0] 26 (0, 0))] ∧ Frm 113 a [(2, .pointer (some ⟨b1, 0, none⟩))]) (Rets Tryd.prog Tryd.f23 (punctualref_CheckSet.Post w0))
theorem punctualref_CheckSet_r1 (K : Nat) (w0 : World) (l0 : List STask) (A0 : Option Addr) (c0 : Nat) (hR0 : RdL w0 A0 l0) (hL0 : l0.length ≤ c0) (b1 : Nat) (s : Nat) (o : Nat ⊕ (Unit ⊕ SFault)) (h : punctualref_CheckSet.r1 K l0 s = some o) (a : Act) (w : World) (hA : punctualref_CheckSet.A1 K w0 l0 A0 c0 hR0 hL0 b1 s a w) (Q : Exit → Act → World → Prop) (hQ : ∀ x a w, Outs (punctualref_CheckSet.A1 K w0 l0 A0 c0 hR0 hL0 b1) (punctualref_CheckSet.B1 K w0 l0 A0 c0 hR0 hL0 b1) o x a w → Q x a w) : (subF Tryd.f23 [1, 1, 0, 1, 0, 0]).wp Tryd.prog Q a w := by
  obtain ⟨i1, hs⟩ : ∃ z, z = s := ⟨s, rfl⟩
  subst hs
  obtain ⟨hS, hF⟩ := hA
  replace hS : St w0 w [Own.blk b1 (.cells #[.int .i64 0, .int .i64 0] 26 (0, 0))] := hS
  simp only [punctualref_CheckSet.r1] at h
  refine (?_ : WE Tryd.prog 113 (subF Tryd.f23 [1, 1, 0, 1, 0, 0]) Q [(0, .slice A0 l0.length c0), (2, .pointer (some ⟨b1, 0, none⟩)), (22, .slice A0 l0.length c0), (23, .int .i64 (l0.length : Int)), (24, .int .i64 (i1 : Int))] w) a hF
  clear hF a
  refine we_seq fun K8 hK8 => ?_
  refine we_region [(0, 0)] rfl ?_
  refine ge_batch [0] (ans := []) (vs := [(25, .bool (decide ((i1 : Int) < (l0.length : Int))))]) (l := []) (by kernel_rfl) trivial ?_
  refine ge_nil fun a hF => hK8 _ _ ?_ a hF
  refine we_seq fun K9 hK9 => ?_
  by_cases hc3 : (i1 : Int) < (l0.length : Int)
  · rw [if_pos hc3] at h
    refine we_known (t := 25) (b := decide ((i1 : Int) < (l0.length : Int))) (v := true) (by kernel_rfl) (decide_eq_true hc3) ?_
    refine we_true (by kernel_rfl) ?_
    refine we_skip fun a hF => hK9 _ _ ?_ a hF
    refine we_seq fun K10 hK10 => ?_
    refine we_block ?_
    refine we_seq fun K11 hK11 => ?_
    refine we_region [(0, 0), (1, 0), (2, 0), (3, 1), (4, 0), (5, 2)] rfl ?_
    refine ge_batch [0] (ans := []) (vs := [(26, .int .i64 (i1 : Int))]) (l := []) (by kernel_rfl) trivial ?_
    rcases hx2 : l0[i1]? with _ | e1
    · rw [hx2] at h; cases h
    rw [hx2] at h
    simp only [] at h
    refine ge_index (d := 27) (ty := 0) (t := 40) (el := 46) (sz := 7) (m := l0.length) (c := c0) (x := (.tmp 22)) (y := (.tmp 24)) (A := A0) (k' := .i64) (j := (i1 : Int)) (jn := i1) (b0 := blkOf A0) (o0 := offOf A0) (by kernel_rfl) (by kernel_rfl) (by kernel_rfl) (by kernel_rfl) (by kernel_rfl) ((hS.rd hR0).eqSome (pos_of_get hx2)) rfl (lt_of_get hx2) ?_
    refine ge_batch [2] (ans := [.val (.string e1.Name), .val (.int .i64 e1.C), .val (.int .i64 e1.T), .val (.int .i64 e1.D), .val (.int .i64 e1.J), .val (.int .i64 e1.O), .val (.int .i64 e1.P)]) (vs := [(28, .agg #[.string e1.Name, .int .i64 e1.C, .int .i64 e1.T, .int .i64 e1.D, .int .i64 e1.J, .int .i64 e1.O, .int .i64 e1.P])]) (l := [.loaded ⟨blkOf A0, offOf A0 + i1 * 7, none⟩ (.string e1.Name), .loaded ⟨blkOf A0, offOf A0 + i1 * 7 + 1, none⟩ (.int .i64 e1.C), .loaded ⟨blkOf A0, offOf A0 + i1 * 7 + 2, none⟩ (.int .i64 e1.T), .loaded ⟨blkOf A0, offOf A0 + i1 * 7 + 3, none⟩ (.int .i64 e1.D), .loaded ⟨blkOf A0, offOf A0 + i1 * 7 + 4, none⟩ (.int .i64 e1.J), .loaded ⟨blkOf A0, offOf A0 + i1 * 7 + 5, none⟩ (.int .i64 e1.O), .loaded ⟨blkOf A0, offOf A0 + i1 * 7 + 6, none⟩ (.int .i64 e1.P)]) (by kernel_rfl) ⟨RdL.cell (j := 0) (hS.rd hR0) hx2 rfl, RdL.cell (j := 1) (hS.rd hR0) hx2 rfl, RdL.cell (j := 2) (hS.rd hR0) hx2 rfl, RdL.cell (j := 3) (hS.rd hR0) hx2 rfl, RdL.cell (j := 4) (hS.rd hR0) hx2 rfl, RdL.cell (j := 5) (hS.rd hR0) hx2 rfl, RdL.cell (j := 6) (hS.rd hR0) hx2 rfl, trivial⟩ ?_
    refine ge_new (d := some 4) (o := .cells #[.string (⟨#[]⟩), .int .i64 0, .int .i64 0, .int .i64 0, .int .i64 0, .int .i64 0, .int .i64 0] 46) (v := fun b => .pointer (some ⟨b, 0, none⟩)) hS (fun b => by kernel_rfl) fun b2 w7 hx3 hS13 => ?_
    refine ge_batch [4] (ans := []) (vs := [(3, .int .i64 (i1 : Int))]) (l := []) (by kernel_rfl) trivial ?_
    refine ge_set (b := b2) (j := 0) (cs := #[.string (⟨#[]⟩), .int .i64 0, .int .i64 0, .int .i64 0, .int .i64 0, .int .i64 0, .int .i64 0]) (t := 46) (vs := [.string e1.Name, .int .i64 e1.C, .int .i64 e1.T, .int .i64 e1.D, .int .i64 e1.J, .int .i64 e1.O, .int .i64 e1.P]) hS13 (by kernel_rfl) rfl rfl fun w8 hS14 => ?_
    have hS15 : St w0 w8 [Own.blk b2 (.cells #[.string e1.Name, .int .i64 e1.C, .int .i64 e1.T, .int .i64 e1.D, .int .i64 e1.J, .int .i64 e1.O, .int .i64 e1.P] 46 (0, 0)), Own.blk b1 (.cells #[.int .i64 0, .int .i64 0] 26 (0, 0))] := hS14
    refine ge_nil fun a hF => hK11 _ _ ?_ a hF
    refine we_seq fun K12 hK12 => ?_
    rcases hq4 : punctualref_CheckSet.p2 e1 with _ | (q2 | rr4)
    · rw [hq4] at h; cases h
    · rw [hq4] at h
      simp only [] at h
      refine we_keep (e' := [(0, .slice A0 l0.length c0), (2, .pointer (some ⟨b1, 0, none⟩)), (3, .int .i64 (i1 : Int)), (4, .pointer (some ⟨b2, 0, none⟩)), (22, .slice A0 l0.length c0), (23, .int .i64 (l0.length : Int)), (24, .int .i64 (i1 : Int)), (25, .bool true), (26, .int .i64 (i1 : Int)), (27, .pointer (some ⟨blkOf A0, offOf A0 + i1 * 7, none⟩)), (28, .agg #[.string e1.Name, .int .i64 e1.C, .int .i64 e1.T, .int .i64 e1.D, .int .i64 e1.J, .int .i64 e1.O, .int .i64 e1.P])]) ⟨by kernel_rfl, by kernel_rfl, by kernel_rfl, by kernel_rfl, by kernel_rfl, by kernel_rfl, by kernel_rfl, by kernel_rfl, by kernel_rfl, by kernel_rfl, by kernel_rfl, trivial⟩ (punctualref_CheckSet_p2 K w0 l0 A0 c0 hR0 hL0 b1 i1 hc3 e1 hx2 b2 _ hq4 _ hS15 _ ?_)
      rintro _ a w9 ⟨rfl, hS20, hF⟩
      replace hS20 : St w0 w9 [Own.blk b2 (.cells #[.string e1.Name, .int .i64 e1.C, .int .i64 e1.T, .int .i64 e1.D, .int .i64 e1.J, .int .i64 e1.O, .int .i64 e1.P] 46 (0, 0)), Own.blk b1 (.cells #[.int .i64 0, .int .i64 0] 26 (0, 0))] := hS20
      refine hK12 [(0, .slice A0 l0.length c0), (2, .pointer (some ⟨b1, 0, none⟩)), (3, .int .i64 (i1 : Int)), (4, .pointer (some ⟨b2, 0, none⟩)), (5, .bool q2), (22, .slice A0 l0.length c0), (23, .int .i64 (l0.length : Int)), (24, .int .i64 (i1 : Int))] w9 ?_ a hF
      refine we_seq fun K13 hK13 => ?_
      refine we_seq fun K14 hK14 => ?_
      refine we_region [(0, 0)] rfl ?_
      refine ge_batch [0] (ans := []) (vs := [(6, .int .i64 0)]) (l := []) (by kernel_rfl) trivial ?_
      refine ge_nil fun a hF => hK14 _ _ ?_ a hF
      refine we_block ?_
      have hS21 := hS20.bring 1 rfl
      have hS22 := hS21.bring 1 rfl
      rcases hq5 : iter (punctualref_CheckSet.r3 e1) K (q2, 0) with _ | (q5 | rr3)
      · rw [hq5] at h; cases h
      · rw [hq5] at h
        simp only [] at h
        refine we_iter (A := punctualref_CheckSet.A3 K w0 l0 A0 c0 hR0 hL0 b1 i1 hc3 e1 hx2 b2 q2) (B := punctualref_CheckSet.B3 K w0 l0 A0 c0 hR0 hL0 b1 i1 hc3 e1 hx2 b2 q2) hq5 (fun a hF => ⟨hS22, hF.weaken ⟨by kernel_rfl, by kernel_rfl, by kernel_rfl, by kernel_rfl, by kernel_rfl, by kernel_rfl, by kernel_rfl, by kernel_rfl, by kernel_rfl, trivial⟩⟩) (fun s o hf a w hA Q hQ => punctualref_CheckSet_r3 K w0 l0 A0 c0 hR0 hL0 b1 i1 hc3 e1 hx2 b2 q2 s o hf a w hA Q hQ) ?_
        rintro _ a w10 _ ⟨rfl, hS31, hF⟩
        replace hS31 : St w0 w10 [Own.blk b2 (.cells #[.string e1.Name, .int .i64 e1.C, .int .i64 e1.T, .int .i64 e1.D, .int .i64 e1.J, .int .i64 e1.O, .int .i64 e1.P] 46 (0, 0)), Own.blk b1 (.cells #[.int .i64 0, .int .i64 0] 26 (0, 0))] := hS31
        refine hK13 [(0, .slice A0 l0.length c0), (2, .pointer (some ⟨b1, 0, none⟩)), (3, .int .i64 (i1 : Int)), (4, .pointer (some ⟨b2, 0, none⟩)), (5, .bool q5), (22, .slice A0 l0.length c0), (23, .int .i64 (l0.length : Int)), (24, .int .i64 (i1 : Int))] w10 ?_ a hF
        refine we_seq fun K18 hK18 => ?_
        refine we_seq fun K19 hK19 => ?_
        refine we_region [(0, 0), (1, 0)] rfl ?_
        refine ge_batch [0, 1] (ans := []) (vs := [(62, .bool (!q5)), (61, .bool q5)]) (l := []) (by kernel_rfl) trivial ?_
        refine ge_nil fun a hF => hK19 _ _ ?_ a hF
        by_cases hc9 : q5 = true
        · rw [if_pos hc9] at h
          refine we_known (t := 62) (b := !q5) (v := false) (by kernel_rfl) (congrArg (fun z => !z) hc9) ?_
          refine we_false (by kernel_rfl) ?_
          refine we_skip fun a hF => hK18 _ _ ?_ a hF
          refine we_seq fun K20 hK20 => ?_
          refine we_seq fun K21 hK21 => ?_
          refine we_region [(0, 0), (1, 0), (2, 0), (3, 0), (4, 0)] rfl ?_
          refine ge_batch [0, 1] (ans := []) (vs := [(66, .int .i64 (i1 : Int)), (65, .slice A0 l0.length c0)]) (l := []) (by kernel_rfl) trivial ?_
          by_cases hc10 : i1 ≤ l0.length
          · rw [if_pos hc10] at h
            refine ge_part (d := 67) (ty := 40) (t := 40) (el := 46) (sz := 7) (m := l0.length) (c := c0) (lo := 0) (hi := i1) (x := (.tmp 65)) (xl := none) (xh := some (.tmp 66)) (A := A0) (by kernel_rfl) (by kernel_rfl) rfl ⟨.i64, (i1 : Int), by kernel_rfl, rfl⟩ (by kernel_rfl) (by kernel_rfl) (by have f0 := hc10; have f1 := hL0; omega) (by have f0 := hc10; have f1 := hL0; omega) ?_
            refine ge_same (t := 67) (v := .slice (subA A0 c0 0 7) (i1 - 0) (c0 - 0)) (v' := .slice (subA A0 c0 0 7) (((l0.take i1).drop 0).length) (c0 - 0)) (by kernel_rfl) (by have f0 := hc10; have f1 := hL0; rw [show i1 - 0 = ((l0.take i1).drop 0).length by simp only [List.length_drop, List.length_take]; omega]) ?_
            refine ge_batch [3, 4] (ans := []) (vs := [(69, .int .i64 0), (68, .int .i64 (((l0.take i1).drop 0).length : Int))]) (l := []) (by kernel_rfl) trivial ?_
            refine ge_nil fun a hF => hK21 _ _ ?_ a hF
            refine we_block ?_
            have hS32 := hS31.bring 1 rfl
            have hS33 := hS32.bring 1 rfl
            rcases hq7 : iter (punctualref_CheckSet.r4 l0 i1 e1) K 0 with _ | (_ | rr2)
            · rw [hq7] at h; cases h
            · rw [hq7] at h
              simp only [] at h
              refine we_iter (A := punctualref_CheckSet.A4 K w0 l0 A0 c0 hR0 hL0 b1 i1 hc3 e1 hx2 b2 q2 q5 hc9 hc10) (B := punctualref_CheckSet.B4 K w0 l0 A0 c0 hR0 hL0 b1 i1 hc3 e1 hx2 b2 q2 q5 hc9 hc10) hq7 (fun a hF => ⟨hS33, hF.weaken ⟨by kernel_rfl, by kernel_rfl, by kernel_rfl, by kernel_rfl, by kernel_rfl, by kernel_rfl, by kernel_rfl, by kernel_rfl, by kernel_rfl, by kernel_rfl, trivial⟩⟩) (fun s o hf a w hA Q hQ => punctualref_CheckSet_r4 K w0 l0 A0 c0 hR0 hL0 b1 i1 hc3 e1 hx2 b2 q2 q5 hc9 hc10 s o hf a w hA Q hQ) ?_
              rintro _ a w15 _ ⟨rfl, hS48, hF⟩
              replace hS48 : St w0 w15 [Own.blk b2 (.cells #[.string e1.Name, .int .i64 e1.C, .int .i64 e1.T, .int .i64 e1.D, .int .i64 e1.J, .int .i64 e1.O, .int .i64 e1.P] 46 (0, 0)), Own.blk b1 (.cells #[.int .i64 0, .int .i64 0] 26 (0, 0))] := hS48
              refine hK20 [(0, .slice A0 l0.length c0), (2, .pointer (some ⟨b1, 0, none⟩)), (3, .int .i64 (i1 : Int)), (4, .pointer (some ⟨b2, 0, none⟩)), (22, .slice A0 l0.length c0), (23, .int .i64 (l0.length : Int)), (24, .int .i64 (i1 : Int))] w15 ?_ a hF
              refine we_seq fun K28 hK28 => ?_
              refine we_region [(0, 0), (1, 0), (2, 1), (3, 1), (4, 2), (5, 2)] rfl ?_
              refine ge_batch [0, 1] (ans := []) (vs := [(82, .agg #[.int .i64 10000, .int .i64 10000, .int .i64 10000, .int .i64 10000, .int .i64 10000, .int .i64 1000]), (81, .agg #[.int .i64 1, .int .i64 1, .int .i64 1, .int .i64 0, .int .i64 0, .int .i64 0])]) (l := []) (by kernel_rfl) trivial ?_
              refine ge_new (d := some 9) (o := .cells #[.int .i64 0, .int .i64 0, .int .i64 0, .int .i64 0, .int .i64 0, .int .i64 0] 94) (v := fun b => .pointer (some ⟨b, 0, none⟩)) hS48 (fun b => by kernel_rfl) fun b5 w16 hx7 hS49 => ?_
              refine ge_new (d := some 10) (o := .cells #[.int .i64 0, .int .i64 0, .int .i64 0, .int .i64 0, .int .i64 0, .int .i64 0] 94) (v := fun b => .pointer (some ⟨b, 0, none⟩)) hS49 (fun b => by kernel_rfl) fun b6 w17 hx8 hS50 => ?_
              have hS51 := hS50.bring 1 rfl
              refine ge_set (b := b5) (j := 0) (cs := #[.int .i64 0, .int .i64 0, .int .i64 0, .int .i64 0, .int .i64 0, .int .i64 0]) (t := 94) (vs := [.int .i64 1, .int .i64 1, .int .i64 1, .int .i64 0, .int .i64 0, .int .i64 0]) hS51 (by kernel_rfl) rfl rfl fun w18 hS52 => ?_
              have hS53 : St w0 w18 [Own.blk b5 (.cells #[.int .i64 1, .int .i64 1, .int .i64 1, .int .i64 0, .int .i64 0, .int .i64 0] 94 (0, 0)), Own.blk b6 (.cells #[.int .i64 0, .int .i64 0, .int .i64 0, .int .i64 0, .int .i64 0, .int .i64 0] 94 (0, 0)), Own.blk b2 (.cells #[.string e1.Name, .int .i64 e1.C, .int .i64 e1.T, .int .i64 e1.D, .int .i64 e1.J, .int .i64 e1.O, .int .i64 e1.P] 46 (0, 0)), Own.blk b1 (.cells #[.int .i64 0, .int .i64 0] 26 (0, 0))] := hS52
              have hS54 := hS53.bring 1 rfl
              refine ge_set (b := b6) (j := 0) (cs := #[.int .i64 0, .int .i64 0, .int .i64 0, .int .i64 0, .int .i64 0, .int .i64 0]) (t := 94) (vs := [.int .i64 10000, .int .i64 10000, .int .i64 10000, .int .i64 10000, .int .i64 10000, .int .i64 1000]) hS54 (by kernel_rfl) rfl rfl fun w19 hS55 => ?_
              have hS56 : St w0 w19 [Own.blk b6 (.cells #[.int .i64 10000, .int .i64 10000, .int .i64 10000, .int .i64 10000, .int .i64 10000, .int .i64 1000] 94 (0, 0)), Own.blk b5 (.cells #[.int .i64 1, .int .i64 1, .int .i64 1, .int .i64 0, .int .i64 0, .int .i64 0] 94 (0, 0)), Own.blk b2 (.cells #[.string e1.Name, .int .i64 e1.C, .int .i64 e1.T, .int .i64 e1.D, .int .i64 e1.J, .int .i64 e1.O, .int .i64 e1.P] 46 (0, 0)), Own.blk b1 (.cells #[.int .i64 0, .int .i64 0] 26 (0, 0))] := hS55
              refine ge_nil fun a hF => hK28 _ _ ?_ a hF
              refine we_seq fun K29 hK29 => ?_
              refine we_seq fun K30 hK30 => ?_
              refine we_region [(0, 0), (1, 1), (2, 0)] rfl ?_
              refine ge_batch [0] (ans := [.val (.string e1.Name), .val (.int .i64 e1.C), .val (.int .i64 e1.T), .val (.int .i64 e1.D), .val (.int .i64 e1.J), .val (.int .i64 e1.O), .val (.int .i64 e1.P)]) (vs := [(83, .agg #[.string e1.Name, .int .i64 e1.C, .int .i64 e1.T, .int .i64 e1.D, .int .i64 e1.J, .int .i64 e1.O, .int .i64 e1.P])]) (l := [.loaded ⟨b2, 0, none⟩ (.string e1.Name), .loaded ⟨b2, 1, none⟩ (.int .i64 e1.C), .loaded ⟨b2, 2, none⟩ (.int .i64 e1.T), .loaded ⟨b2, 3, none⟩ (.int .i64 e1.D), .loaded ⟨b2, 4, none⟩ (.int .i64 e1.J), .loaded ⟨b2, 5, none⟩ (.int .i64 e1.O), .loaded ⟨b2, 6, none⟩ (.int .i64 e1.P)]) (by kernel_rfl) ⟨hS56.cell 2 rfl rfl, hS56.cell 2 rfl rfl, hS56.cell 2 rfl rfl, hS56.cell 2 rfl rfl, hS56.cell 2 rfl rfl, hS56.cell 2 rfl rfl, hS56.cell 2 rfl rfl, trivial⟩ ?_
              refine ge_call (d := some 84) (f := 66) (args := #[.agg #[.string e1.Name, .int .i64 e1.C, .int .i64 e1.T, .int .i64 e1.D, .int .i64 e1.J, .int .i64 e1.O, .int .i64 e1.P]]) (by kernel_rfl) (punctualref_sixOf_ok e1 _ _ rfl) ?_
              rintro _ w20 ⟨rfl, hS57⟩
              refine ⟨_, rfl, hS57.below, ?_⟩
              have hS58 := hS56.call hS57
              refine ge_batch [2] (ans := []) (vs := [(85, .int .i64 0)]) (l := []) (by kernel_rfl) trivial ?_
              refine ge_nil fun a hF => hK30 _ _ ?_ a hF
              refine we_block ?_
              have hS59 := hS58.bring 3 rfl
              have hS60 := hS59.bring 3 rfl
              have hS61 := hS60.bring 3 rfl
              have hS62 := hS61.bring 3 rfl
              rcases hq11 : iter (punctualref_CheckSet.r5 i1 e1) K 0 with _ | (_ | rr1)
              · rw [hq11] at h; cases h
              · rw [hq11] at h
                simp only [] at h
                refine we_iter (A := punctualref_CheckSet.A5 K w0 l0 A0 c0 hR0 hL0 b1 i1 hc3 e1 hx2 b2 q2 q5 hc9 hc10 b5 b6) (B := punctualref_CheckSet.B5 K w0 l0 A0 c0 hR0 hL0 b1 i1 hc3 e1 hx2 b2 q2 q5 hc9 hc10 b5 b6) hq11 (fun a hF => ⟨hS62, hF.weaken ⟨by kernel_rfl, by kernel_rfl, by kernel_rfl, by kernel_rfl, by kernel_rfl, by kernel_rfl, by kernel_rfl, by kernel_rfl, by kernel_rfl, by kernel_rfl, by kernel_rfl, trivial⟩⟩) (fun s o hf a w hA Q hQ => punctualref_CheckSet_r5 K w0 l0 A0 c0 hR0 hL0 b1 i1 hc3 e1 hx2 b2 q2 q5 hc9 hc10 b5 b6 s o hf a w hA Q hQ) ?_
                rintro _ a w25 _ ⟨rfl, hS82, hF⟩
                replace hS82 : St w0 w25 [Own.blk b2 (.cells #[.string e1.Name, .int .i64 e1.C, .int .i64 e1.T, .int .i64 e1.D, .int .i64 e1.J, .int .i64 e1.O, .int .i64 e1.P] 46 (0, 0)), Own.blk b1 (.cells #[.int .i64 0, .int .i64 0] 26 (0, 0))] := hS82
                refine hK29 [(0, .slice A0 l0.length c0), (2, .pointer (some ⟨b1, 0, none⟩)), (3, .int .i64 (i1 : Int)), (4, .pointer (some ⟨b2, 0, none⟩)), (22, .slice A0 l0.length c0), (23, .int .i64 (l0.length : Int)), (24, .int .i64 (i1 : Int))] w25 ?_ a hF
                refine we_seq fun K38 hK38 => ?_
                refine we_region [(0, 0), (1, 0), (2, 0), (3, 0), (4, 0)] rfl ?_
                refine ge_batch [0, 1, 2, 3, 4] (ans := [.val (.int .i64 e1.D), .val (.int .i64 e1.C)]) (vs := [(108, .bool (decide (e1.D < e1.C))), (107, .int .i64 e1.C), (106, .pointer (some ⟨b2, 1, none⟩)), (105, .int .i64 e1.D), (104, .pointer (some ⟨b2, 3, none⟩))]) (l := [.loaded ⟨b2, 3, none⟩ (.int .i64 e1.D), .loaded ⟨b2, 1, none⟩ (.int .i64 e1.C)]) (by kernel_rfl) ⟨hS82.cell 0 rfl rfl, hS82.cell 0 rfl rfl, trivial⟩ ?_
                refine ge_nil fun a hF => hK38 _ _ ?_ a hF
                by_cases hc16 : e1.D < e1.C
                · rw [if_pos hc16] at h
                  refine we_known (t := 108) (b := decide (e1.D < e1.C)) (v := true) (by kernel_rfl) (decide_eq_true hc16) ?_
                  refine we_true (by kernel_rfl) ?_
                  refine we_seq fun K39 hK39 => ?_
                  refine we_region [(0, 0), (1, 1), (2, 2)] rfl ?_
                  refine ge_batch [0] (ans := []) (vs := [(109, .int .i64 (i1 : Int))]) (l := []) (by kernel_rfl) trivial ?_
                  refine ge_call (d := some 110) (f := 21) (args := #[.int .i64 12, .int .i64 (i1 : Int)]) (by kernel_rfl) (punctualref_F_ok 12 (i1 : Int) _ _ rfl) ?_
                  rintro _ w26 ⟨rfl, hS83⟩
                  refine ⟨_, rfl, hS83.below, ?_⟩
                  have hS84 := hS82.call hS83
                  have hS85 := hS84.bring 1 rfl
                  refine ge_set (b := b1) (j := 0) (cs := #[.int .i64 0, .int .i64 0]) (t := 26) (vs := [.int .i64 ((punctualref_F.f 12 (i1 : Int)).Code), .int .i64 ((punctualref_F.f 12 (i1 : Int)).At)]) hS85 (by kernel_rfl) rfl rfl fun w27 hS86 => ?_
                  have hS87 : St w0 w27 [Own.blk b1 (.cells #[.int .i64 ((punctualref_F.f 12 (i1 : Int)).Code), .int .i64 ((punctualref_F.f 12 (i1 : Int)).At)] 26 (0, 0)), Own.blk b2 (.cells #[.string e1.Name, .int .i64 e1.C, .int .i64 e1.T, .int .i64 e1.D, .int .i64 e1.J, .int .i64 e1.O, .int .i64 e1.P] 46 (0, 0))] := hS86
                  refine ge_nil fun a hF => hK39 _ _ ?_ a hF
                  have hS88 := hS87.takeN 0
                  obtain rfl := Option.some.inj h
                  exact we_ret fun a hF => hQ _ _ _ (Outs.out nofun (Exits.on ⟨rfl, (post_ret (rs := [.cell 2 26]) (ans := [.val (.int .i64 ((punctualref_F.f 12 (i1 : Int)).Code)), .val (.int .i64 ((punctualref_F.f 12 (i1 : Int)).At))]) (vs := [.agg #[.int .i64 ((punctualref_F.f 12 (i1 : Int)).Code), .int .i64 ((punctualref_F.f 12 (i1 : Int)).At)]]) (l := [.loaded ⟨b1, 0, none⟩ (.int .i64 ((punctualref_F.f 12 (i1 : Int)).Code)), .loaded ⟨b1, 1, none⟩ (.int .i64 ((punctualref_F.f 12 (i1 : Int)).At))]) rfl (by kernel_rfl) ⟨hS87.cell 0 rfl rfl, hS87.cell 0 rfl rfl, trivial⟩ ⟨rfl, hS88⟩) a hF⟩))
                · rw [if_neg hc16] at h
                  refine we_known (t := 108) (b := decide (e1.D < e1.C)) (v := false) (by kernel_rfl) (decide_eq_false hc16) ?_
                  refine we_false (by kernel_rfl) ?_
                  refine we_skip fun a hF => hK10 _ _ ?_ a hF
                  refine we_region [(0, 0), (1, 0)] rfl ?_
                  refine ge_addn (d := 111) (ty := 3) (x := (.tmp 24)) (y := (.const (.int .i64 1))) (t := 3) (t2 := 3) (k := .i64) (m := i1) (by kernel_rfl) (by kernel_rfl) (by kernel_rfl) (by have h0 := hR0.small; omega) ?_
                  refine ge_batch [1] (ans := []) (vs := [(24, .int .i64 ((i1 + 1 : Nat) : Int))]) (l := []) (by kernel_rfl) trivial ?_
                  have hS89 := hS82.bring 1 rfl
                  have hS90 := hS89.takeN 1
                  obtain rfl := Option.some.inj h
                  exact ge_nil fun a hF => hQ _ _ _ (Outs.again ⟨hS90, hF.weaken ⟨by kernel_rfl, by kernel_rfl, by kernel_rfl, by kernel_rfl, by kernel_rfl, trivial⟩⟩)
              · rw [hq11] at h
                simp only [] at h
                refine we_iter (A := punctualref_CheckSet.A5 K w0 l0 A0 c0 hR0 hL0 b1 i1 hc3 e1 hx2 b2 q2 q5 hc9 hc10 b5 b6) (B := punctualref_CheckSet.B5 K w0 l0 A0 c0 hR0 hL0 b1 i1 hc3 e1 hx2 b2 q2 q5 hc9 hc10 b5 b6) hq11 (fun a hF => ⟨hS62, hF.weaken ⟨by kernel_rfl, by kernel_rfl, by kernel_rfl, by kernel_rfl, by kernel_rfl, by kernel_rfl, by kernel_rfl, by kernel_rfl, by kernel_rfl, by kernel_rfl, by kernel_rfl, trivial⟩⟩) (fun s o hf a w hA Q hQ => punctualref_CheckSet_r5 K w0 l0 A0 c0 hR0 hL0 b1 i1 hc3 e1 hx2 b2 q2 q5 hc9 hc10 b5 b6 s o hf a w hA Q hQ) ?_
                rintro _ a w1 _ ⟨rfl, hb⟩
                obtain rfl := Option.some.inj h
                exact hQ _ _ _ (Outs.out nofun (Exits.on ⟨rfl, hb⟩))
            · rw [hq7] at h
              simp only [] at h
              refine we_iter (A := punctualref_CheckSet.A4 K w0 l0 A0 c0 hR0 hL0 b1 i1 hc3 e1 hx2 b2 q2 q5 hc9 hc10) (B := punctualref_CheckSet.B4 K w0 l0 A0 c0 hR0 hL0 b1 i1 hc3 e1 hx2 b2 q2 q5 hc9 hc10) hq7 (fun a hF => ⟨hS33, hF.weaken ⟨by kernel_rfl, by kernel_rfl, by kernel_rfl, by kernel_rfl, by kernel_rfl, by kernel_rfl, by kernel_rfl, by kernel_rfl, by kernel_rfl, by kernel_rfl, trivial⟩⟩) (fun s o hf a w hA Q hQ => punctualref_CheckSet_r4 K w0 l0 A0 c0 hR0 hL0 b1 i1 hc3 e1 hx2 b2 q2 q5 hc9 hc10 s o hf a w hA Q hQ) ?_
              rintro _ a w1 _ ⟨rfl, hb⟩
              obtain rfl := Option.some.inj h
              exact hQ _ _ _ (Outs.out nofun (Exits.on ⟨rfl, hb⟩))
          · rw [if_neg hc10] at h
            cases h
        · rw [if_neg hc9] at h
          refine we_known (t := 62) (b := !q5) (v := true) (by kernel_rfl) (congrArg (fun z => !z) (Bool.eq_false_iff.2 hc9)) ?_
          refine we_true (by kernel_rfl) ?_
          refine we_seq fun K40 hK40 => ?_
          refine we_region [(0, 0), (1, 1), (2, 2)] rfl ?_
          refine ge_batch [0] (ans := []) (vs := [(63, .int .i64 (i1 : Int))]) (l := []) (by kernel_rfl) trivial ?_
          refine ge_call (d := some 64) (f := 21) (args := #[.int .i64 4, .int .i64 (i1 : Int)]) (by kernel_rfl) (punctualref_F_ok 4 (i1 : Int) _ _ rfl) ?_
          rintro _ w28 ⟨rfl, hS91⟩
          refine ⟨_, rfl, hS91.below, ?_⟩
          have hS92 := hS31.call hS91
          have hS93 := hS92.bring 1 rfl
          refine ge_set (b := b1) (j := 0) (cs := #[.int .i64 0, .int .i64 0]) (t := 26) (vs := [.int .i64 ((punctualref_F.f 4 (i1 : Int)).Code), .int .i64 ((punctualref_F.f 4 (i1 : Int)).At)]) hS93 (by kernel_rfl) rfl rfl fun w29 hS94 => ?_
          have hS95 : St w0 w29 [Own.blk b1 (.cells #[.int .i64 ((punctualref_F.f 4 (i1 : Int)).Code), .int .i64 ((punctualref_F.f 4 (i1 : Int)).At)] 26 (0, 0)), Own.blk b2 (.cells #[.string e1.Name, .int .i64 e1.C, .int .i64 e1.T, .int .i64 e1.D, .int .i64 e1.J, .int .i64 e1.O, .int .i64 e1.P] 46 (0, 0))] := hS94
          refine ge_nil fun a hF => hK40 _ _ ?_ a hF
          have hS96 := hS95.takeN 0
          obtain rfl := Option.some.inj h
          exact we_ret fun a hF => hQ _ _ _ (Outs.out nofun (Exits.on ⟨rfl, (post_ret (rs := [.cell 2 26]) (ans := [.val (.int .i64 ((punctualref_F.f 4 (i1 : Int)).Code)), .val (.int .i64 ((punctualref_F.f 4 (i1 : Int)).At))]) (vs := [.agg #[.int .i64 ((punctualref_F.f 4 (i1 : Int)).Code), .int .i64 ((punctualref_F.f 4 (i1 : Int)).At)]]) (l := [.loaded ⟨b1, 0, none⟩ (.int .i64 ((punctualref_F.f 4 (i1 : Int)).Code)), .loaded ⟨b1, 1, none⟩ (.int .i64 ((punctualref_F.f 4 (i1 : Int)).At))]) rfl (by kernel_rfl) ⟨hS95.cell 0 rfl rfl, hS95.cell 0 rfl rfl, trivial⟩ ⟨rfl, hS96⟩) a hF⟩))
      · rw [hq5] at h
        simp only [] at h
        refine we_iter (A := punctualref_CheckSet.A3 K w0 l0 A0 c0 hR0 hL0 b1 i1 hc3 e1 hx2 b2 q2) (B := punctualref_CheckSet.B3 K w0 l0 A0 c0 hR0 hL0 b1 i1 hc3 e1 hx2 b2 q2) hq5 (fun a hF => ⟨hS22, hF.weaken ⟨by kernel_rfl, by kernel_rfl, by kernel_rfl, by kernel_rfl, by kernel_rfl, by kernel_rfl, by kernel_rfl, by kernel_rfl, by kernel_rfl, trivial⟩⟩) (fun s o hf a w hA Q hQ => punctualref_CheckSet_r3 K w0 l0 A0 c0 hR0 hL0 b1 i1 hc3 e1 hx2 b2 q2 s o hf a w hA Q hQ) ?_
        rintro _ a w1 _ ⟨rfl, hb⟩
        obtain rfl := Option.some.inj h
        exact hQ _ _ _ (Outs.out nofun (Exits.on ⟨rfl, hb⟩))
    · rw [hq4] at h
      simp only [] at h
      refine we_keep (e' := [(0, .slice A0 l0.length c0), (2, .pointer (some ⟨b1, 0, none⟩)), (3, .int .i64 (i1 : Int)), (4, .pointer (some ⟨b2, 0, none⟩)), (22, .slice A0 l0.length c0), (23, .int .i64 (l0.length : Int)), (24, .int .i64 (i1 : Int)), (25, .bool true), (26, .int .i64 (i1 : Int)), (27, .pointer (some ⟨blkOf A0, offOf A0 + i1 * 7, none⟩)), (28, .agg #[.string e1.Name, .int .i64 e1.C, .int .i64 e1.T, .int .i64 e1.D, .int .i64 e1.J, .int .i64 e1.O, .int .i64 e1.P])]) ⟨by kernel_rfl, by kernel_rfl, by kernel_rfl, by kernel_rfl, by kernel_rfl, by kernel_rfl, by kernel_rfl, by kernel_rfl, by kernel_rfl, by kernel_rfl, by kernel_rfl, trivial⟩ (punctualref_CheckSet_p2 K w0 l0 A0 c0 hR0 hL0 b1 i1 hc3 e1 hx2 b2 _ hq4 _ hS15 _ ?_)
      rintro _ a w1 ⟨_, rfl, hb⟩
      obtain rfl := Option.some.inj h
      exact hQ _ _ _ (Outs.out nofun (Exits.on ⟨rfl, hb⟩))
  · rw [if_neg hc3] at h
    refine we_known (t := 25) (b := decide ((i1 : Int) < (l0.length : Int))) (v := false) (by kernel_rfl) (decide_eq_false hc3) ?_
    refine we_false (by kernel_rfl) ?_
    obtain rfl := Option.some.inj h
    exact we_exit fun a hF => hQ _ _ _ (Outs.out nofun (Exits.here ⟨hS, hF.weaken ⟨by kernel_rfl, trivial⟩⟩))
theorem punctualref_CheckSet_ok (K : Nat) (l0 : List STask) (A0 : Option Addr) (c0 : Nat) (w0 : World) (hR0 : RdL w0 A0 l0) (hL0 : l0.length ≤ c0) (r : SFault) (h : punctualref_CheckSet.f K l0 = some r) :
    Calls Tryd.prog 23 #[.slice A0 l0.length c0] w0 (punctualref_CheckSet.Post w0 r) := by
  have hS := St.start w0
  unfold punctualref_CheckSet.f at h
  refine calls_enter (n := 113) (args := [.slice A0 l0.length c0]) (fn := Tryd.f23) rfl rfl rfl rfl ?_
  show WE _ _ _ _ [(0, .slice A0 l0.length c0)] _
  refine we_seq fun K1 hK1 => ?_
  refine we_region [(0, 1)] rfl ?_
  refine ge_new (d := some 2) (o := .cells #[.int .i64 0, .int .i64 0] 26) (v := fun b => .pointer (some ⟨b, 0, none⟩)) hS (fun b => by kernel_rfl) fun b1 w1 hx1 hS1 => ?_
  refine ge_nil fun a hF => hK1 _ _ ?_ a hF
  refine we_seq fun K2 hK2 => ?_
  rcases hq3 : punctualref_CheckSet.p0 l0 with _ | (_ | rr6)
  · rw [hq3] at h; cases h
  · rw [hq3] at h
    simp only [] at h
    refine we_keep (e' := [(0, .slice A0 l0.length c0), (2, .pointer (some ⟨b1, 0, none⟩))]) ⟨by kernel_rfl, by kernel_rfl, trivial⟩ (punctualref_CheckSet_p0 K w0 l0 A0 c0 hR0 hL0 b1 _ hq3 _ hS1 _ ?_)
    rintro _ a w6 ⟨rfl, hS12, hF⟩
    replace hS12 : St w0 w6 [Own.blk b1 (.cells #[.int .i64 0, .int .i64 0] 26 (0, 0))] := hS12
    refine hK2 [(0, .slice A0 l0.length c0), (2, .pointer (some ⟨b1, 0, none⟩))] w6 ?_ a hF
    refine we_seq fun K6 hK6 => ?_
    refine we_seq fun K7 hK7 => ?_
    refine we_region [(0, 0), (1, 0), (2, 0)] rfl ?_
    refine ge_batch [0, 1, 2] (ans := []) (vs := [(24, .int .i64 0), (23, .int .i64 (l0.length : Int)), (22, .slice A0 l0.length c0)]) (l := []) (by kernel_rfl) trivial ?_
    refine ge_nil fun a hF => hK7 _ _ ?_ a hF
    refine we_block ?_
    rcases hq14 : iter (punctualref_CheckSet.r1 K l0) K 0 with _ | (_ | rr5)
    · rw [hq14] at h; cases h
    · rw [hq14] at h
      simp only [] at h
      refine we_iter (A := punctualref_CheckSet.A1 K w0 l0 A0 c0 hR0 hL0 b1) (B := punctualref_CheckSet.B1 K w0 l0 A0 c0 hR0 hL0 b1) hq14 (fun a hF => ⟨hS12, hF.weaken ⟨by kernel_rfl, by kernel_rfl, by kernel_rfl, by kernel_rfl, by kernel_rfl, trivial⟩⟩) (fun s o hf a w hA Q hQ => punctualref_CheckSet_r1 K w0 l0 A0 c0 hR0 hL0 b1 s o hf a w hA Q hQ) ?_
      rintro _ a w30 _ ⟨rfl, hS97, hF⟩
      replace hS97 : St w0 w30 [Own.blk b1 (.cells #[.int .i64 0, .int .i64 0] 26 (0, 0))] := hS97
      refine hK6 [(2, .pointer (some ⟨b1, 0, none⟩))] w30 ?_ a hF
      refine we_seq fun K41 hK41 => ?_
      refine we_region [(0, 0), (1, 2)] rfl ?_
      refine ge_batch [0] (ans := []) (vs := [(112, .agg #[.int .i64 0, .int .i64 0])]) (l := []) (by kernel_rfl) trivial ?_
      refine ge_set (b := b1) (j := 0) (cs := #[.int .i64 0, .int .i64 0]) (t := 26) (vs := [.int .i64 0, .int .i64 0]) hS97 (by kernel_rfl) rfl rfl fun w31 hS98 => ?_
      have hS99 : St w0 w31 [Own.blk b1 (.cells #[.int .i64 0, .int .i64 0] 26 (0, 0))] := hS98
      refine ge_nil fun a hF => hK41 _ _ ?_ a hF
      have hS100 := hS99.takeN 0
      obtain rfl := Option.some.inj h
      exact we_ret (post_ret (rs := [.cell 2 26]) (ans := [.val (.int .i64 0), .val (.int .i64 0)]) (vs := [.agg #[.int .i64 0, .int .i64 0]]) (l := [.loaded ⟨b1, 0, none⟩ (.int .i64 0), .loaded ⟨b1, 1, none⟩ (.int .i64 0)]) rfl (by kernel_rfl) ⟨hS99.cell 0 rfl rfl, hS99.cell 0 rfl rfl, trivial⟩ ⟨rfl, hS100⟩)
    · rw [hq14] at h
      simp only [] at h
      refine we_iter (A := punctualref_CheckSet.A1 K w0 l0 A0 c0 hR0 hL0 b1) (B := punctualref_CheckSet.B1 K w0 l0 A0 c0 hR0 hL0 b1) hq14 (fun a hF => ⟨hS12, hF.weaken ⟨by kernel_rfl, by kernel_rfl, by kernel_rfl, by kernel_rfl, by kernel_rfl, trivial⟩⟩) (fun s o hf a w hA Q hQ => punctualref_CheckSet_r1 K w0 l0 A0 c0 hR0 hL0 b1 s o hf a w hA Q hQ) ?_
      rintro _ a w1 _ ⟨rfl, hb⟩
      obtain rfl := Option.some.inj h
      exact hb
  · rw [hq3] at h
    simp only [] at h
    refine we_keep (e' := [(0, .slice A0 l0.length c0), (2, .pointer (some ⟨b1, 0, none⟩))]) ⟨by kernel_rfl, by kernel_rfl, trivial⟩ (punctualref_CheckSet_p0 K w0 l0 A0 c0 hR0 hL0 b1 _ hq3 _ hS1 _ ?_)
    rintro _ a w1 ⟨_, rfl, hb⟩
    obtain rfl := Option.some.inj h
    exact hb

/-! punctual/punctualref.Lawful -/
abbrev punctualref_Lawful.Post (w0 : World) (r : SFault) (e : Ending) (w : World) : Prop := e = .returned (.agg #[.int .i64 r.Code, .int .i64 r.At]) ∧ St w0 w []
def punctualref_Lawful.p1 (l0 : List STask) (i1 : Nat) (e1 : SCome) : Option (Unit ⊕ SFault) :=
    if e1.Task < 0 then
      some (.inr (punctualref_F.f 4 (i1 : Int)))
    else
      if e1.Task ≥ (l0.length : Int) then
        some (.inr (punctualref_F.f 4 (i1 : Int)))
      else
        some (.inl ())
def punctualref_Lawful.p2 (i1 : Nat) (e1 : SCome) : Option (Unit ⊕ SFault) :=
    if e1.At < 0 then
      some (.inr (punctualref_F.f 3 (i1 : Int)))
    else
      if e1.At > 20000 then
        some (.inr (punctualref_F.f 3 (i1 : Int)))
      else
        some (.inl ())
def punctualref_Lawful.p3 (l1 : List SCome) (i1 : Nat) (e1 : SCome) : Option (Unit ⊕ SFault) :=
    if (i1 : Int) > 0 then
      if 0 ≤ (IntKind.i64.wrap ((i1 : Int) - 1)) then
        match l1[(IntKind.i64.wrap ((i1 : Int) - 1)).toNat]? with
        | none => none
        | some e2 =>
          if e2.At > e1.At then
            some (.inr (punctualref_F.f 12 (i1 : Int)))
          else
            some (.inl ())
      else
        none
    else
      some (.inl ())
def punctualref_Lawful.r4 (l0 : List STask) (l1 : List SCome) (i1 : Nat) (e1 : SCome) : Int → Option (Int ⊕ (Unit ⊕ SFault))
  | z1 =>
    if z1 ≥ 0 then
      if 0 ≤ z1 then
        match l1[(z1).toNat]? with
        | none => none
        | some e3 =>
          if e3.Task = e1.Task then
            if 0 ≤ e1.Task then
              match l0[(e1.Task).toNat]? with
              | none => none
              | some e4 =>
                if (IntKind.i64.wrap (e1.At - e3.At)) < e4.T then
                  some (.inr (.inr (punctualref_F.f 12 (i1 : Int))))
                else
                  some (.inr (.inl ()))
            else
              none
          else
            some (.inl (IntKind.i64.wrap (z1 - 1)))
      else
        none
    else
      some (.inr (.inl ()))
def punctualref_Lawful.r0 (K : Nat) (l0 : List STask) (l1 : List SCome) : Nat → Option (Nat ⊕ (Unit ⊕ SFault))
  | i1 =>
    if (i1 : Int) < (l1.length : Int) then
      match l1[i1]? with
      | none => none
      | some e1 =>
        match punctualref_Lawful.p1 l0 i1 e1 with
        | none => none
        | some (.inl _) =>
          match punctualref_Lawful.p2 i1 e1 with
          | none => none
          | some (.inl _) =>
            match punctualref_Lawful.p3 l1 i1 e1 with
            | none => none
            | some (.inl _) =>
              match iter (punctualref_Lawful.r4 l0 l1 i1 e1) K (IntKind.i64.wrap ((i1 : Int) - 1)) with
              | none => none
              | some (.inl _) =>
                some (.inl (i1 + 1))
              | some (.inr rr1) =>
                some (.inr (.inr rr1))
            | some (.inr rr2) =>
              some (.inr (.inr rr2))
          | some (.inr rr3) =>
            some (.inr (.inr rr3))
        | some (.inr rr4) =>
          some (.inr (.inr rr4))
    else
      some (.inr (.inl ()))
def punctualref_Lawful.f (K : Nat) (l0 : List STask) (l1 : List SCome) : Option SFault :=
  match punctualref_CheckSet.f K l0 with
  | none => none
  | some r1 =>
    if r1.Code = 0 then
      if (l1.length : Int) > 4000 then
        some (punctualref_F.f 2 0)
      else
        match iter (punctualref_Lawful.r0 K l0 l1) K 0 with
        | none => none
        | some (.inl _) =>
          some (⟨0, 0⟩ : SFault)
        | some (.inr rr5) =>
          some rr5
    else
      some r1
abbrev punctualref_Lawful.A1 (K : Nat) (w0 : World) (l0 : List STask) (A0 : Option Addr) (c0 : Nat) (l1 : List SCome) (A1 : Option Addr) (c1 : Nat) (hR0 : RdL w0 A0 l0) (hL0 : l0.length ≤ c0) (hR1 : RdL w0 A1 l1) (hL1 : l1.length ≤ c1) (b1 : Nat) (r1 : SFault) (b2 : Nat) (hc1 : r1.Code = 0) (hc2 : ¬ ((l1.length : Int) > 4000)) (i1 : Nat) (hc3 : (i1 : Int) < (l1.length : Int)) (e1 : SCome) (hx3 : l1[i1]? = some e1) (b3 : Nat) : Unit → Act → World → Prop := fun (s : Unit) a w => St w0 w [Own.blk b3 (.cells #[.int .i64 e1.Task, .int .i64 e1.At] 53 (0, 0)), Own.blk b1 (.cells #[.int .i64 0, .int .i64 0] 26 (0, 0))] ∧ Frm 96 a [(0, .slice A0 l0.length c0), (1, .slice A1 l1.length c1), (4, .pointer (some ⟨b1, 0, none⟩)), (6, .int .i64 (i1 : Int)), (7, .pointer (some ⟨b3, 0, none⟩)), (19, .slice A1 l1.length c1), (20, .int .i64 (l1.length : Int)), (21, .int .i64 (i1 : Int))]
abbrev punctualref_Lawful.B1 (K : Nat) (w0 : World) (l0 : List STask) (A0 : Option Addr) (c0 : Nat) (l1 : List SCome) (A1 : Option Addr) (c1 : Nat) (hR0 : RdL w0 A0 l0) (hL0 : l0.length ≤ c0) (hR1 : RdL w0 A1 l1) (hL1 : l1.length ≤ c1) (b1 : Nat) (r1 : SFault) (b2 : Nat) (hc1 : r1.Code = 0) (hc2 : ¬ ((l1.length : Int) > 4000)) (i1 : Nat) (hc3 : (i1 : Int) < (l1.length : Int)) (e1 : SCome) (hx3 : l1[i1]? = some e1) (b3 : Nat) : SFault → Exit → Act → World → Prop := Rets Tryd.prog Tryd.f49 (punctualref_Lawful.Post w0)
theorem punctualref_Lawful_p1 (K : Nat) (w0 : World) (l0 : List STask) (A0 : Option Addr) (c0 : Nat) (l1 : List SCome) (A1 : Option Addr) (c1 : Nat) (hR0 : RdL w0 A0 l0) (hL0 : l0.length ≤ c0) (hR1 : RdL w0 A1 l1) (hL1 : l1.length ≤ c1) (b1 : Nat) (r1 : SFault) (b2 : Nat) (hc1 : r1.Code = 0) (hc2 : ¬ ((l1.length : Int) > 4000)) (i1 : Nat) (hc3 : (i1 : Int) < (l1.length : Int)) (e1 : SCome) (hx3 : l1[i1]? = some e1) (b3 : Nat) (o : Unit ⊕ SFault) (h : punctualref_Lawful.p1 l0 i1 e1 = some o) (w : World) (hS : St w0 w [Own.blk b3 (.cells #[.int .i64 e1.Task, .int .i64 e1.At] 53 (0, 0)), Own.blk b1 (.cells #[.int .i64 0, .int .i64 0] 26 (0, 0))]) (Q : Exit → Act → World → Prop) (hQ : ∀ x a w, Outs (punctualref_Lawful.A1 K w0 l0 A0 c0 l1 A1 c1 hR0 hL0 hR1 hL1 b1 r1 b2 hc1 hc2 i1 hc3 e1 hx3 b3) (punctualref_Lawful.B1 K w0 l0 A0 c0 l1 A1 c1 hR0 hL0 hR1 hL1 b1 r1 b2 hc1 hc2 i1 hc3 e1 hx3 b3) o x a w → Q x a w) : WE Tryd.prog 96 (subF Tryd.f49 [1, 1, 1, 0, 1, 0, 0, 1, 1, 0, 0, 1, 0]) Q [(0, .slice A0 l0.length c0), (1, .slice A1 l1.length c1), (4, .pointer (some ⟨b1, 0, none⟩)), (6, .int .i64 (i1 : Int)), (7, .pointer (some ⟨b3, 0, none⟩)), (19, .slice A1 l1.length c1), (20, .int .i64 (l1.length : Int)), (21, .int .i64 (i1 : Int)), (22, .bool true), (23, .int .i64 (i1 : Int)), (24, .pointer (some ⟨blkOf A1, offOf A1 + i1 * 2, none⟩)), (25, .agg #[.int .i64 e1.Task, .int .i64 e1.At])] w := by
  simp only [punctualref_Lawful.p1] at h
  refine we_seq fun K15 hK15 => ?_
  refine we_region [(0, 0), (1, 0), (2, 0), (3, 0), (4, 0), (5, 0), (6, 0), (7, 0), (8, 0), (9, 0)] rfl ?_
  refine ge_batch [0, 1, 2, 3] (ans := [.val (.int .i64 e1.Task)]) (vs := [(29, .bool (decide (e1.Task < 0))), (28, .bool (decide (e1.Task < 0))), (27, .int .i64 e1.Task), (26, .pointer (some ⟨b3, 0, none⟩))]) (l := [.loaded ⟨b3, 0, none⟩ (.int .i64 e1.Task)]) (by kernel_rfl) ⟨hS.cell 0 rfl rfl, trivial⟩ ?_
  by_cases hc4 : e1.Task < 0
  · rw [if_pos hc4] at h
    refine ge_known (t := 29) (b := decide (e1.Task < 0)) (c := true) (by kernel_rfl) (decide_eq_true hc4) ?_
    refine ge_batch [4, 5, 6, 7, 8, 9] (ans := []) (vs := [(35, .bool true), (34, undef), (33, undef), (32, undef), (31, undef), (30, undef)]) (l := []) (by kernel_rfl) trivial ?_
    refine ge_nil fun a hF => hK15 _ _ ?_ a hF
    refine we_true (by kernel_rfl) ?_
    refine we_seq fun K16 hK16 => ?_
    refine we_region [(0, 0), (1, 1), (2, 2)] rfl ?_
    refine ge_batch [0] (ans := []) (vs := [(36, .int .i64 (i1 : Int))]) (l := []) (by kernel_rfl) trivial ?_
    refine ge_call (d := some 37) (f := 21) (args := #[.int .i64 4, .int .i64 (i1 : Int)]) (by kernel_rfl) (punctualref_F_ok 4 (i1 : Int) _ _ rfl) ?_
    rintro _ w9 ⟨rfl, hS18⟩
    refine ⟨_, rfl, hS18.below, ?_⟩
    have hS19 := hS.call hS18
    have hS20 := hS19.bring 1 rfl
    refine ge_set (b := b1) (j := 0) (cs := #[.int .i64 0, .int .i64 0]) (t := 26) (vs := [.int .i64 ((punctualref_F.f 4 (i1 : Int)).Code), .int .i64 ((punctualref_F.f 4 (i1 : Int)).At)]) hS20 (by kernel_rfl) rfl rfl fun w10 hS21 => ?_
    have hS22 : St w0 w10 [Own.blk b1 (.cells #[.int .i64 ((punctualref_F.f 4 (i1 : Int)).Code), .int .i64 ((punctualref_F.f 4 (i1 : Int)).At)] 26 (0, 0)), Own.blk b3 (.cells #[.int .i64 e1.Task, .int .i64 e1.At] 53 (0, 0))] := hS21
    refine ge_nil fun a hF => hK16 _ _ ?_ a hF
    have hS23 := hS22.takeN 0
    obtain rfl := Option.some.inj h
    exact we_ret fun a hF => hQ _ _ _ (Outs.out nofun ⟨rfl, (post_ret (rs := [.cell 4 26]) (ans := [.val (.int .i64 ((punctualref_F.f 4 (i1 : Int)).Code)), .val (.int .i64 ((punctualref_F.f 4 (i1 : Int)).At))]) (vs := [.agg #[.int .i64 ((punctualref_F.f 4 (i1 : Int)).Code), .int .i64 ((punctualref_F.f 4 (i1 : Int)).At)]]) (l := [.loaded ⟨b1, 0, none⟩ (.int .i64 ((punctualref_F.f 4 (i1 : Int)).Code)), .loaded ⟨b1, 1, none⟩ (.int .i64 ((punctualref_F.f 4 (i1 : Int)).At))]) rfl (by kernel_rfl) ⟨hS22.cell 0 rfl rfl, hS22.cell 0 rfl rfl, trivial⟩ ⟨rfl, hS23⟩) a hF⟩)
  · rw [if_neg hc4] at h
    refine ge_known (t := 29) (b := decide (e1.Task < 0)) (c := false) (by kernel_rfl) (decide_eq_false hc4) ?_
    refine ge_batch [4, 5, 6, 7, 8, 9] (ans := [.val (.int .i64 e1.Task)]) (vs := [(35, .bool (decide (e1.Task ≥ (l0.length : Int)))), (34, .bool (decide (e1.Task ≥ (l0.length : Int)))), (33, .int .i64 (l0.length : Int)), (32, .slice A0 l0.length c0), (31, .int .i64 e1.Task), (30, .pointer (some ⟨b3, 0, none⟩))]) (l := [.loaded ⟨b3, 0, none⟩ (.int .i64 e1.Task)]) (by kernel_rfl) ⟨hS.cell 0 rfl rfl, trivial⟩ ?_
    refine ge_nil fun a hF => hK15 _ _ ?_ a hF
    by_cases hc5 : e1.Task ≥ (l0.length : Int)
    · rw [if_pos hc5] at h
      refine we_known (t := 35) (b := decide (e1.Task ≥ (l0.length : Int))) (v := true) (by kernel_rfl) (decide_eq_true hc5) ?_
      refine we_true (by kernel_rfl) ?_
      refine we_seq fun K17 hK17 => ?_
      refine we_region [(0, 0), (1, 1), (2, 2)] rfl ?_
      refine ge_batch [0] (ans := []) (vs := [(36, .int .i64 (i1 : Int))]) (l := []) (by kernel_rfl) trivial ?_
      refine ge_call (d := some 37) (f := 21) (args := #[.int .i64 4, .int .i64 (i1 : Int)]) (by kernel_rfl) (punctualref_F_ok 4 (i1 : Int) _ _ rfl) ?_
      rintro _ w11 ⟨rfl, hS24⟩
      refine ⟨_, rfl, hS24.below, ?_⟩
      have hS25 := hS.call hS24
      have hS26 := hS25.bring 1 rfl
      refine ge_set (b := b1) (j := 0) (cs := #[.int .i64 0, .int .i64 0]) (t := 26) (vs := [.int .i64 ((punctualref_F.f 4 (i1 : Int)).Code), .int .i64 ((punctualref_F.f 4 (i1 : Int)).At)]) hS26 (by kernel_rfl) rfl rfl fun w12 hS27 => ?_
      have hS28 : St w0 w12 [Own.blk b1 (.cells #[.int .i64 ((punctualref_F.f 4 (i1 : Int)).Code), .int .i64 ((punctualref_F.f 4 (i1 : Int)).At)] 26 (0, 0)), Own.blk b3 (.cells #[.int .i64 e1.Task, .int .i64 e1.At] 53 (0, 0))] := hS27
      refine ge_nil fun a hF => hK17 _ _ ?_ a hF
      have hS29 := hS28.takeN 0
      obtain rfl := Option.some.inj h
      exact we_ret fun a hF => hQ _ _ _ (Outs.out nofun ⟨rfl, (post_ret (rs := [.cell 4 26]) (ans := [.val (.int .i64 ((punctualref_F.f 4 (i1 : Int)).Code)), .val (.int .i64 ((punctualref_F.f 4 (i1 : Int)).At))]) (vs := [.agg #[.int .i64 ((punctualref_F.f 4 (i1 : Int)).Code), .int .i64 ((punctualref_F.f 4 (i1 : Int)).At)]]) (l := [.loaded ⟨b1, 0, none⟩ (.int .i64 ((punctualref_F.f 4 (i1 : Int)).Code)), .loaded ⟨b1, 1, none⟩ (.int .i64 ((punctualref_F.f 4 (i1 : Int)).At))]) rfl (by kernel_rfl) ⟨hS28.cell 0 rfl rfl, hS28.cell 0 rfl rfl, trivial⟩ ⟨rfl, hS29⟩) a hF⟩)
    · rw [if_neg hc5] at h
      refine we_known (t := 35) (b := decide (e1.Task ≥ (l0.length : Int))) (v := false) (by kernel_rfl) (decide_eq_false hc5) ?_
      refine we_false (by kernel_rfl) ?_
      have hS30 := hS.bring 1 rfl
      have hS31 := hS30.bring 1 rfl
      obtain rfl := Option.some.inj h
      exact we_skip fun a hF => hQ _ _ _ (Outs.again ⟨hS31, hF.weaken ⟨by kernel_rfl, by kernel_rfl, by kernel_rfl, by kernel_rfl, by kernel_rfl, by kernel_rfl, by kernel_rfl, by kernel_rfl, trivial⟩⟩)
abbrev punctualref_Lawful.A2 (K : Nat) (w0 : World) (l0 : List STask) (A0 : Option Addr) (c0 : Nat) (l1 : List SCome) (A1 : Option Addr) (c1 : Nat) (hR0 : RdL w0 A0 l0) (hL0 : l0.length ≤ c0) (hR1 : RdL w0 A1 l1) (hL1 : l1.length ≤ c1) (b1 : Nat) (r1 : SFault) (b2 : Nat) (hc1 : r1.Code = 0) (hc2 : ¬ ((l1.length : Int) > 4000)) (i1 : Nat) (hc3 : (i1 : Int) < (l1.length : Int)) (e1 : SCome) (hx3 : l1[i1]? = some e1) (b3 : Nat) : Unit → Act → World → Prop := fun (s : Unit) a w => St w0 w [Own.blk b3 (.cells #[.int .i64 e1.Task, .int .i64 e1.At] 53 (0, 0)), Own.blk b1 (.cells #[.int .i64 0, .int .i64 0] 26 (0, 0))] ∧ Frm 96 a [(0, .slice A0 l0.length c0), (1, .slice A1 l1.length c1), (4, .pointer (some ⟨b1, 0, none⟩)), (6, .int .i64 (i1 : Int)), (7, .pointer (some ⟨b3, 0, none⟩)), (19, .slice A1 l1.length c1), (20, .int .i64 (l1.length : Int)), (21, .int .i64 (i1 : Int))]
abbrev punctualref_Lawful.B2 (K : Nat) (w0 : World) (l0 : List STask) (A0 : Option Addr) (c0 : Nat) (l1 : List SCome) (A1 : Option Addr) (c1 : Nat) (hR0 : RdL w0 A0 l0) (hL0 : l0.length ≤ c0) (hR1 : RdL w0 A1 l1) (hL1 : l1.length ≤ c1) (b1 : Nat) (r1 : SFault) (b2 : Nat) (hc1 : r1.Code = 0) (hc2 : ¬ ((l1.length : Int) > 4000)) (i1 : Nat) (hc3 : (i1 : Int) < (l1.length : Int)) (e1 : SCome) (hx3 : l1[i1]? = some e1) (b3 : Nat) : SFault → Exit → Act → World → Prop := Rets Tryd.prog Tryd.f49 (punctualref_Lawful.Post w0)
theorem punctualref_Lawful_p2 (K : Nat) (w0 : World) (l0 : List STask) (A0 : Option Addr) (c0 : Nat) (l1 : List SCome) (A1 : Option Addr) (c1 : Nat) (hR0 : RdL w0 A0 l0) (hL0 : l0.length ≤ c0) (hR1 : RdL w0 A1 l1) (hL1 : l1.length ≤ c1) (b1 : Nat) (r1 : SFault) (b2 : Nat) (hc1 : r1.Code = 0) (hc2 : ¬ ((l1.length : Int) > 4000)) (i1 : Nat) (hc3 : (i1 : Int) < (l1.length : Int)) (e1 : SCome) (hx3 : l1[i1]? = some e1) (b3 : Nat) (o : Unit ⊕ SFault) (h : punctualref_Lawful.p2 i1 e1 = some o) (w : World) (hS : St w0 w [Own.blk b3 (.cells #[.int .i64 e1.Task, .int .i64 e1.At] 53 (0, 0)), Own.blk b1 (.cells #[.int .i64 0, .int .i64 0] 26 (0, 0))]) (Q : Exit → Act → World → Prop) (hQ : ∀ x a w, Outs (punctualref_Lawful.A2 K w0 l0 A0 c0 l1 A1 c1 hR0 hL0 hR1 hL1 b1 r1 b2 hc1 hc2 i1 hc3 e1 hx3 b3) (punctualref_Lawful.B2 K w0 l0 A0 c0 l1 A1 c1 hR0 hL0 hR1 hL1 b1 r1 b2 hc1 hc2 i1 hc3 e1 hx3 b3) o x a w → Q x a w) : WE Tryd.prog 96 (subF Tryd.f49 [1, 1, 1, 0, 1, 0, 0, 1, 1, 0, 0, 1, 1, 0]) Q [(0, .slice A0 l0.length c0), (1, .slice A1 l1.length c1), (4, .pointer (some ⟨b1, 0, none⟩)), (6, .int .i64 (i1 : Int)), (7, .pointer (some ⟨b3, 0, none⟩)), (19, .slice A1 l1.length c1), (20, .int .i64 (l1.length : Int)), (21, .int .i64 (i1 : Int))] w := by
  simp only [punctualref_Lawful.p2] at h
  refine we_seq fun K19 hK19 => ?_
  refine we_region [(0, 0), (1, 0), (2, 0), (3, 0), (4, 0), (5, 0), (6, 0), (7, 0)] rfl ?_
  refine ge_batch [0, 1, 2, 3] (ans := [.val (.int .i64 e1.At)]) (vs := [(41, .bool (decide (e1.At < 0))), (40, .bool (decide (e1.At < 0))), (39, .int .i64 e1.At), (38, .pointer (some ⟨b3, 1, none⟩))]) (l := [.loaded ⟨b3, 1, none⟩ (.int .i64 e1.At)]) (by kernel_rfl) ⟨hS.cell 0 rfl rfl, trivial⟩ ?_
  by_cases hc6 : e1.At < 0
  · rw [if_pos hc6] at h
    refine ge_known (t := 41) (b := decide (e1.At < 0)) (c := true) (by kernel_rfl) (decide_eq_true hc6) ?_
    refine ge_batch [4, 5, 6, 7] (ans := []) (vs := [(45, .bool true), (44, undef), (43, undef), (42, undef)]) (l := []) (by kernel_rfl) trivial ?_
    refine ge_nil fun a hF => hK19 _ _ ?_ a hF
    refine we_true (by kernel_rfl) ?_
    refine we_seq fun K20 hK20 => ?_
    refine we_region [(0, 0), (1, 1), (2, 2)] rfl ?_
    refine ge_batch [0] (ans := []) (vs := [(46, .int .i64 (i1 : Int))]) (l := []) (by kernel_rfl) trivial ?_
    refine ge_call (d := some 47) (f := 21) (args := #[.int .i64 3, .int .i64 (i1 : Int)]) (by kernel_rfl) (punctualref_F_ok 3 (i1 : Int) _ _ rfl) ?_
    rintro _ w14 ⟨rfl, hS33⟩
    refine ⟨_, rfl, hS33.below, ?_⟩
    have hS34 := hS.call hS33
    have hS35 := hS34.bring 1 rfl
    refine ge_set (b := b1) (j := 0) (cs := #[.int .i64 0, .int .i64 0]) (t := 26) (vs := [.int .i64 ((punctualref_F.f 3 (i1 : Int)).Code), .int .i64 ((punctualref_F.f 3 (i1 : Int)).At)]) hS35 (by kernel_rfl) rfl rfl fun w15 hS36 => ?_
    have hS37 : St w0 w15 [Own.blk b1 (.cells #[.int .i64 ((punctualref_F.f 3 (i1 : Int)).Code), .int .i64 ((punctualref_F.f 3 (i1 : Int)).At)] 26 (0, 0)), Own.blk b3 (.cells #[.int .i64 e1.Task, .int .i64 e1.At] 53 (0, 0))] := hS36
    refine ge_nil fun a hF => hK20 _ _ ?_ a hF
    have hS38 := hS37.takeN 0
    obtain rfl := Option.some.inj h
    exact we_ret fun a hF => hQ _ _ _ (Outs.out nofun ⟨rfl, (post_ret (rs := [.cell 4 26]) (ans := [.val (.int .i64 ((punctualref_F.f 3 (i1 : Int)).Code)), .val (.int .i64 ((punctualref_F.f 3 (i1 : Int)).At))]) (vs := [.agg #[.int .i64 ((punctualref_F.f 3 (i1 : Int)).Code), .int .i64 ((punctualref_F.f 3 (i1 : Int)).At)]]) (l := [.loaded ⟨b1, 0, none⟩ (.int .i64 ((punctualref_F.f 3 (i1 : Int)).Code)), .loaded ⟨b1, 1, none⟩ (.int .i64 ((punctualref_F.f 3 (i1 : Int)).At))]) rfl (by kernel_rfl) ⟨hS37.cell 0 rfl rfl, hS37.cell 0 rfl rfl, trivial⟩ ⟨rfl, hS38⟩) a hF⟩)
  · rw [if_neg hc6] at h
    refine ge_known (t := 41) (b := decide (e1.At < 0)) (c := false) (by kernel_rfl) (decide_eq_false hc6) ?_
    refine ge_batch [4, 5, 6, 7] (ans := [.val (.int .i64 e1.At)]) (vs := [(45, .bool (decide (e1.At > 20000))), (44, .bool (decide (e1.At > 20000))), (43, .int .i64 e1.At), (42, .pointer (some ⟨b3, 1, none⟩))]) (l := [.loaded ⟨b3, 1, none⟩ (.int .i64 e1.At)]) (by kernel_rfl) ⟨hS.cell 0 rfl rfl, trivial⟩ ?_
    refine ge_nil fun a hF => hK19 _ _ ?_ a hF
    by_cases hc7 : e1.At > 20000
    · rw [if_pos hc7] at h
      refine we_known (t := 45) (b := decide (e1.At > 20000)) (v := true) (by kernel_rfl) (decide_eq_true hc7) ?_
      refine we_true (by kernel_rfl) ?_
      refine we_seq fun K21 hK21 => ?_
      refine we_region [(0, 0), (1, 1), (2, 2)] rfl ?_
      refine ge_batch [0] (ans := []) (vs := [(46, .int .i64 (i1 : Int))]) (l := []) (by kernel_rfl) trivial ?_
      refine ge_call (d := some 47) (f := 21) (args := #[.int .i64 3, .int .i64 (i1 : Int)]) (by kernel_rfl) (punctualref_F_ok 3 (i1 : Int) _ _ rfl) ?_
      rintro _ w16 ⟨rfl, hS39⟩
      refine ⟨_, rfl, hS39.below, ?_⟩
      have hS40 := hS.call hS39
      have hS41 := hS40.bring 1 rfl
      refine ge_set (b := b1) (j := 0) (cs := #[.int .i64 0, .int .i64 0]) (t := 26) (vs := [.int .i64 ((punctualref_F.f 3 (i1 : Int)).Code), .int .i64 ((punctualref_F.f 3 (i1 : Int)).At)]) hS41 (by kernel_rfl) rfl rfl fun w17 hS42 => ?_
      have hS43 : St w0 w17 [Own.blk b1 (.cells #[.int .i64 ((punctualref_F.f 3 (i1 : Int)).Code), .int .i64 ((punctualref_F.f 3 (i1 : Int)).At)] 26 (0, 0)), Own.blk b3 (.cells #[.int .i64 e1.Task, .int .i64 e1.At] 53 (0, 0))] := hS42
      refine ge_nil fun a hF => hK21 _ _ ?_ a hF
      have hS44 := hS43.takeN 0
      obtain rfl := Option.some.inj h
      exact we_ret fun a hF => hQ _ _ _ (Outs.out nofun ⟨rfl, (post_ret (rs := [.cell 4 26]) (ans := [.val (.int .i64 ((punctualref_F.f 3 (i1 : Int)).Code)), .val (.int .i64 ((punctualref_F.f 3 (i1 : Int)).At))]) (vs := [.agg #[.int .i64 ((punctualref_F.f 3 (i1 : Int)).Code), .int .i64 ((punctualref_F.f 3 (i1 : Int)).At)]]) (l := [.loaded ⟨b1, 0, none⟩ (.int .i64 ((punctualref_F.f 3 (i1 : Int)).Code)), .loaded ⟨b1, 1, none⟩ (.int .i64 ((punctualref_F.f 3 (i1 : Int)).At))]) rfl (by kernel_rfl) ⟨hS43.cell 0 rfl rfl, hS43.cell 0 rfl rfl, trivial⟩ ⟨rfl, hS44⟩) a hF⟩)
    · rw [if_neg hc7] at h
      refine we_known (t := 45) (b := decide (e1.At > 20000)) (v := false) (by kernel_rfl) (decide_eq_false hc7) ?_
      refine we_false (by kernel_rfl) ?_
      have hS45 := hS.bring 1 rfl
      have hS46 := hS45.bring 1 rfl
      obtain rfl := Option.some.inj h
      exact we_skip fun a hF => hQ _ _ _ (Outs.again ⟨hS46, hF.weaken ⟨by kernel_rfl, by kernel_rfl, by kernel_rfl, by kernel_rfl, by kernel_rfl, by kernel_rfl, by kernel_rfl, by kernel_rfl, trivial⟩⟩)
abbrev punctualref_Lawful.A3 (K : Nat) (w0 : World) (l0 : List STask) (A0 : Option Addr) (c0 : Nat) (l1 : List SCome) (A1 : Option Addr) (c1 : Nat) (hR0 : RdL w0 A0 l0) (hL0 : l0.length ≤ c0) (hR1 : RdL w0 A1 l1) (hL1 : l1.length ≤ c1) (b1 : Nat) (r1 : SFault) (b2 : Nat) (hc1 : r1.Code = 0) (hc2 : ¬ ((l1.length : Int) > 4000)) (i1 : Nat) (hc3 : (i1 : Int) < (l1.length : Int)) (e1 : SCome) (hx3 : l1[i1]? = some e1) (b3 : Nat) : Unit → Act → World → Prop := fun (s : Unit) a w => St w0 w [Own.blk b3 (.cells #[.int .i64 e1.Task, .int .i64 e1.At] 53 (0, 0)), Own.blk b1 (.cells #[.int .i64 0, .int .i64 0] 26 (0, 0))] ∧ Frm 96 a [(0, .slice A0 l0.length c0), (1, .slice A1 l1.length c1), (4, .pointer (some ⟨b1, 0, none⟩)), (6, .int .i64 (i1 : Int)), (7, .pointer (some ⟨b3, 0, none⟩)), (19, .slice A1 l1.length c1), (20, .int .i64 (l1.length : Int)), (21, .int .i64 (i1 : Int))]
abbrev punctualref_Lawful.B3 (K : Nat) (w0 : World) (l0 : List STask) (A0 : Option Addr) (c0 : Nat) (l1 : List SCome) (A1 : Option Addr) (c1 : Nat) (hR0 : RdL w0 A0 l0) (hL0 : l0.length ≤ c0) (hR1 : RdL w0 A1 l1) (hL1 : l1.length ≤ c1) (b1 : Nat) (r1 : SFault) (b2 : Nat) (hc1 : r1.Code = 0) (hc2 : ¬ ((l1.length : Int) > 4000)) (i1 : Nat) (hc3 : (i1 : Int) < (l1.length : Int)) (e1 : SCome) (hx3 : l1[i1]? = some e1) (b3 : Nat) : SFault → Exit → Act → World → Prop := Rets Tryd.prog Tryd.f49 (punctualref_Lawful.Post w0)
theorem punctualref_Lawful_p3 (K : Nat) (w0 : World) (l0 : List STask) (A0 : Option Addr) (c0 : Nat) (l1 : List SCome) (A1 : Option Addr) (c1 : Nat) (hR0 : RdL w0 A0 l0) (hL0 : l0.length ≤ c0) (hR1 : RdL w0 A1 l1) (hL1 : l1.length ≤ c1) (b1 : Nat) (r1 : SFault) (b2 : Nat) (hc1 : r1.Code = 0) (hc2 : ¬ ((l1.length : Int) > 4000)) (i1 : Nat) (hc3 : (i1 : Int) < (l1.length : Int)) (e1 : SCome) (hx3 : l1[i1]? = some e1) (b3 : Nat) (o : Unit ⊕ SFault) (h : punctualref_Lawful.p3 l1 i1 e1 = some o) (w : World) (hS : St w0 w [Own.blk b3 (.cells #[.int .i64 e1.Task, .int .i64 e1.At] 53 (0, 0)), Own.blk b1 (.cells #[.int .i64 0, .int .i64 0] 26 (0, 0))]) (Q : Exit → Act → World → Prop) (hQ : ∀ x a w, Outs (punctualref_Lawful.A3 K w0 l0 A0 c0 l1 A1 c1 hR0 hL0 hR1 hL1 b1 r1 b2 hc1 hc2 i1 hc3 e1 hx3 b3) (punctualref_Lawful.B3 K w0 l0 A0 c0 l1 A1 c1 hR0 hL0 hR1 hL1 b1 r1 b2 hc1 hc2 i1 hc3 e1 hx3 b3) o x a w → Q x a w) : WE Tryd.prog 96 (subF Tryd.f49 [1, 1, 1, 0, 1, 0, 0, 1, 1, 0, 0, 1, 1, 1, 0]) Q [(0, .slice A0 l0.length c0), (1, .slice A1 l1.length c1), (4, .pointer (some ⟨b1, 0, none⟩)), (6, .int .i64 (i1 : Int)), (7, .pointer (some ⟨b3, 0, none⟩)), (19, .slice A1 l1.length c1), (20, .int .i64 (l1.length : Int)), (21, .int .i64 (i1 : Int))] w := by
  simp only [punctualref_Lawful.p3] at h
  refine we_seq fun K23 hK23 => ?_
  refine we_draws (by kernel_rfl) [(0, 0), (1, 0), (2, 0), (3, 0), (4, 0), (5, 0), (6, 0), (7, 0), (8, 0), (9, 0), (10, 0), (11, 0), (12, 0)] (by kernel_rfl) ?_
  have hS48 := hS.drew
  refine ge_batch [0, 1, 2] (ans := []) (vs := [(50, .bool (decide ((i1 : Int) > 0))), (49, .bool (decide ((i1 : Int) > 0))), (48, .int .i64 (i1 : Int))]) (l := []) (by kernel_rfl) trivial ?_
  by_cases hc8 : (i1 : Int) > 0
  · rw [if_pos hc8] at h
    refine ge_known (t := 50) (b := decide ((i1 : Int) > 0)) (c := true) (by kernel_rfl) (decide_eq_true hc8) ?_
    refine ge_batch [3, 4, 5] (ans := []) (vs := [(53, .int .i64 (IntKind.i64.wrap ((i1 : Int) - 1))), (52, .int .i64 (i1 : Int)), (51, .slice A1 l1.length c1)]) (l := []) (by kernel_rfl) trivial ?_
    by_cases hc9 : 0 ≤ (IntKind.i64.wrap ((i1 : Int) - 1))
    · rw [if_pos hc9] at h
      rcases hx5 : l1[(IntKind.i64.wrap ((i1 : Int) - 1)).toNat]? with _ | e2
      · rw [hx5] at h; cases h
      rw [hx5] at h
      simp only [] at h
      refine ge_index (d := 54) (ty := 0) (t := 49) (el := 53) (sz := 2) (m := l1.length) (c := c1) (x := (.tmp 51)) (y := (.tmp 53)) (A := A1) (k' := .i64) (j := (IntKind.i64.wrap ((i1 : Int) - 1))) (jn := ((IntKind.i64.wrap ((i1 : Int) - 1)).toNat)) (b0 := blkOf A1) (o0 := offOf A1) (by kernel_rfl) (by kernel_rfl) (by kernel_rfl) (by kernel_rfl) (by kernel_rfl) ((hS48.rd hR1).eqSome (pos_of_get hx5)) (Int.toNat_of_nonneg hc9).symm (lt_of_get hx5) ?_
      refine ge_batch [7, 8, 9, 10, 11, 12] (ans := [.val (.int .i64 e2.At), .val (.int .i64 e1.At)]) (vs := [(60, .bool (decide (e2.At > e1.At))), (59, .bool (decide (e2.At > e1.At))), (58, .int .i64 e1.At), (57, .pointer (some ⟨b3, 1, none⟩)), (56, .int .i64 e2.At), (55, .pointer (some ⟨blkOf A1, offOf A1 + (IntKind.i64.wrap ((i1 : Int) - 1)).toNat * 2 + 1, none⟩))]) (l := [.loaded ⟨blkOf A1, offOf A1 + ((IntKind.i64.wrap ((i1 : Int) - 1)).toNat) * 2 + 1, none⟩ (.int .i64 e2.At), .loaded ⟨b3, 1, none⟩ (.int .i64 e1.At)]) (by kernel_rfl) ⟨RdL.cell (j := 1) (hS48.rd hR1) hx5 rfl, hS48.cell 0 rfl rfl, trivial⟩ ?_
      refine ge_nil fun a hF => hK23 _ _ ?_ a hF
      by_cases hc10 : e2.At > e1.At
      · rw [if_pos hc10] at h
        refine we_known (t := 60) (b := decide (e2.At > e1.At)) (v := true) (by kernel_rfl) (decide_eq_true hc10) ?_
        refine we_true (by kernel_rfl) ?_
        refine we_seq fun K24 hK24 => ?_
        refine we_region [(0, 0), (1, 1), (2, 2)] rfl ?_
        refine ge_batch [0] (ans := []) (vs := [(61, .int .i64 (i1 : Int))]) (l := []) (by kernel_rfl) trivial ?_
        refine ge_call (d := some 62) (f := 21) (args := #[.int .i64 12, .int .i64 (i1 : Int)]) (by kernel_rfl) (punctualref_F_ok 12 (i1 : Int) _ _ rfl) ?_
        rintro _ w19 ⟨rfl, hS49⟩
        refine ⟨_, rfl, hS49.below, ?_⟩
        have hS50 := hS48.call hS49
        have hS51 := hS50.bring 1 rfl
        refine ge_set (b := b1) (j := 0) (cs := #[.int .i64 0, .int .i64 0]) (t := 26) (vs := [.int .i64 ((punctualref_F.f 12 (i1 : Int)).Code), .int .i64 ((punctualref_F.f 12 (i1 : Int)).At)]) hS51 (by kernel_rfl) rfl rfl fun w20 hS52 => ?_
        have hS53 : St w0 w20 [Own.blk b1 (.cells #[.int .i64 ((punctualref_F.f 12 (i1 : Int)).Code), .int .i64 ((punctualref_F.f 12 (i1 : Int)).At)] 26 (0, 0)), Own.blk b3 (.cells #[.int .i64 e1.Task, .int .i64 e1.At] 53 (0, 0))] := hS52
        refine ge_nil fun a hF => hK24 _ _ ?_ a hF
        have hS54 := hS53.takeN 0
        obtain rfl := Option.some.inj h
        exact we_ret fun a hF => hQ _ _ _ (Outs.out nofun ⟨rfl, (post_ret (rs := [.cell 4 26]) (ans := [.val (.int .i64 ((punctualref_F.f 12 (i1 : Int)).Code)), .val (.int .i64 ((punctualref_F.f 12 (i1 : Int)).At))]) (vs := [.agg #[.int .i64 ((punctualref_F.f 12 (i1 : Int)).Code), .int .i64 ((punctualref_F.f 12 (i1 : Int)).At)]]) (l := [.loaded ⟨b1, 0, none⟩ (.int .i64 ((punctualref_F.f 12 (i1 : Int)).Code)), .loaded ⟨b1, 1, none⟩ (.int .i64 ((punctualref_F.f 12 (i1 : Int)).At))]) rfl (by kernel_rfl) ⟨hS53.cell 0 rfl rfl, hS53.cell 0 rfl rfl, trivial⟩ ⟨rfl, hS54⟩) a hF⟩)
      · rw [if_neg hc10] at h
        refine we_known (t := 60) (b := decide (e2.At > e1.At)) (v := false) (by kernel_rfl) (decide_eq_false hc10) ?_
        refine we_false (by kernel_rfl) ?_
        have hS55 := hS48.bring 1 rfl
        have hS56 := hS55.bring 1 rfl
        obtain rfl := Option.some.inj h
        exact we_skip fun a hF => hQ _ _ _ (Outs.again ⟨hS56, hF.weaken ⟨by kernel_rfl, by kernel_rfl, by kernel_rfl, by kernel_rfl, by kernel_rfl, by kernel_rfl, by kernel_rfl, by kernel_rfl, trivial⟩⟩)
    · rw [if_neg hc9] at h
      cases h
  · rw [if_neg hc8] at h
    refine ge_known (t := 50) (b := decide ((i1 : Int) > 0)) (c := false) (by kernel_rfl) (decide_eq_false hc8) ?_
    refine ge_batch [3, 4, 5, 6, 7, 8, 9, 10, 11, 12] (ans := []) (vs := [(60, .bool false), (59, undef), (58, undef), (57, undef), (56, undef), (55, undef), (54, undef), (53, undef), (52, undef), (51, undef)]) (l := []) (by kernel_rfl) trivial ?_
    refine ge_nil fun a hF => hK23 _ _ ?_ a hF
    refine we_false (by kernel_rfl) ?_
    have hS57 := hS48.bring 1 rfl
    have hS58 := hS57.bring 1 rfl
    obtain rfl := Option.some.inj h
    exact we_skip fun a hF => hQ _ _ _ (Outs.again ⟨hS58, hF.weaken ⟨by kernel_rfl, by kernel_rfl, by kernel_rfl, by kernel_rfl, by kernel_rfl, by kernel_rfl, by kernel_rfl, by kernel_rfl, trivial⟩⟩)
abbrev punctualref_Lawful.A4 (K : Nat) (w0 : World) (l0 : List STask) (A0 : Option Addr) (c0 : Nat) (l1 : List SCome) (A1 : Option Addr) (c1 : Nat) (hR0 : RdL w0 A0 l0) (hL0 : l0.length ≤ c0) (hR1 : RdL w0 A1 l1) (hL1 : l1.length ≤ c1) (b1 : Nat) (r1 : SFault) (b2 : Nat) (hc1 : r1.Code = 0) (hc2 : ¬ ((l1.length : Int) > 4000)) (i1 : Nat) (hc3 : (i1 : Int) < (l1.length : Int)) (e1 : SCome) (hx3 : l1[i1]? = some e1) (b3 : Nat) : Int → Act → World → Prop := fun (s : Int) a w => St w0 w [Own.blk b3 (.cells #[.int .i64 e1.Task, .int .i64 e1.At] 53 (0, 0)), Own.blk b1 (.cells #[.int .i64 0, .int .i64 0] 26 (0, 0))] ∧ Frm 96 a [(0, .slice A0 l0.length c0), (1, .slice A1 l1.length c1), (4, .pointer (some ⟨b1, 0, none⟩)), (6, .int .i64 (i1 : Int)), (7, .pointer (some ⟨b3, 0, none⟩)), (8, .int .i64 s), (19, .slice A1 l1.length c1), (20, .int .i64 (l1.length : Int)), (21, .int .i64 (i1 : Int))]
abbrev punctualref_Lawful.B4 (K : Nat) (w0 : World) (l0 : List STask) (A0 : Option Addr) (c0 : Nat) (l1 : List SCome) (A1 : Option Addr) (c1 : Nat) (hR0 : RdL w0 A0 l0) (hL0 : l0.length ≤ c0) (hR1 : RdL w0 A1 l1) (hL1 : l1.length ≤ c1) (b1 : Nat) (r1 : SFault) (b2 : Nat) (hc1 : r1.Code = 0) (hc2 : ¬ ((l1.length : Int) > 4000)) (i1 : Nat) (hc3 : (i1 : Int) < (l1.length : Int)) (e1 : SCome) (hx3 : l1[i1]? = some e1) (b3 : Nat) : (Unit ⊕ SFault) → Exit → Act → World → Prop := Exits 2 (fun (s : Unit) a w => St w0 w [Own.blk b1 (.cells #[.int .i64 0, .int .i64 0] 26 (0, 0))] ∧ Frm 96 a [(0, .slice A0 l0.length c0), (1, .slice A1 l1.length c1), (4, .pointer (some ⟨b1, 0, none⟩)), (19, .slice A1 l1.length c1), (20, .int .i64 (l1.length : Int)), (21, .int .i64 (i1 : Int))]) (Rets Tryd.prog Tryd.f49 (punctualref_Lawful.Post w0))
theorem punctualref_Lawful_r4 (K : Nat) (w0 : World) (l0 : List STask) (A0 : Option Addr) (c0 : Nat) (l1 : List SCome) (A1 : Option Addr) (c1 : Nat) (hR0 : RdL w0 A0 l0) (hL0 : l0.length ≤ c0) (hR1 : RdL w0 A1 l1) (hL1 : l1.length ≤ c1) (b1 : Nat) (r1 : SFault) (b2 : Nat) (hc1 : r1.Code = 0) (hc2 : ¬ ((l1.length : Int) > 4000)) (i1 : Nat) (hc3 : (i1 : Int) < (l1.length : Int)) (e1 : SCome) (hx3 : l1[i1]? = some e1) (b3 : Nat) (s : Int) (o : Int ⊕ (Unit ⊕ SFault)) (h : punctualref_Lawful.r4 l0 l1 i1 e1 s = some o) (a : Act) (w : World) (hA : punctualref_Lawful.A4 K w0 l0 A0 c0 l1 A1 c1 hR0 hL0 hR1 hL1 b1 r1 b2 hc1 hc2 i1 hc3 e1 hx3 b3 s a w) (Q : Exit → Act → World → Prop) (hQ : ∀ x a w, Outs (punctualref_Lawful.A4 K w0 l0 A0 c0 l1 A1 c1 hR0 hL0 hR1 hL1 b1 r1 b2 hc1 hc2 i1 hc3 e1 hx3 b3) (punctualref_Lawful.B4 K w0 l0 A0 c0 l1 A1 c1 hR0 hL0 hR1 hL1 b1 r1 b2 hc1 hc2 i1 hc3 e1 hx3 b3) o x a w → Q x a w) : (subF Tryd.f49 [1, 1, 1, 0, 1, 0, 0, 1, 1, 0, 0, 1, 1, 1, 1, 1, 0, 0]).wp Tryd.prog Q a w := by
  obtain ⟨z1, hs⟩ : ∃ z, z = s := ⟨s, rfl⟩
  subst hs
  obtain ⟨hS, hF⟩ := hA
  replace hS : St w0 w [Own.blk b3 (.cells #[.int .i64 e1.Task, .int .i64 e1.At] 53 (0, 0)), Own.blk b1 (.cells #[.int .i64 0, .int .i64 0] 26 (0, 0))] := hS
  simp only [punctualref_Lawful.r4] at h
  refine (?_ : WE Tryd.prog 96 (subF Tryd.f49 [1, 1, 1, 0, 1, 0, 0, 1, 1, 0, 0, 1, 1, 1, 1, 1, 0, 0]) Q [(0, .slice A0 l0.length c0), (1, .slice A1 l1.length c1), (4, .pointer (some ⟨b1, 0, none⟩)), (6, .int .i64 (i1 : Int)), (7, .pointer (some ⟨b3, 0, none⟩)), (8, .int .i64 z1), (19, .slice A1 l1.length c1), (20, .int .i64 (l1.length : Int)), (21, .int .i64 (i1 : Int))] w) a hF
  clear hF a
  refine we_seq fun K26 hK26 => ?_
  refine we_seq fun K27 hK27 => ?_
  refine we_region [(0, 0), (1, 0)] rfl ?_
  refine ge_batch [0, 1] (ans := []) (vs := [(66, .bool (decide (z1 ≥ 0))), (65, .int .i64 z1)]) (l := []) (by kernel_rfl) trivial ?_
  refine ge_nil fun a hF => hK27 _ _ ?_ a hF
  by_cases hc11 : z1 ≥ 0
  · rw [if_pos hc11] at h
    refine we_known (t := 66) (b := decide (z1 ≥ 0)) (v := true) (by kernel_rfl) (decide_eq_true hc11) ?_
    refine we_true (by kernel_rfl) ?_
    refine we_skip fun a hF => hK26 _ _ ?_ a hF
    refine we_seq fun K28 hK28 => ?_
    refine we_block ?_
    refine we_seq fun K29 hK29 => ?_
    refine we_draws (by kernel_rfl) [(0, 0), (1, 0), (2, 0), (3, 0), (4, 0), (5, 0), (6, 0), (7, 0)] (by kernel_rfl) ?_
    have hS62 := hS.drew
    refine ge_batch [0, 1] (ans := []) (vs := [(70, .int .i64 z1), (69, .slice A1 l1.length c1)]) (l := []) (by kernel_rfl) trivial ?_
    by_cases hc12 : 0 ≤ z1
    · rw [if_pos hc12] at h
      rcases hx6 : l1[(z1).toNat]? with _ | e3
      · rw [hx6] at h; cases h
      rw [hx6] at h
      simp only [] at h
      refine ge_index (d := 71) (ty := 0) (t := 49) (el := 53) (sz := 2) (m := l1.length) (c := c1) (x := (.tmp 69)) (y := (.tmp 70)) (A := A1) (k' := .i64) (j := z1) (jn := ((z1).toNat)) (b0 := blkOf A1) (o0 := offOf A1) (by kernel_rfl) (by kernel_rfl) (by kernel_rfl) (by kernel_rfl) (by kernel_rfl) ((hS62.rd hR1).eqSome (pos_of_get hx6)) (Int.toNat_of_nonneg hc12).symm (lt_of_get hx6) ?_
      refine ge_batch [3, 4, 5, 6, 7] (ans := [.val (.int .i64 e3.Task), .val (.int .i64 e1.Task)]) (vs := [(76, .bool (e3.Task == e1.Task)), (75, .int .i64 e1.Task), (74, .pointer (some ⟨b3, 0, none⟩)), (73, .int .i64 e3.Task), (72, .pointer (some ⟨blkOf A1, offOf A1 + (z1).toNat * 2, none⟩))]) (l := [.loaded ⟨blkOf A1, offOf A1 + ((z1).toNat) * 2, none⟩ (.int .i64 e3.Task), .loaded ⟨b3, 0, none⟩ (.int .i64 e1.Task)]) (by kernel_rfl) ⟨RdL.cell (j := 0) (hS62.rd hR1) hx6 rfl, hS62.cell 0 rfl rfl, trivial⟩ ?_
      refine ge_nil fun a hF => hK29 _ _ ?_ a hF
      by_cases hc13 : e3.Task = e1.Task
      · rw [if_pos hc13] at h
        refine we_known (t := 76) (b := (e3.Task == e1.Task)) (v := true) (by kernel_rfl) (beq_iff_eq.2 hc13) ?_
        refine we_true (by kernel_rfl) ?_
        refine we_seq fun K30 hK30 => ?_
        refine we_seq fun K31 hK31 => ?_
        refine we_draws (by kernel_rfl) [(0, 0), (1, 0), (2, 0), (3, 0), (4, 0), (5, 0), (6, 0), (7, 0), (8, 0), (9, 0), (10, 0), (11, 0), (12, 0), (13, 0), (14, 0)] (by kernel_rfl) ?_
        have hS63 := hS62.drew
        refine ge_batch [0, 1, 2, 3] (ans := [.val (.int .i64 e1.At)]) (vs := [(80, .int .i64 z1), (79, .slice A1 l1.length c1), (78, .int .i64 e1.At), (77, .pointer (some ⟨b3, 1, none⟩))]) (l := [.loaded ⟨b3, 1, none⟩ (.int .i64 e1.At)]) (by kernel_rfl) ⟨hS63.cell 0 rfl rfl, trivial⟩ ?_
        refine ge_index (d := 81) (ty := 0) (t := 49) (el := 53) (sz := 2) (m := l1.length) (c := c1) (x := (.tmp 79)) (y := (.tmp 80)) (A := A1) (k' := .i64) (j := z1) (jn := ((z1).toNat)) (b0 := blkOf A1) (o0 := offOf A1) (by kernel_rfl) (by kernel_rfl) (by kernel_rfl) (by kernel_rfl) (by kernel_rfl) ((hS63.rd hR1).eqSome (pos_of_get hx6)) (Int.toNat_of_nonneg hc12).symm (lt_of_get hx6) ?_
        refine ge_batch [5, 6, 7, 8, 9, 10] (ans := [.val (.int .i64 e3.At), .val (.int .i64 e1.Task)]) (vs := [(87, .int .i64 e1.Task), (86, .pointer (some ⟨b3, 0, none⟩)), (85, .slice A0 l0.length c0), (84, .int .i64 (IntKind.i64.wrap (e1.At - e3.At))), (83, .int .i64 e3.At), (82, .pointer (some ⟨blkOf A1, offOf A1 + (z1).toNat * 2 + 1, none⟩))]) (l := [.loaded ⟨blkOf A1, offOf A1 + ((z1).toNat) * 2 + 1, none⟩ (.int .i64 e3.At), .loaded ⟨b3, 0, none⟩ (.int .i64 e1.Task)]) (by kernel_rfl) ⟨RdL.cell (j := 1) (hS63.rd hR1) hx6 rfl, hS63.cell 0 rfl rfl, trivial⟩ ?_
        by_cases hc14 : 0 ≤ e1.Task
        · rw [if_pos hc14] at h
          rcases hx7 : l0[(e1.Task).toNat]? with _ | e4
          · rw [hx7] at h; cases h
          rw [hx7] at h
          simp only [] at h
          refine ge_index (d := 88) (ty := 0) (t := 40) (el := 46) (sz := 7) (m := l0.length) (c := c0) (x := (.tmp 85)) (y := (.tmp 87)) (A := A0) (k' := .i64) (j := e1.Task) (jn := ((e1.Task).toNat)) (b0 := blkOf A0) (o0 := offOf A0) (by kernel_rfl) (by kernel_rfl) (by kernel_rfl) (by kernel_rfl) (by kernel_rfl) ((hS63.rd hR0).eqSome (pos_of_get hx7)) (Int.toNat_of_nonneg hc14).symm (lt_of_get hx7) ?_
          refine ge_batch [12, 13, 14] (ans := [.val (.int .i64 e4.T)]) (vs := [(91, .bool (decide ((IntKind.i64.wrap (e1.At - e3.At)) < e4.T))), (90, .int .i64 e4.T), (89, .pointer (some ⟨blkOf A0, offOf A0 + (e1.Task).toNat * 7 + 2, none⟩))]) (l := [.loaded ⟨blkOf A0, offOf A0 + ((e1.Task).toNat) * 7 + 2, none⟩ (.int .i64 e4.T)]) (by kernel_rfl) ⟨RdL.cell (j := 2) (hS63.rd hR0) hx7 rfl, trivial⟩ ?_
          refine ge_nil fun a hF => hK31 _ _ ?_ a hF
          by_cases hc15 : (IntKind.i64.wrap (e1.At - e3.At)) < e4.T
          · rw [if_pos hc15] at h
            refine we_known (t := 91) (b := decide ((IntKind.i64.wrap (e1.At - e3.At)) < e4.T)) (v := true) (by kernel_rfl) (decide_eq_true hc15) ?_
            refine we_true (by kernel_rfl) ?_
            refine we_seq fun K32 hK32 => ?_
            refine we_region [(0, 0), (1, 1), (2, 2)] rfl ?_
            refine ge_batch [0] (ans := []) (vs := [(92, .int .i64 (i1 : Int))]) (l := []) (by kernel_rfl) trivial ?_
            refine ge_call (d := some 93) (f := 21) (args := #[.int .i64 12, .int .i64 (i1 : Int)]) (by kernel_rfl) (punctualref_F_ok 12 (i1 : Int) _ _ rfl) ?_
            rintro _ w22 ⟨rfl, hS64⟩
            refine ⟨_, rfl, hS64.below, ?_⟩
            have hS65 := hS63.call hS64
            have hS66 := hS65.bring 1 rfl
            refine ge_set (b := b1) (j := 0) (cs := #[.int .i64 0, .int .i64 0]) (t := 26) (vs := [.int .i64 ((punctualref_F.f 12 (i1 : Int)).Code), .int .i64 ((punctualref_F.f 12 (i1 : Int)).At)]) hS66 (by kernel_rfl) rfl rfl fun w23 hS67 => ?_
            have hS68 : St w0 w23 [Own.blk b1 (.cells #[.int .i64 ((punctualref_F.f 12 (i1 : Int)).Code), .int .i64 ((punctualref_F.f 12 (i1 : Int)).At)] 26 (0, 0)), Own.blk b3 (.cells #[.int .i64 e1.Task, .int .i64 e1.At] 53 (0, 0))] := hS67
            refine ge_nil fun a hF => hK32 _ _ ?_ a hF
            have hS69 := hS68.takeN 0
            obtain rfl := Option.some.inj h
            exact we_ret fun a hF => hQ _ _ _ (Outs.out nofun (Exits.on ⟨rfl, (post_ret (rs := [.cell 4 26]) (ans := [.val (.int .i64 ((punctualref_F.f 12 (i1 : Int)).Code)), .val (.int .i64 ((punctualref_F.f 12 (i1 : Int)).At))]) (vs := [.agg #[.int .i64 ((punctualref_F.f 12 (i1 : Int)).Code), .int .i64 ((punctualref_F.f 12 (i1 : Int)).At)]]) (l := [.loaded ⟨b1, 0, none⟩ (.int .i64 ((punctualref_F.f 12 (i1 : Int)).Code)), .loaded ⟨b1, 1, none⟩ (.int .i64 ((punctualref_F.f 12 (i1 : Int)).At))]) rfl (by kernel_rfl) ⟨hS68.cell 0 rfl rfl, hS68.cell 0 rfl rfl, trivial⟩ ⟨rfl, hS69⟩) a hF⟩))
          · rw [if_neg hc15] at h
            refine we_known (t := 91) (b := decide ((IntKind.i64.wrap (e1.At - e3.At)) < e4.T)) (v := false) (by kernel_rfl) (decide_eq_false hc15) ?_
            refine we_false (by kernel_rfl) ?_
            refine we_skip fun a hF => hK30 _ _ ?_ a hF
            have hS70 := hS63.bring 1 rfl
            have hS71 := hS70.takeN 1
            obtain rfl := Option.some.inj h
            exact we_exit fun a hF => hQ _ _ _ (Outs.out nofun (Exits.here ⟨hS71, hF.weaken ⟨by kernel_rfl, by kernel_rfl, by kernel_rfl, by kernel_rfl, by kernel_rfl, by kernel_rfl, trivial⟩⟩))
        · rw [if_neg hc14] at h
          cases h
      · rw [if_neg hc13] at h
        refine we_known (t := 76) (b := (e3.Task == e1.Task)) (v := false) (by kernel_rfl) (beq_eq_false_iff_ne.2 hc13) ?_
        refine we_false (by kernel_rfl) ?_
        refine we_skip fun a hF => hK28 _ _ ?_ a hF
        refine we_region [(0, 0), (1, 0), (2, 0)] rfl ?_
        refine ge_batch [0, 1, 2] (ans := []) (vs := [(8, .int .i64 (IntKind.i64.wrap (z1 - 1))), (68, .int .i64 (IntKind.i64.wrap (z1 - 1))), (67, .int .i64 z1)]) (l := []) (by kernel_rfl) trivial ?_
        have hS72 := hS62.bring 1 rfl
        have hS73 := hS72.bring 1 rfl
        obtain rfl := Option.some.inj h
        exact ge_nil fun a hF => hQ _ _ _ (Outs.again ⟨hS73, hF.weaken ⟨by kernel_rfl, by kernel_rfl, by kernel_rfl, by kernel_rfl, by kernel_rfl, by kernel_rfl, by kernel_rfl, by kernel_rfl, by kernel_rfl, trivial⟩⟩)
    · rw [if_neg hc12] at h
      cases h
  · rw [if_neg hc11] at h
    refine we_known (t := 66) (b := decide (z1 ≥ 0)) (v := false) (by kernel_rfl) (decide_eq_false hc11) ?_
    refine we_false (by kernel_rfl) ?_
    have hS74 := hS.bring 1 rfl
    have hS75 := hS74.takeN 1
    obtain rfl := Option.some.inj h
    exact we_exit fun a hF => hQ _ _ _ (Outs.out nofun (Exits.here ⟨hS75, hF.weaken ⟨by kernel_rfl, by kernel_rfl, by kernel_rfl, by kernel_rfl, by kernel_rfl, by kernel_rfl, trivial⟩⟩))
abbrev punctualref_Lawful.A0 (K : Nat) (w0 : World) (l0 : List STask) (A0 : Option Addr) (c0 : Nat) (l1 : List SCome) (A1 : Option Addr) (c1 : Nat) (hR0 : RdL w0 A0 l0) (hL0 : l0.length ≤ c0) (hR1 : RdL w0 A1 l1) (hL1 : l1.length ≤ c1) (b1 : Nat) (r1 : SFault) (b2 : Nat) (hc1 : r1.Code = 0) (hc2 : ¬ ((l1.length : Int) > 4000)) : Nat → Act → World → Prop := fun (s : Nat) a w => St w0 w [Own.blk b1 (.cells #[.int .i64 0, .int .i64 0] 26 (0, 0))] ∧ Frm 96 a [(0, .slice A0 l0.length c0), (1, .slice A1 l1.length c1), (4, .pointer (some ⟨b1, 0, none⟩)), (19, .slice A1 l1.length c1), (20, .int .i64 (l1.length : Int)), (21, .int .i64 (s : Int))]
abbrev punctualref_Lawful.B0 (K : Nat) (w0 : World) (l0 : List STask) (A0 : Option Addr) (c0 : Nat) (l1 : List SCome) (A1 : Option Addr) (c1 : Nat) (hR0 : RdL w0 A0 l0) (hL0 : l0.length ≤ c0) (hR1 : RdL w0 A1 l1) (hL1 : l1.length ≤ c1) (b1 : Nat) (r1 : SFault) (b2 : Nat) (hc1 : r1.Code = 0) (hc2 : ¬ ((l1.length : Int) > 4000)) : (Unit ⊕ SFault) → Exit → Act → World → Prop := Exits 0 (fun (s : Unit) a w => St w0 w [Own.blk b1 (.cells #[.int .i64 0, .int .i64 0] 26 (0, 0))] ∧ Frm 96 a [(4, .pointer (some ⟨b1, 0, none⟩))]) (Rets Tryd.prog Tryd.f49 (punctualref_Lawful.Post w0))
theorem punctualref_Lawful_r0 (K : Nat) (w0 : World) (l0 : List STask) (A0 : Option Addr) (c0 : Nat) (l1 : List SCome) (A1 : Option Addr) (c1 : Nat) (hR0 : RdL w0 A0 l0) (hL0 : l0.length ≤ c0) (hR1 : RdL w0 A1 l1) (hL1 : l1.length ≤ c1) (b1 : Nat) (r1 : SFault) (b2 : Nat) (hc1 : r1.Code = 0) (hc2 : ¬ ((l1.length : Int) > 4000)) (s : Nat) (o : Nat ⊕ (Unit ⊕ SFault)) (h : punctualref_Lawful.r0 K l0 l1 s = some o) (a : Act) (w : World) (hA : punctualref_Lawful.A0 K w0 l0 A0 c0 l1 A1 c1 hR0 hL0 hR1 hL1 b1 r1 b2 hc1 hc2 s a w) (Q : Exit → Act → World → Prop) (hQ : ∀ x a w, Outs (punctualref_Lawful.A0 K w0 l0 A0 c0 l1 A1 c1 hR0 hL0 hR1 hL1 b1 r1 b2 hc1 hc2) (punctualref_Lawful.B0 K w0 l0 A0 c0 l1 A1 c1 hR0 hL0 hR1 hL1 b1 r1 b2 hc1 hc2) o x a w → Q x a w) : (subF Tryd.f49 [1, 1, 1, 0, 1, 0, 0]).wp Tryd.prog Q a w := by
  obtain ⟨i1, hs⟩ : ∃ z, z = s := ⟨s, rfl⟩
  subst hs
  obtain ⟨hS, hF⟩ := hA
  replace hS : St w0 w [Own.blk b1 (.cells #[.int .i64 0, .int .i64 0] 26 (0, 0))] := hS
  simp only [punctualref_Lawful.r0] at h
  refine (?_ : WE Tryd.prog 96 (subF Tryd.f49 [1, 1, 1, 0, 1, 0, 0]) Q [(0, .slice A0 l0.length c0), (1, .slice A1 l1.length c1), (4, .pointer (some ⟨b1, 0, none⟩)), (19, .slice A1 l1.length c1), (20, .int .i64 (l1.length : Int)), (21, .int .i64 (i1 : Int))] w) a hF
  clear hF a
  refine we_seq fun K10 hK10 => ?_
  refine we_region [(0, 0)] rfl ?_
  refine ge_batch [0] (ans := []) (vs := [(22, .bool (decide ((i1 : Int) < (l1.length : Int))))]) (l := []) (by kernel_rfl) trivial ?_
  refine ge_nil fun a hF => hK10 _ _ ?_ a hF
  refine we_seq fun K11 hK11 => ?_
  by_cases hc3 : (i1 : Int) < (l1.length : Int)
  · rw [if_pos hc3] at h
    refine we_known (t := 22) (b := decide ((i1 : Int) < (l1.length : Int))) (v := true) (by kernel_rfl) (decide_eq_true hc3) ?_
    refine we_true (by kernel_rfl) ?_
    refine we_skip fun a hF => hK11 _ _ ?_ a hF
    refine we_seq fun K12 hK12 => ?_
    refine we_block ?_
    refine we_seq fun K13 hK13 => ?_
    refine we_region [(0, 0), (1, 0), (2, 0), (3, 1), (4, 0), (5, 2)] rfl ?_
    refine ge_batch [0] (ans := []) (vs := [(23, .int .i64 (i1 : Int))]) (l := []) (by kernel_rfl) trivial ?_
    rcases hx3 : l1[i1]? with _ | e1
    · rw [hx3] at h; cases h
    rw [hx3] at h
    simp only [] at h
    refine ge_index (d := 24) (ty := 0) (t := 49) (el := 53) (sz := 2) (m := l1.length) (c := c1) (x := (.tmp 19)) (y := (.tmp 21)) (A := A1) (k' := .i64) (j := (i1 : Int)) (jn := i1) (b0 := blkOf A1) (o0 := offOf A1) (by kernel_rfl) (by kernel_rfl) (by kernel_rfl) (by kernel_rfl) (by kernel_rfl) ((hS.rd hR1).eqSome (pos_of_get hx3)) rfl (lt_of_get hx3) ?_
    refine ge_batch [2] (ans := [.val (.int .i64 e1.Task), .val (.int .i64 e1.At)]) (vs := [(25, .agg #[.int .i64 e1.Task, .int .i64 e1.At])]) (l := [.loaded ⟨blkOf A1, offOf A1 + i1 * 2, none⟩ (.int .i64 e1.Task), .loaded ⟨blkOf A1, offOf A1 + i1 * 2 + 1, none⟩ (.int .i64 e1.At)]) (by kernel_rfl) ⟨RdL.cell (j := 0) (hS.rd hR1) hx3 rfl, RdL.cell (j := 1) (hS.rd hR1) hx3 rfl, trivial⟩ ?_
    refine ge_new (d := some 7) (o := .cells #[.int .i64 0, .int .i64 0] 53) (v := fun b => .pointer (some ⟨b, 0, none⟩)) hS (fun b => by kernel_rfl) fun b3 w7 hx4 hS15 => ?_
    refine ge_batch [4] (ans := []) (vs := [(6, .int .i64 (i1 : Int))]) (l := []) (by kernel_rfl) trivial ?_
    refine ge_set (b := b3) (j := 0) (cs := #[.int .i64 0, .int .i64 0]) (t := 53) (vs := [.int .i64 e1.Task, .int .i64 e1.At]) hS15 (by kernel_rfl) rfl rfl fun w8 hS16 => ?_
    have hS17 : St w0 w8 [Own.blk b3 (.cells #[.int .i64 e1.Task, .int .i64 e1.At] 53 (0, 0)), Own.blk b1 (.cells #[.int .i64 0, .int .i64 0] 26 (0, 0))] := hS16
    refine ge_nil fun a hF => hK13 _ _ ?_ a hF
    refine we_seq fun K14 hK14 => ?_
    rcases hq5 : punctualref_Lawful.p1 l0 i1 e1 with _ | (_ | rr4)
    · rw [hq5] at h; cases h
    · rw [hq5] at h
      simp only [] at h
      refine we_keep (e' := [(0, .slice A0 l0.length c0), (1, .slice A1 l1.length c1), (4, .pointer (some ⟨b1, 0, none⟩)), (6, .int .i64 (i1 : Int)), (7, .pointer (some ⟨b3, 0, none⟩)), (19, .slice A1 l1.length c1), (20, .int .i64 (l1.length : Int)), (21, .int .i64 (i1 : Int)), (22, .bool true), (23, .int .i64 (i1 : Int)), (24, .pointer (some ⟨blkOf A1, offOf A1 + i1 * 2, none⟩)), (25, .agg #[.int .i64 e1.Task, .int .i64 e1.At])]) ⟨by kernel_rfl, by kernel_rfl, by kernel_rfl, by kernel_rfl, by kernel_rfl, by kernel_rfl, by kernel_rfl, by kernel_rfl, by kernel_rfl, by kernel_rfl, by kernel_rfl, by kernel_rfl, trivial⟩ (punctualref_Lawful_p1 K w0 l0 A0 c0 l1 A1 c1 hR0 hL0 hR1 hL1 b1 r1 b2 hc1 hc2 i1 hc3 e1 hx3 b3 _ hq5 _ hS17 _ ?_)
      rintro _ a w13 ⟨rfl, hS32, hF⟩
      replace hS32 : St w0 w13 [Own.blk b3 (.cells #[.int .i64 e1.Task, .int .i64 e1.At] 53 (0, 0)), Own.blk b1 (.cells #[.int .i64 0, .int .i64 0] 26 (0, 0))] := hS32
      refine hK14 [(0, .slice A0 l0.length c0), (1, .slice A1 l1.length c1), (4, .pointer (some ⟨b1, 0, none⟩)), (6, .int .i64 (i1 : Int)), (7, .pointer (some ⟨b3, 0, none⟩)), (19, .slice A1 l1.length c1), (20, .int .i64 (l1.length : Int)), (21, .int .i64 (i1 : Int))] w13 ?_ a hF
      refine we_seq fun K18 hK18 => ?_
      rcases hq8 : punctualref_Lawful.p2 i1 e1 with _ | (_ | rr3)
      · rw [hq8] at h; cases h
      · rw [hq8] at h
        simp only [] at h
        refine we_keep (e' := [(0, .slice A0 l0.length c0), (1, .slice A1 l1.length c1), (4, .pointer (some ⟨b1, 0, none⟩)), (6, .int .i64 (i1 : Int)), (7, .pointer (some ⟨b3, 0, none⟩)), (19, .slice A1 l1.length c1), (20, .int .i64 (l1.length : Int)), (21, .int .i64 (i1 : Int))]) ⟨by kernel_rfl, by kernel_rfl, by kernel_rfl, by kernel_rfl, by kernel_rfl, by kernel_rfl, by kernel_rfl, by kernel_rfl, trivial⟩ (punctualref_Lawful_p2 K w0 l0 A0 c0 l1 A1 c1 hR0 hL0 hR1 hL1 b1 r1 b2 hc1 hc2 i1 hc3 e1 hx3 b3 _ hq8 _ hS32 _ ?_)
        rintro _ a w18 ⟨rfl, hS47, hF⟩
        replace hS47 : St w0 w18 [Own.blk b3 (.cells #[.int .i64 e1.Task, .int .i64 e1.At] 53 (0, 0)), Own.blk b1 (.cells #[.int .i64 0, .int .i64 0] 26 (0, 0))] := hS47
        refine hK18 [(0, .slice A0 l0.length c0), (1, .slice A1 l1.length c1), (4, .pointer (some ⟨b1, 0, none⟩)), (6, .int .i64 (i1 : Int)), (7, .pointer (some ⟨b3, 0, none⟩)), (19, .slice A1 l1.length c1), (20, .int .i64 (l1.length : Int)), (21, .int .i64 (i1 : Int))] w18 ?_ a hF
        refine we_seq fun K22 hK22 => ?_
        rcases hq10 : punctualref_Lawful.p3 l1 i1 e1 with _ | (_ | rr2)
        · rw [hq10] at h; cases h
        · rw [hq10] at h
          simp only [] at h
          refine we_keep (e' := [(0, .slice A0 l0.length c0), (1, .slice A1 l1.length c1), (4, .pointer (some ⟨b1, 0, none⟩)), (6, .int .i64 (i1 : Int)), (7, .pointer (some ⟨b3, 0, none⟩)), (19, .slice A1 l1.length c1), (20, .int .i64 (l1.length : Int)), (21, .int .i64 (i1 : Int))]) ⟨by kernel_rfl, by kernel_rfl, by kernel_rfl, by kernel_rfl, by kernel_rfl, by kernel_rfl, by kernel_rfl, by kernel_rfl, trivial⟩ (punctualref_Lawful_p3 K w0 l0 A0 c0 l1 A1 c1 hR0 hL0 hR1 hL1 b1 r1 b2 hc1 hc2 i1 hc3 e1 hx3 b3 _ hq10 _ hS47 _ ?_)
          rintro _ a w21 ⟨rfl, hS59, hF⟩
          replace hS59 : St w0 w21 [Own.blk b3 (.cells #[.int .i64 e1.Task, .int .i64 e1.At] 53 (0, 0)), Own.blk b1 (.cells #[.int .i64 0, .int .i64 0] 26 (0, 0))] := hS59
          refine hK22 [(0, .slice A0 l0.length c0), (1, .slice A1 l1.length c1), (4, .pointer (some ⟨b1, 0, none⟩)), (6, .int .i64 (i1 : Int)), (7, .pointer (some ⟨b3, 0, none⟩)), (19, .slice A1 l1.length c1), (20, .int .i64 (l1.length : Int)), (21, .int .i64 (i1 : Int))] w21 ?_ a hF
          refine we_seq fun K25 hK25 => ?_
          refine we_region [(0, 0), (1, 0), (2, 0)] rfl ?_
          refine ge_batch [0, 1, 2] (ans := []) (vs := [(8, .int .i64 (IntKind.i64.wrap ((i1 : Int) - 1))), (64, .int .i64 (IntKind.i64.wrap ((i1 : Int) - 1))), (63, .int .i64 (i1 : Int))]) (l := []) (by kernel_rfl) trivial ?_
          refine ge_nil fun a hF => hK25 _ _ ?_ a hF
          refine we_block ?_
          have hS60 := hS59.bring 1 rfl
          have hS61 := hS60.bring 1 rfl
          rcases hq12 : iter (punctualref_Lawful.r4 l0 l1 i1 e1) K (IntKind.i64.wrap ((i1 : Int) - 1)) with _ | (_ | rr1)
          · rw [hq12] at h; cases h
          · rw [hq12] at h
            simp only [] at h
            refine we_iter (A := punctualref_Lawful.A4 K w0 l0 A0 c0 l1 A1 c1 hR0 hL0 hR1 hL1 b1 r1 b2 hc1 hc2 i1 hc3 e1 hx3 b3) (B := punctualref_Lawful.B4 K w0 l0 A0 c0 l1 A1 c1 hR0 hL0 hR1 hL1 b1 r1 b2 hc1 hc2 i1 hc3 e1 hx3 b3) hq12 (fun a hF => ⟨hS61, hF.weaken ⟨by kernel_rfl, by kernel_rfl, by kernel_rfl, by kernel_rfl, by kernel_rfl, by kernel_rfl, by kernel_rfl, by kernel_rfl, by kernel_rfl, trivial⟩⟩) (fun s o hf a w hA Q hQ => punctualref_Lawful_r4 K w0 l0 A0 c0 l1 A1 c1 hR0 hL0 hR1 hL1 b1 r1 b2 hc1 hc2 i1 hc3 e1 hx3 b3 s o hf a w hA Q hQ) ?_
            rintro _ a w24 _ ⟨rfl, hS76, hF⟩
            replace hS76 : St w0 w24 [Own.blk b1 (.cells #[.int .i64 0, .int .i64 0] 26 (0, 0))] := hS76
            refine hK12 [(0, .slice A0 l0.length c0), (1, .slice A1 l1.length c1), (4, .pointer (some ⟨b1, 0, none⟩)), (19, .slice A1 l1.length c1), (20, .int .i64 (l1.length : Int)), (21, .int .i64 (i1 : Int))] w24 ?_ a hF
            refine we_region [(0, 0), (1, 0)] rfl ?_
            refine ge_addn (d := 94) (ty := 3) (x := (.tmp 21)) (y := (.const (.int .i64 1))) (t := 3) (t2 := 3) (k := .i64) (m := i1) (by kernel_rfl) (by kernel_rfl) (by kernel_rfl) (by have h0 := hR1.small; omega) ?_
            refine ge_batch [1] (ans := []) (vs := [(21, .int .i64 ((i1 + 1 : Nat) : Int))]) (l := []) (by kernel_rfl) trivial ?_
            obtain rfl := Option.some.inj h
            exact ge_nil fun a hF => hQ _ _ _ (Outs.again ⟨hS76, hF.weaken ⟨by kernel_rfl, by kernel_rfl, by kernel_rfl, by kernel_rfl, by kernel_rfl, by kernel_rfl, trivial⟩⟩)
          · rw [hq12] at h
            simp only [] at h
            refine we_iter (A := punctualref_Lawful.A4 K w0 l0 A0 c0 l1 A1 c1 hR0 hL0 hR1 hL1 b1 r1 b2 hc1 hc2 i1 hc3 e1 hx3 b3) (B := punctualref_Lawful.B4 K w0 l0 A0 c0 l1 A1 c1 hR0 hL0 hR1 hL1 b1 r1 b2 hc1 hc2 i1 hc3 e1 hx3 b3) hq12 (fun a hF => ⟨hS61, hF.weaken ⟨by kernel_rfl, by kernel_rfl, by kernel_rfl, by kernel_rfl, by kernel_rfl, by kernel_rfl, by kernel_rfl, by kernel_rfl, by kernel_rfl, trivial⟩⟩) (fun s o hf a w hA Q hQ => punctualref_Lawful_r4 K w0 l0 A0 c0 l1 A1 c1 hR0 hL0 hR1 hL1 b1 r1 b2 hc1 hc2 i1 hc3 e1 hx3 b3 s o hf a w hA Q hQ) ?_
            rintro _ a w1 _ ⟨rfl, hb⟩
            obtain rfl := Option.some.inj h
            exact hQ _ _ _ (Outs.out nofun (Exits.on ⟨rfl, hb⟩))
        · rw [hq10] at h
          simp only [] at h
          refine we_keep (e' := [(0, .slice A0 l0.length c0), (1, .slice A1 l1.length c1), (4, .pointer (some ⟨b1, 0, none⟩)), (6, .int .i64 (i1 : Int)), (7, .pointer (some ⟨b3, 0, none⟩)), (19, .slice A1 l1.length c1), (20, .int .i64 (l1.length : Int)), (21, .int .i64 (i1 : Int))]) ⟨by kernel_rfl, by kernel_rfl, by kernel_rfl, by kernel_rfl, by kernel_rfl, by kernel_rfl, by kernel_rfl, by kernel_rfl, trivial⟩ (punctualref_Lawful_p3 K w0 l0 A0 c0 l1 A1 c1 hR0 hL0 hR1 hL1 b1 r1 b2 hc1 hc2 i1 hc3 e1 hx3 b3 _ hq10 _ hS47 _ ?_)
          rintro _ a w1 ⟨_, rfl, hb⟩
          obtain rfl := Option.some.inj h
          exact hQ _ _ _ (Outs.out nofun (Exits.on ⟨rfl, hb⟩))
      · rw [hq8] at h
        simp only [] at h
        refine we_keep (e' := [(0, .slice A0 l0.length c0), (1, .slice A1 l1.length c1), (4, .pointer (some ⟨b1, 0, none⟩)), (6, .int .i64 (i1 : Int)), (7, .pointer (some ⟨b3, 0, none⟩)), (19, .slice A1 l1.length c1), (20, .int .i64 (l1.length : Int)), (21, .int .i64 (i1 : Int))]) ⟨by kernel_rfl, by kernel_rfl, by kernel_rfl, by kernel_rfl, by kernel_rfl, by kernel_rfl, by kernel_rfl, by kernel_rfl, trivial⟩ (punctualref_Lawful_p2 K w0 l0 A0 c0 l1 A1 c1 hR0 hL0 hR1 hL1 b1 r1 b2 hc1 hc2 i1 hc3 e1 hx3 b3 _ hq8 _ hS32 _ ?_)
        rintro _ a w1 ⟨_, rfl, hb⟩
        obtain rfl := Option.some.inj h
        exact hQ _ _ _ (Outs.out nofun (Exits.on ⟨rfl, hb⟩))
    · rw [hq5] at h
      simp only [] at h
      refine we_keep (e' := [(0, .slice A0 l0.length c0), (1, .slice A1 l1.length c1), (4, .pointer (some ⟨b1, 0, none⟩)), (6, .int .i64 (i1 : Int)), (7, .pointer (some ⟨b3, 0, none⟩)), (19, .slice A1 l1.length c1), (20, .int .i64 (l1.length : Int)), (21, .int .i64 (i1 : Int)), (22, .bool true), (23, .int .i64 (i1 : Int)), (24, .pointer (some ⟨blkOf A1, offOf A1 + i1 * 2, none⟩)), (25, .agg #[.int .i64 e1.Task, .int .i64 e1.At])]) ⟨by kernel_rfl, by kernel_rfl, by kernel_rfl, by kernel_rfl, by kernel_rfl, by kernel_rfl, by kernel_rfl, by kernel_rfl, by kernel_rfl, by kernel_rfl, by kernel_rfl, by kernel_rfl, trivial⟩ (punctualref_Lawful_p1 K w0 l0 A0 c0 l1 A1 c1 hR0 hL0 hR1 hL1 b1 r1 b2 hc1 hc2 i1 hc3 e1 hx3 b3 _ hq5 _ hS17 _ ?_)
      rintro _ a w1 ⟨_, rfl, hb⟩
      obtain rfl := Option.some.inj h
      exact hQ _ _ _ (Outs.out nofun (Exits.on ⟨rfl, hb⟩))
  · rw [if_neg hc3] at h
    refine we_known (t := 22) (b := decide ((i1 : Int) < (l1.length : Int))) (v := false) (by kernel_rfl) (decide_eq_false hc3) ?_
    refine we_false (by kernel_rfl) ?_
    obtain rfl := Option.some.inj h
    exact we_exit fun a hF => hQ _ _ _ (Outs.out nofun (Exits.here ⟨hS, hF.weaken ⟨by kernel_rfl, trivial⟩⟩))
theorem punctualref_Lawful_ok (K : Nat) (l0 : List STask) (A0 : Option Addr) (c0 : Nat) (l1 : List SCome) (A1 : Option Addr) (c1 : Nat) (w0 : World) (hR0 : RdL w0 A0 l0) (hL0 : l0.length ≤ c0) (hR1 : RdL w0 A1 l1) (hL1 : l1.length ≤ c1) (r : SFault) (h : punctualref_Lawful.f K l0 l1 = some r) :
    Calls Tryd.prog 49 #[.slice A0 l0.length c0, .slice A1 l1.length c1] w0 (punctualref_Lawful.Post w0 r) := by
  have hS := St.start w0
  unfold punctualref_Lawful.f at h
  refine calls_enter (n := 96) (args := [.slice A0 l0.length c0, .slice A1 l1.length c1]) (fn := Tryd.f49) rfl rfl rfl rfl ?_
  show WE _ _ _ _ [(0, .slice A0 l0.length c0), (1, .slice A1 l1.length c1)] _
  refine we_seq fun K1 hK1 => ?_
  refine we_region [(0, 1)] rfl ?_
  refine ge_new (d := some 4) (o := .cells #[.int .i64 0, .int .i64 0] 26) (v := fun b => .pointer (some ⟨b, 0, none⟩)) hS (fun b => by kernel_rfl) fun b1 w1 hx1 hS1 => ?_
  refine ge_nil fun a hF => hK1 _ _ ?_ a hF
  refine we_seq fun K2 hK2 => ?_
  refine we_seq fun K3 hK3 => ?_
  refine we_region [(0, 0), (1, 1), (2, 1), (3, 2)] rfl ?_
  rcases hq1 : punctualref_CheckSet.f K l0 with _ | r1
  · rw [hq1] at h; cases h
  rw [hq1] at h
  simp only [] at h
  refine ge_batch [0] (ans := []) (vs := [(9, .slice A0 l0.length c0)]) (l := []) (by kernel_rfl) trivial ?_
  refine ge_call (d := some 10) (f := 23) (args := #[.slice A0 l0.length c0]) (by kernel_rfl) (punctualref_CheckSet_ok K l0 A0 c0 _ (hS1.rd hR0) hL0 _ hq1) ?_
  rintro _ w2 ⟨rfl, hS2⟩
  refine ⟨_, rfl, hS2.below, ?_⟩
  have hS3 := hS1.call hS2
  refine ge_new (d := some 5) (o := .cells #[.int .i64 0, .int .i64 0] 26) (v := fun b => .pointer (some ⟨b, 0, none⟩)) hS3 (fun b => by kernel_rfl) fun b2 w3 hx2 hS4 => ?_
  refine ge_set (b := b2) (j := 0) (cs := #[.int .i64 0, .int .i64 0]) (t := 26) (vs := [.int .i64 r1.Code, .int .i64 r1.At]) hS4 (by kernel_rfl) rfl rfl fun w4 hS5 => ?_
  have hS6 : St w0 w4 [Own.blk b2 (.cells #[.int .i64 r1.Code, .int .i64 r1.At] 26 (0, 0)), Own.blk b1 (.cells #[.int .i64 0, .int .i64 0] 26 (0, 0))] := hS5
  refine ge_nil fun a hF => hK3 _ _ ?_ a hF
  refine we_seq fun K4 hK4 => ?_
  refine we_region [(0, 0), (1, 0), (2, 0)] rfl ?_
  refine ge_batch [0, 1, 2] (ans := [.val (.int .i64 r1.Code)]) (vs := [(13, .bool (r1.Code != 0)), (12, .int .i64 r1.Code), (11, .pointer (some ⟨b2, 0, none⟩))]) (l := [.loaded ⟨b2, 0, none⟩ (.int .i64 r1.Code)]) (by kernel_rfl) ⟨hS6.cell 0 rfl rfl, trivial⟩ ?_
  refine ge_nil fun a hF => hK4 _ _ ?_ a hF
  by_cases hc1 : r1.Code = 0
  · rw [if_pos hc1] at h
    refine we_known (t := 13) (b := (r1.Code != 0)) (v := false) (by kernel_rfl) (bne_eq_false_iff_eq.2 hc1) ?_
    refine we_false (by kernel_rfl) ?_
    refine we_skip fun a hF => hK2 _ _ ?_ a hF
    refine we_seq fun K5 hK5 => ?_
    refine we_seq fun K6 hK6 => ?_
    refine we_region [(0, 0), (1, 0), (2, 0)] rfl ?_
    refine ge_batch [0, 1, 2] (ans := []) (vs := [(17, .bool (decide ((l1.length : Int) > 4000))), (16, .int .i64 (l1.length : Int)), (15, .slice A1 l1.length c1)]) (l := []) (by kernel_rfl) trivial ?_
    refine ge_nil fun a hF => hK6 _ _ ?_ a hF
    by_cases hc2 : (l1.length : Int) > 4000
    · rw [if_pos hc2] at h
      refine we_known (t := 17) (b := decide ((l1.length : Int) > 4000)) (v := true) (by kernel_rfl) (decide_eq_true hc2) ?_
      refine we_true (by kernel_rfl) ?_
      refine we_seq fun K7 hK7 => ?_
      refine we_region [(0, 1), (1, 2)] rfl ?_
      refine ge_call (d := some 18) (f := 21) (args := #[.int .i64 2, .int .i64 0]) (by kernel_rfl) (punctualref_F_ok 2 0 _ _ rfl) ?_
      rintro _ w5 ⟨rfl, hS7⟩
      refine ⟨_, rfl, hS7.below, ?_⟩
      have hS8 := hS6.call hS7
      have hS9 := hS8.bring 1 rfl
      refine ge_set (b := b1) (j := 0) (cs := #[.int .i64 0, .int .i64 0]) (t := 26) (vs := [.int .i64 ((punctualref_F.f 2 0).Code), .int .i64 ((punctualref_F.f 2 0).At)]) hS9 (by kernel_rfl) rfl rfl fun w6 hS10 => ?_
      have hS11 : St w0 w6 [Own.blk b1 (.cells #[.int .i64 ((punctualref_F.f 2 0).Code), .int .i64 ((punctualref_F.f 2 0).At)] 26 (0, 0)), Own.blk b2 (.cells #[.int .i64 r1.Code, .int .i64 r1.At] 26 (0, 0))] := hS10
      refine ge_nil fun a hF => hK7 _ _ ?_ a hF
      have hS12 := hS11.takeN 0
      obtain rfl := Option.some.inj h
      exact we_ret (post_ret (rs := [.cell 4 26]) (ans := [.val (.int .i64 ((punctualref_F.f 2 0).Code)), .val (.int .i64 ((punctualref_F.f 2 0).At))]) (vs := [.agg #[.int .i64 ((punctualref_F.f 2 0).Code), .int .i64 ((punctualref_F.f 2 0).At)]]) (l := [.loaded ⟨b1, 0, none⟩ (.int .i64 ((punctualref_F.f 2 0).Code)), .loaded ⟨b1, 1, none⟩ (.int .i64 ((punctualref_F.f 2 0).At))]) rfl (by kernel_rfl) ⟨hS11.cell 0 rfl rfl, hS11.cell 0 rfl rfl, trivial⟩ ⟨rfl, hS12⟩)
    · rw [if_neg hc2] at h
      refine we_known (t := 17) (b := decide ((l1.length : Int) > 4000)) (v := false) (by kernel_rfl) (decide_eq_false hc2) ?_
      refine we_false (by kernel_rfl) ?_
      refine we_skip fun a hF => hK5 _ _ ?_ a hF
      refine we_seq fun K8 hK8 => ?_
      refine we_seq fun K9 hK9 => ?_
      refine we_region [(0, 0), (1, 0), (2, 0)] rfl ?_
      refine ge_batch [0, 1, 2] (ans := []) (vs := [(21, .int .i64 0), (20, .int .i64 (l1.length : Int)), (19, .slice A1 l1.length c1)]) (l := []) (by kernel_rfl) trivial ?_
      refine ge_nil fun a hF => hK9 _ _ ?_ a hF
      refine we_block ?_
      have hS13 := hS6.bring 1 rfl
      have hS14 := hS13.takeN 1
      rcases hq13 : iter (punctualref_Lawful.r0 K l0 l1) K 0 with _ | (_ | rr5)
      · rw [hq13] at h; cases h
      · rw [hq13] at h
        simp only [] at h
        refine we_iter (A := punctualref_Lawful.A0 K w0 l0 A0 c0 l1 A1 c1 hR0 hL0 hR1 hL1 b1 r1 b2 hc1 hc2) (B := punctualref_Lawful.B0 K w0 l0 A0 c0 l1 A1 c1 hR0 hL0 hR1 hL1 b1 r1 b2 hc1 hc2) hq13 (fun a hF => ⟨hS14, hF.weaken ⟨by kernel_rfl, by kernel_rfl, by kernel_rfl, by kernel_rfl, by kernel_rfl, by kernel_rfl, trivial⟩⟩) (fun s o hf a w hA Q hQ => punctualref_Lawful_r0 K w0 l0 A0 c0 l1 A1 c1 hR0 hL0 hR1 hL1 b1 r1 b2 hc1 hc2 s o hf a w hA Q hQ) ?_
        rintro _ a w25 _ ⟨rfl, hS77, hF⟩
        replace hS77 : St w0 w25 [Own.blk b1 (.cells #[.int .i64 0, .int .i64 0] 26 (0, 0))] := hS77
        refine hK8 [(4, .pointer (some ⟨b1, 0, none⟩))] w25 ?_ a hF
        refine we_seq fun K33 hK33 => ?_
        refine we_region [(0, 0), (1, 2)] rfl ?_
        refine ge_batch [0] (ans := []) (vs := [(95, .agg #[.int .i64 0, .int .i64 0])]) (l := []) (by kernel_rfl) trivial ?_
        refine ge_set (b := b1) (j := 0) (cs := #[.int .i64 0, .int .i64 0]) (t := 26) (vs := [.int .i64 0, .int .i64 0]) hS77 (by kernel_rfl) rfl rfl fun w26 hS78 => ?_
        have hS79 : St w0 w26 [Own.blk b1 (.cells #[.int .i64 0, .int .i64 0] 26 (0, 0))] := hS78
        refine ge_nil fun a hF => hK33 _ _ ?_ a hF
        have hS80 := hS79.takeN 0
        obtain rfl := Option.some.inj h
        exact we_ret (post_ret (rs := [.cell 4 26]) (ans := [.val (.int .i64 0), .val (.int .i64 0)]) (vs := [.agg #[.int .i64 0, .int .i64 0]]) (l := [.loaded ⟨b1, 0, none⟩ (.int .i64 0), .loaded ⟨b1, 1, none⟩ (.int .i64 0)]) rfl (by kernel_rfl) ⟨hS79.cell 0 rfl rfl, hS79.cell 0 rfl rfl, trivial⟩ ⟨rfl, hS80⟩)
      · rw [hq13] at h
        simp only [] at h
        refine we_iter (A := punctualref_Lawful.A0 K w0 l0 A0 c0 l1 A1 c1 hR0 hL0 hR1 hL1 b1 r1 b2 hc1 hc2) (B := punctualref_Lawful.B0 K w0 l0 A0 c0 l1 A1 c1 hR0 hL0 hR1 hL1 b1 r1 b2 hc1 hc2) hq13 (fun a hF => ⟨hS14, hF.weaken ⟨by kernel_rfl, by kernel_rfl, by kernel_rfl, by kernel_rfl, by kernel_rfl, by kernel_rfl, trivial⟩⟩) (fun s o hf a w hA Q hQ => punctualref_Lawful_r0 K w0 l0 A0 c0 l1 A1 c1 hR0 hL0 hR1 hL1 b1 r1 b2 hc1 hc2 s o hf a w hA Q hQ) ?_
        rintro _ a w1 _ ⟨rfl, hb⟩
        obtain rfl := Option.some.inj h
        exact hb
  · rw [if_neg hc1] at h
    refine we_known (t := 13) (b := (r1.Code != 0)) (v := true) (by kernel_rfl) (bne_iff_ne.2 hc1) ?_
    refine we_true (by kernel_rfl) ?_
    refine we_seq fun K34 hK34 => ?_
    refine we_region [(0, 0), (1, 2)] rfl ?_
    refine ge_batch [0] (ans := [.val (.int .i64 r1.Code), .val (.int .i64 r1.At)]) (vs := [(14, .agg #[.int .i64 r1.Code, .int .i64 r1.At])]) (l := [.loaded ⟨b2, 0, none⟩ (.int .i64 r1.Code), .loaded ⟨b2, 1, none⟩ (.int .i64 r1.At)]) (by kernel_rfl) ⟨hS6.cell 0 rfl rfl, hS6.cell 0 rfl rfl, trivial⟩ ?_
    have hS81 := hS6.bring 1 rfl
    refine ge_set (b := b1) (j := 0) (cs := #[.int .i64 0, .int .i64 0]) (t := 26) (vs := [.int .i64 r1.Code, .int .i64 r1.At]) hS81 (by kernel_rfl) rfl rfl fun w27 hS82 => ?_
    have hS83 : St w0 w27 [Own.blk b1 (.cells #[.int .i64 r1.Code, .int .i64 r1.At] 26 (0, 0)), Own.blk b2 (.cells #[.int .i64 r1.Code, .int .i64 r1.At] 26 (0, 0))] := hS82
    refine ge_nil fun a hF => hK34 _ _ ?_ a hF
    have hS84 := hS83.takeN 0
    obtain rfl := Option.some.inj h
    exact we_ret (post_ret (rs := [.cell 4 26]) (ans := [.val (.int .i64 r1.Code), .val (.int .i64 r1.At)]) (vs := [.agg #[.int .i64 r1.Code, .int .i64 r1.At]]) (l := [.loaded ⟨b1, 0, none⟩ (.int .i64 r1.Code), .loaded ⟨b1, 1, none⟩ (.int .i64 r1.At)]) rfl (by kernel_rfl) ⟨hS83.cell 0 rfl rfl, hS83.cell 0 rfl rfl, trivial⟩ ⟨rfl, hS84⟩)

/-! punctual/punctualref.JobsOf -/
abbrev punctualref_JobsOf.Post (w0 : World) (r : (List SJob) × SFault) (e : Ending) (w : World) : Prop := ∃ (v0 : Value), e = .returned (.tuple #[v0, .agg #[.int .i64 r.2.Code, .int .i64 r.2.At]]) ∧ St w0 w [Own.of v0 30 r.1]
def punctualref_JobsOf.p0 (l1 : List SCome) (l2 : List Int) (l3 : List Int) : Option (Unit ⊕ ((List SJob) × SFault)) :=
    if (l2.length : Int) = (l1.length : Int) then
      if (l3.length : Int) = (l1.length : Int) then
        some (.inl ())
      else
        some (.inr (([] : List SJob), (punctualref_F.f 2 0)))
    else
      some (.inr (([] : List SJob), (punctualref_F.f 2 0)))
def punctualref_JobsOf.p2 (l2 : List Int) (l3 : List Int) (i1 : Nat) (e2 : STask) : Option (Unit ⊕ ((List SJob) × SFault)) :=
    match l2[i1]? with
    | none => none
    | some e3 =>
      if e3 < 0 then
        some (.inr (([] : List SJob), (punctualref_F.f 3 (i1 : Int))))
      else
        if e3 > e2.J then
          some (.inr (([] : List SJob), (punctualref_F.f 3 (i1 : Int))))
        else
          match l3[i1]? with
          | none => none
          | some e4 =>
            if e4 < 1 then
              some (.inr (([] : List SJob), (punctualref_F.f 3 (i1 : Int))))
            else
              if e4 > e2.C then
                some (.inr (([] : List SJob), (punctualref_F.f 3 (i1 : Int))))
              else
                some (.inl ())
def punctualref_JobsOf.r1 (l0 : List STask) (l1 : List SCome) (l2 : List Int) (l3 : List Int) : (List SJob) × Nat → Option (((List SJob) × Nat) ⊕ ((List SJob) ⊕ ((List SJob) × SFault)))
  | (m1, i1) =>
    if (i1 : Int) < (l1.length : Int) then
      match l1[i1]? with
      | none => none
      | some e1 =>
        if 0 ≤ e1.Task then
          match l0[(e1.Task).toNat]? with
          | none => none
          | some e2 =>
            match punctualref_JobsOf.p2 l2 l3 i1 e2 with
            | none => none
            | some (.inl _) =>
              match l2[i1]? with
              | none => none
              | some e5 =>
                match l3[i1]? with
                | none => none
                | some e6 =>
                  if m1.length < 3518437208883 then
                    some (.inl ((m1 ++ [(⟨e1.Task, IntKind.i64.wrap (e1.At + e5), e6, IntKind.i64.wrap (e1.At + e2.D), e2.P⟩ : SJob)]), (i1 + 1)))
                  else
                    none
            | some (.inr rr1) =>
              some (.inr (.inr rr1))
        else
          none
    else
      some (.inr (.inl m1))
def punctualref_JobsOf.f (K : Nat) (l0 : List STask) (l1 : List SCome) (l2 : List Int) (l3 : List Int) : Option ((List SJob) × SFault) :=
  match punctualref_Lawful.f K l0 l1 with
  | none => none
  | some r1 =>
    if r1.Code = 0 then
      match punctualref_JobsOf.p0 l1 l2 l3 with
      | none => none
      | some (.inl _) =>
        match iter (punctualref_JobsOf.r1 l0 l1 l2 l3) K (([] : List SJob), 0) with
        | none => none
        | some (.inl m3) =>
          some (m3, (⟨0, 0⟩ : SFault))
        | some (.inr rr2) =>
          some rr2
      | some (.inr rr3) =>
        some rr3
    else
      some (([] : List SJob), r1)
abbrev punctualref_JobsOf.A0 (K : Nat) (w0 : World) (l0 : List STask) (A0 : Option Addr) (c0 : Nat) (l1 : List SCome) (A1 : Option Addr) (c1 : Nat) (l2 : List Int) (A2 : Option Addr) (c2 : Nat) (l3 : List Int) (A3 : Option Addr) (c3 : Nat) (hR0 : RdL w0 A0 l0) (hL0 : l0.length ≤ c0) (hR1 : RdL w0 A1 l1) (hL1 : l1.length ≤ c1) (hR2 : RdL w0 A2 l2) (hL2 : l2.length ≤ c2) (hR3 : RdL w0 A3 l3) (hL3 : l3.length ≤ c3) (b1 : Nat) (r1 : SFault) (b2 : Nat) (hc1 : r1.Code = 0) : Unit → Act → World → Prop := fun (s : Unit) a w => St w0 w [Own.blk b1 (.cells #[.int .i64 0, .int .i64 0] 26 (0, 0))] ∧ Frm 106 a [(0, .slice A0 l0.length c0), (1, .slice A1 l1.length c1), (2, .slice A2 l2.length c2), (3, .slice A3 l3.length c3), (9, .pointer (some ⟨b1, 0, none⟩))]
abbrev punctualref_JobsOf.B0 (K : Nat) (w0 : World) (l0 : List STask) (A0 : Option Addr) (c0 : Nat) (l1 : List SCome) (A1 : Option Addr) (c1 : Nat) (l2 : List Int) (A2 : Option Addr) (c2 : Nat) (l3 : List Int) (A3 : Option Addr) (c3 : Nat) (hR0 : RdL w0 A0 l0) (hL0 : l0.length ≤ c0) (hR1 : RdL w0 A1 l1) (hL1 : l1.length ≤ c1) (hR2 : RdL w0 A2 l2) (hL2 : l2.length ≤ c2) (hR3 : RdL w0 A3 l3) (hL3 : l3.length ≤ c3) (b1 : Nat) (r1 : SFault) (b2 : Nat) (hc1 : r1.Code = 0) : ((List SJob) × SFault) → Exit → Act → World → Prop := Rets Tryd.prog Tryd.f27 (punctualref_JobsOf.Post w0)
theorem punctualref_JobsOf_p0 (K : Nat) (w0 : World) (l0 : List STask) (A0 : Option Addr) (c0 : Nat) (l1 : List SCome) (A1 : Option Addr) (c1 : Nat) (l2 : List Int) (A2 : Option Addr) (c2 : Nat) (l3 : List Int) (A3 : Option Addr) (c3 : Nat) (hR0 : RdL w0 A0 l0) (hL0 : l0.length ≤ c0) (hR1 : RdL w0 A1 l1) (hL1 : l1.length ≤ c1) (hR2 : RdL w0 A2 l2) (hL2 : l2.length ≤ c2) (hR3 : RdL w0 A3 l3) (hL3 : l3.length ≤ c3) (b1 : Nat) (r1 : SFault) (b2 : Nat) (hc1 : r1.Code = 0) (o : Unit ⊕ ((List SJob) × SFault)) (h : punctualref_JobsOf.p0 l1 l2 l3 = some o) (w : World) (hS : St w0 w [Own.blk b2 (.cells #[.int .i64 r1.Code, .int .i64 r1.At] 26 (0, 0)), Own.blk b1 (.cells #[.int .i64 0, .int .i64 0] 26 (0, 0))]) (Q : Exit → Act → World → Prop) (hQ : ∀ x a w, Outs (punctualref_JobsOf.A0 K w0 l0 A0 c0 l1 A1 c1 l2 A2 c2 l3 A3 c3 hR0 hL0 hR1 hL1 hR2 hL2 hR3 hL3 b1 r1 b2 hc1) (punctualref_JobsOf.B0 K w0 l0 A0 c0 l1 A1 c1 l2 A2 c2 l3 A3 c3 hR0 hL0 hR1 hL1 hR2 hL2 hR3 hL3 b1 r1 b2 hc1) o x a w → Q x a w) : WE Tryd.prog 106 (subF Tryd.f27 [1, 1, 0]) Q [(0, .slice A0 l0.length c0), (1, .slice A1 l1.length c1), (2, .slice A2 l2.length c2), (3, .slice A3 l3.length c3), (8, .slice none 0 0), (9, .pointer (some ⟨b1, 0, none⟩)), (10, .pointer (some ⟨b2, 0, none⟩)), (15, .slice A0 l0.length c0), (16, .slice A1 l1.length c1), (17, .agg #[.int .i64 r1.Code, .int .i64 r1.At]), (18, .pointer (some ⟨b2, 0, none⟩)), (19, .int .i64 r1.Code), (20, .bool false)] w := by
  simp only [punctualref_JobsOf.p0] at h
  refine we_seq fun K6 hK6 => ?_
  refine we_region [(0, 0), (1, 0), (2, 0), (3, 0), (4, 0), (5, 0), (6, 0), (7, 0), (8, 0), (9, 0), (10, 0), (11, 0)] rfl ?_
  refine ge_batch [0, 1, 2, 3, 4, 5] (ans := []) (vs := [(27, .bool ((l2.length : Int) != (l1.length : Int))), (26, .bool ((l2.length : Int) != (l1.length : Int))), (25, .int .i64 (l1.length : Int)), (24, .slice A1 l1.length c1), (23, .int .i64 (l2.length : Int)), (22, .slice A2 l2.length c2)]) (l := []) (by kernel_rfl) trivial ?_
  by_cases hc2 : (l2.length : Int) = (l1.length : Int)
  · rw [if_pos hc2] at h
    refine ge_known (t := 27) (b := ((l2.length : Int) != (l1.length : Int))) (c := false) (by kernel_rfl) (bne_eq_false_iff_eq.2 hc2) ?_
    refine ge_batch [6, 7, 8, 9, 10, 11] (ans := []) (vs := [(33, .bool ((l3.length : Int) != (l1.length : Int))), (32, .bool ((l3.length : Int) != (l1.length : Int))), (31, .int .i64 (l1.length : Int)), (30, .slice A1 l1.length c1), (29, .int .i64 (l3.length : Int)), (28, .slice A3 l3.length c3)]) (l := []) (by kernel_rfl) trivial ?_
    refine ge_nil fun a hF => hK6 _ _ ?_ a hF
    by_cases hc3 : (l3.length : Int) = (l1.length : Int)
    · rw [if_pos hc3] at h
      refine we_known (t := 33) (b := ((l3.length : Int) != (l1.length : Int))) (v := false) (by kernel_rfl) (bne_eq_false_iff_eq.2 hc3) ?_
      refine we_false (by kernel_rfl) ?_
      have hS7 := hS.bring 1 rfl
      have hS8 := hS7.takeN 1
      obtain rfl := Option.some.inj h
      exact we_skip fun a hF => hQ _ _ _ (Outs.again ⟨hS8, hF.weaken ⟨by kernel_rfl, by kernel_rfl, by kernel_rfl, by kernel_rfl, by kernel_rfl, trivial⟩⟩)
    · rw [if_neg hc3] at h
      refine we_known (t := 33) (b := ((l3.length : Int) != (l1.length : Int))) (v := true) (by kernel_rfl) (bne_iff_ne.2 hc3) ?_
      refine we_true (by kernel_rfl) ?_
      refine we_seq fun K7 hK7 => ?_
      refine we_region [(0, 1), (1, 0), (2, 2)] rfl ?_
      refine ge_call (d := some 34) (f := 21) (args := #[.int .i64 2, .int .i64 0]) (by kernel_rfl) (punctualref_F_ok 2 0 _ _ rfl) ?_
      rintro _ w5 ⟨rfl, hS9⟩
      refine ⟨_, rfl, hS9.below, ?_⟩
      have hS10 := hS.call hS9
      refine ge_batch [1] (ans := []) (vs := [(8, .slice none 0 0)]) (l := []) (by kernel_rfl) trivial ?_
      have hS11 := hS10.bring 1 rfl
      refine ge_set (b := b1) (j := 0) (cs := #[.int .i64 0, .int .i64 0]) (t := 26) (vs := [.int .i64 ((punctualref_F.f 2 0).Code), .int .i64 ((punctualref_F.f 2 0).At)]) hS11 (by kernel_rfl) rfl rfl fun w6 hS12 => ?_
      have hS13 : St w0 w6 [Own.blk b1 (.cells #[.int .i64 ((punctualref_F.f 2 0).Code), .int .i64 ((punctualref_F.f 2 0).At)] 26 (0, 0)), Own.blk b2 (.cells #[.int .i64 r1.Code, .int .i64 r1.At] 26 (0, 0))] := hS12
      refine ge_nil fun a hF => hK7 _ _ ?_ a hF
      have hS14 := hS13.nil (α := SJob) 30
      have hS15 := hS14.takeN 1
      obtain rfl := Option.some.inj h
      exact we_ret fun a hF => hQ _ _ _ (Outs.out nofun ⟨rfl, (post_ret (rs := [.tmp 8, .cell 9 26]) (ans := [.val (.int .i64 ((punctualref_F.f 2 0).Code)), .val (.int .i64 ((punctualref_F.f 2 0).At))]) (vs := [(.slice none 0 0), .agg #[.int .i64 ((punctualref_F.f 2 0).Code), .int .i64 ((punctualref_F.f 2 0).At)]]) (l := [.loaded ⟨b1, 0, none⟩ (.int .i64 ((punctualref_F.f 2 0).Code)), .loaded ⟨b1, 1, none⟩ (.int .i64 ((punctualref_F.f 2 0).At))]) rfl (by kernel_rfl) ⟨hS14.cell 1 rfl rfl, hS14.cell 1 rfl rfl, trivial⟩ ⟨(.slice none 0 0), rfl, hS15⟩) a hF⟩)
  · rw [if_neg hc2] at h
    refine ge_known (t := 27) (b := ((l2.length : Int) != (l1.length : Int))) (c := true) (by kernel_rfl) (bne_iff_ne.2 hc2) ?_
    refine ge_batch [6, 7, 8, 9, 10, 11] (ans := []) (vs := [(33, .bool true), (32, undef), (31, undef), (30, undef), (29, undef), (28, undef)]) (l := []) (by kernel_rfl) trivial ?_
    refine ge_nil fun a hF => hK6 _ _ ?_ a hF
    refine we_true (by kernel_rfl) ?_
    refine we_seq fun K8 hK8 => ?_
    refine we_region [(0, 1), (1, 0), (2, 2)] rfl ?_
    refine ge_call (d := some 34) (f := 21) (args := #[.int .i64 2, .int .i64 0]) (by kernel_rfl) (punctualref_F_ok 2 0 _ _ rfl) ?_
    rintro _ w7 ⟨rfl, hS16⟩
    refine ⟨_, rfl, hS16.below, ?_⟩
    have hS17 := hS.call hS16
    refine ge_batch [1] (ans := []) (vs := [(8, .slice none 0 0)]) (l := []) (by kernel_rfl) trivial ?_
    have hS18 := hS17.bring 1 rfl
    refine ge_set (b := b1) (j := 0) (cs := #[.int .i64 0, .int .i64 0]) (t := 26) (vs := [.int .i64 ((punctualref_F.f 2 0).Code), .int .i64 ((punctualref_F.f 2 0).At)]) hS18 (by kernel_rfl) rfl rfl fun w8 hS19 => ?_
    have hS20 : St w0 w8 [Own.blk b1 (.cells #[.int .i64 ((punctualref_F.f 2 0).Code), .int .i64 ((punctualref_F.f 2 0).At)] 26 (0, 0)), Own.blk b2 (.cells #[.int .i64 r1.Code, .int .i64 r1.At] 26 (0, 0))] := hS19
    refine ge_nil fun a hF => hK8 _ _ ?_ a hF
    have hS21 := hS20.nil (α := SJob) 30
    have hS22 := hS21.takeN 1
    obtain rfl := Option.some.inj h
    exact we_ret fun a hF => hQ _ _ _ (Outs.out nofun ⟨rfl, (post_ret (rs := [.tmp 8, .cell 9 26]) (ans := [.val (.int .i64 ((punctualref_F.f 2 0).Code)), .val (.int .i64 ((punctualref_F.f 2 0).At))]) (vs := [(.slice none 0 0), .agg #[.int .i64 ((punctualref_F.f 2 0).Code), .int .i64 ((punctualref_F.f 2 0).At)]]) (l := [.loaded ⟨b1, 0, none⟩ (.int .i64 ((punctualref_F.f 2 0).Code)), .loaded ⟨b1, 1, none⟩ (.int .i64 ((punctualref_F.f 2 0).At))]) rfl (by kernel_rfl) ⟨hS21.cell 1 rfl rfl, hS21.cell 1 rfl rfl, trivial⟩ ⟨(.slice none 0 0), rfl, hS22⟩) a hF⟩)
abbrev punctualref_JobsOf.A2 (K : Nat) (w0 : World) (l0 : List STask) (A0 : Option Addr) (c0 : Nat) (l1 : List SCome) (A1 : Option Addr) (c1 : Nat) (l2 : List Int) (A2 : Option Addr) (c2 : Nat) (l3 : List Int) (A3 : Option Addr) (c3 : Nat) (hR0 : RdL w0 A0 l0) (hL0 : l0.length ≤ c0) (hR1 : RdL w0 A1 l1) (hL1 : l1.length ≤ c1) (hR2 : RdL w0 A2 l2) (hL2 : l2.length ≤ c2) (hR3 : RdL w0 A3 l3) (hL3 : l3.length ≤ c3) (b1 : Nat) (r1 : SFault) (b2 : Nat) (hc1 : r1.Code = 0) (m1 : List SJob) (i1 : Nat) (hc4 : (i1 : Int) < (l1.length : Int)) (e1 : SCome) (hx3 : l1[i1]? = some e1) (b3 : Nat) (hc5 : 0 ≤ e1.Task) (e2 : STask) (hx5 : l0[(e1.Task).toNat]? = some e2) (b4 : Nat) (Z1 : Option Addr) (cz1 : Nat) : Unit → Act → World → Prop := fun (s : Unit) a w => St w0 w [Own.blk b4 (.cells #[.string e2.Name, .int .i64 e2.C, .int .i64 e2.T, .int .i64 e2.D, .int .i64 e2.J, .int .i64 e2.O, .int .i64 e2.P] 46 (0, 0)), Own.blk b3 (.cells #[.int .i64 e1.Task, .int .i64 e1.At] 53 (0, 0)), Own.blk b1 (.cells #[.int .i64 0, .int .i64 0] 26 (0, 0)), Own.of (.slice Z1 m1.length cz1) 30 m1] ∧ Frm 106 a [(0, .slice A0 l0.length c0), (2, .slice A2 l2.length c2), (3, .slice A3 l3.length c3), (9, .pointer (some ⟨b1, 0, none⟩)), (11, (.slice Z1 m1.length cz1)), (12, .int .i64 (i1 : Int)), (13, .pointer (some ⟨b3, 0, none⟩)), (14, .pointer (some ⟨b4, 0, none⟩)), (35, .slice A1 l1.length c1), (36, .int .i64 (l1.length : Int)), (37, .int .i64 (i1 : Int))]
abbrev punctualref_JobsOf.B2 (K : Nat) (w0 : World) (l0 : List STask) (A0 : Option Addr) (c0 : Nat) (l1 : List SCome) (A1 : Option Addr) (c1 : Nat) (l2 : List Int) (A2 : Option Addr) (c2 : Nat) (l3 : List Int) (A3 : Option Addr) (c3 : Nat) (hR0 : RdL w0 A0 l0) (hL0 : l0.length ≤ c0) (hR1 : RdL w0 A1 l1) (hL1 : l1.length ≤ c1) (hR2 : RdL w0 A2 l2) (hL2 : l2.length ≤ c2) (hR3 : RdL w0 A3 l3) (hL3 : l3.length ≤ c3) (b1 : Nat) (r1 : SFault) (b2 : Nat) (hc1 : r1.Code = 0) (m1 : List SJob) (i1 : Nat) (hc4 : (i1 : Int) < (l1.length : Int)) (e1 : SCome) (hx3 : l1[i1]? = some e1) (b3 : Nat) (hc5 : 0 ≤ e1.Task) (e2 : STask) (hx5 : l0[(e1.Task).toNat]? = some e2) (b4 : Nat) (Z1 : Option Addr) (cz1 : Nat) : ((List SJob) × SFault) → Exit → Act → World → Prop := Rets Tryd.prog Tryd.f27 (punctualref_JobsOf.Post w0)
theorem punctualref_JobsOf_p2 (K : Nat) (w0 : World) (l0 : List STask) (A0 : Option Addr) (c0 : Nat) (l1 : List SCome) (A1 : Option Addr) (c1 : Nat) (l2 : List Int) (A2 : Option Addr) (c2 : Nat) (l3 : List Int) (A3 : Option Addr) (c3 : Nat) (hR0 : RdL w0 A0 l0) (hL0 : l0.length ≤ c0) (hR1 : RdL w0 A1 l1) (hL1 : l1.length ≤ c1) (hR2 : RdL w0 A2 l2) (hL2 : l2.length ≤ c2) (hR3 : RdL w0 A3 l3) (hL3 : l3.length ≤ c3) (b1 : Nat) (r1 : SFault) (b2 : Nat) (hc1 : r1.Code = 0) (m1 : List SJob) (i1 : Nat) (hc4 : (i1 : Int) < (l1.length : Int)) (e1 : SCome) (hx3 : l1[i1]? = some e1) (b3 : Nat) (hc5 : 0 ≤ e1.Task) (e2 : STask) (hx5 : l0[(e1.Task).toNat]? = some e2) (b4 : Nat) (Z1 : Option Addr) (cz1 : Nat) (o : Unit ⊕ ((List SJob) × SFault)) (h : punctualref_JobsOf.p2 l2 l3 i1 e2 = some o) (w : World) (hS : St w0 w [Own.blk b4 (.cells #[.string e2.Name, .int .i64 e2.C, .int .i64 e2.T, .int .i64 e2.D, .int .i64 e2.J, .int .i64 e2.O, .int .i64 e2.P] 46 (0, 0)), Own.blk b3 (.cells #[.int .i64 e1.Task, .int .i64 e1.At] 53 (0, 0)), Own.blk b1 (.cells #[.int .i64 0, .int .i64 0] 26 (0, 0)), Own.of (.slice Z1 m1.length cz1) 30 m1]) (Q : Exit → Act → World → Prop) (hQ : ∀ x a w, Outs (punctualref_JobsOf.A2 K w0 l0 A0 c0 l1 A1 c1 l2 A2 c2 l3 A3 c3 hR0 hL0 hR1 hL1 hR2 hL2 hR3 hL3 b1 r1 b2 hc1 m1 i1 hc4 e1 hx3 b3 hc5 e2 hx5 b4 Z1 cz1) (punctualref_JobsOf.B2 K w0 l0 A0 c0 l1 A1 c1 l2 A2 c2 l3 A3 c3 hR0 hL0 hR1 hL1 hR2 hL2 hR3 hL3 b1 r1 b2 hc1 m1 i1 hc4 e1 hx3 b3 hc5 e2 hx5 b4 Z1 cz1) o x a w → Q x a w) : WE Tryd.prog 106 (subF Tryd.f27 [1, 1, 1, 1, 0, 1, 0, 0, 1, 1, 0, 0, 1, 1, 0]) Q [(0, .slice A0 l0.length c0), (2, .slice A2 l2.length c2), (3, .slice A3 l3.length c3), (9, .pointer (some ⟨b1, 0, none⟩)), (11, (.slice Z1 m1.length cz1)), (12, .int .i64 (i1 : Int)), (13, .pointer (some ⟨b3, 0, none⟩)), (14, .pointer (some ⟨b4, 0, none⟩)), (35, .slice A1 l1.length c1), (36, .int .i64 (l1.length : Int)), (37, .int .i64 (i1 : Int)), (38, .bool true), (39, .int .i64 (i1 : Int)), (40, .pointer (some ⟨blkOf A1, offOf A1 + i1 * 2, none⟩)), (41, .agg #[.int .i64 e1.Task, .int .i64 e1.At]), (42, .slice A0 l0.length c0), (43, .pointer (some ⟨b3, 0, none⟩)), (44, .int .i64 e1.Task), (45, .pointer (some ⟨blkOf A0, offOf A0 + (e1.Task).toNat * 7, none⟩)), (46, .agg #[.string e2.Name, .int .i64 e2.C, .int .i64 e2.T, .int .i64 e2.D, .int .i64 e2.J, .int .i64 e2.O, .int .i64 e2.P])] w := by
  simp only [punctualref_JobsOf.p2] at h
  refine we_seq fun K18 hK18 => ?_
  refine we_draws (by kernel_rfl) [(0, 0), (1, 0), (2, 0), (3, 0), (4, 0), (5, 0), (6, 0), (7, 0), (8, 0), (9, 0), (10, 0), (11, 0), (12, 0), (13, 0), (14, 0), (15, 0), (16, 0), (17, 0), (18, 0), (19, 0), (20, 0), (21, 0), (22, 0), (23, 0), (24, 0), (25, 0), (26, 0), (27, 0), (28, 0), (29, 0)] (by kernel_rfl) ?_
  have hS32 := hS.drew
  refine ge_batch [0, 1] (ans := []) (vs := [(48, .int .i64 (i1 : Int)), (47, .slice A2 l2.length c2)]) (l := []) (by kernel_rfl) trivial ?_
  rcases hx7 : l2[i1]? with _ | e3
  · rw [hx7] at h; cases h
  rw [hx7] at h
  simp only [] at h
  refine ge_index (d := 49) (ty := 0) (t := 23) (el := 3) (sz := 1) (m := l2.length) (c := c2) (x := (.tmp 47)) (y := (.tmp 48)) (A := A2) (k' := .i64) (j := (i1 : Int)) (jn := i1) (b0 := blkOf A2) (o0 := offOf A2) (by kernel_rfl) (by kernel_rfl) (by kernel_rfl) (by kernel_rfl) (by kernel_rfl) ((hS32.rd hR2).eqSome (pos_of_get hx7)) rfl (lt_of_get hx7) ?_
  refine ge_batch [3, 4, 5] (ans := [.val (.int .i64 e3)]) (vs := [(52, .bool (decide (e3 < 0))), (51, .bool (decide (e3 < 0))), (50, .int .i64 e3)]) (l := [.loaded ⟨blkOf A2, offOf A2 + i1 * 1, none⟩ (.int .i64 e3)]) (by kernel_rfl) ⟨RdL.cell (j := 0) (hS32.rd hR2) hx7 rfl, trivial⟩ ?_
  by_cases hc6 : e3 < 0
  · rw [if_pos hc6] at h
    refine ge_known (t := 52) (b := decide (e3 < 0)) (c := true) (by kernel_rfl) (decide_eq_true hc6) ?_
    refine ge_batch [6, 7, 8, 9, 10, 11, 12, 13, 14, 15, 16, 17, 18, 19, 20, 21, 22, 23, 24, 25, 26, 27, 28, 29] (ans := []) (vs := [(76, .bool true), (75, undef), (74, undef), (73, undef), (72, undef), (71, undef), (70, undef), (69, undef), (68, .bool true), (67, .bool true), (66, undef), (65, undef), (64, undef), (63, undef), (62, undef), (61, .bool true), (60, .bool true), (59, undef), (58, undef), (57, undef), (56, undef), (55, undef), (54, undef), (53, undef)]) (l := []) (by kernel_rfl) trivial ?_
    refine ge_nil fun a hF => hK18 _ _ ?_ a hF
    refine we_true (by kernel_rfl) ?_
    refine we_seq fun K19 hK19 => ?_
    refine we_region [(0, 0), (1, 1), (2, 0), (3, 2)] rfl ?_
    refine ge_batch [0] (ans := []) (vs := [(77, .int .i64 (i1 : Int))]) (l := []) (by kernel_rfl) trivial ?_
    refine ge_call (d := some 78) (f := 21) (args := #[.int .i64 3, .int .i64 (i1 : Int)]) (by kernel_rfl) (punctualref_F_ok 3 (i1 : Int) _ _ rfl) ?_
    rintro _ w14 ⟨rfl, hS33⟩
    refine ⟨_, rfl, hS33.below, ?_⟩
    have hS34 := hS32.call hS33
    refine ge_batch [2] (ans := []) (vs := [(8, .slice none 0 0)]) (l := []) (by kernel_rfl) trivial ?_
    have hS35 := hS34.bring 2 rfl
    refine ge_set (b := b1) (j := 0) (cs := #[.int .i64 0, .int .i64 0]) (t := 26) (vs := [.int .i64 ((punctualref_F.f 3 (i1 : Int)).Code), .int .i64 ((punctualref_F.f 3 (i1 : Int)).At)]) hS35 (by kernel_rfl) rfl rfl fun w15 hS36 => ?_
    have hS37 : St w0 w15 [Own.blk b1 (.cells #[.int .i64 ((punctualref_F.f 3 (i1 : Int)).Code), .int .i64 ((punctualref_F.f 3 (i1 : Int)).At)] 26 (0, 0)), Own.blk b4 (.cells #[.string e2.Name, .int .i64 e2.C, .int .i64 e2.T, .int .i64 e2.D, .int .i64 e2.J, .int .i64 e2.O, .int .i64 e2.P] 46 (0, 0)), Own.blk b3 (.cells #[.int .i64 e1.Task, .int .i64 e1.At] 53 (0, 0)), Own.of (.slice Z1 m1.length cz1) 30 m1] := hS36
    refine ge_nil fun a hF => hK19 _ _ ?_ a hF
    have hS38 := hS37.nil (α := SJob) 30
    have hS39 := hS38.takeN 1
    obtain rfl := Option.some.inj h
    exact we_ret fun a hF => hQ _ _ _ (Outs.out nofun ⟨rfl, (post_ret (rs := [.tmp 8, .cell 9 26]) (ans := [.val (.int .i64 ((punctualref_F.f 3 (i1 : Int)).Code)), .val (.int .i64 ((punctualref_F.f 3 (i1 : Int)).At))]) (vs := [(.slice none 0 0), .agg #[.int .i64 ((punctualref_F.f 3 (i1 : Int)).Code), .int .i64 ((punctualref_F.f 3 (i1 : Int)).At)]]) (l := [.loaded ⟨b1, 0, none⟩ (.int .i64 ((punctualref_F.f 3 (i1 : Int)).Code)), .loaded ⟨b1, 1, none⟩ (.int .i64 ((punctualref_F.f 3 (i1 : Int)).At))]) rfl (by kernel_rfl) ⟨hS38.cell 1 rfl rfl, hS38.cell 1 rfl rfl, trivial⟩ ⟨(.slice none 0 0), rfl, hS39⟩) a hF⟩)
  · rw [if_neg hc6] at h
    refine ge_known (t := 52) (b := decide (e3 < 0)) (c := false) (by kernel_rfl) (decide_eq_false hc6) ?_
    refine ge_batch [6, 7] (ans := []) (vs := [(54, .int .i64 (i1 : Int)), (53, .slice A2 l2.length c2)]) (l := []) (by kernel_rfl) trivial ?_
    refine ge_index (d := 55) (ty := 0) (t := 23) (el := 3) (sz := 1) (m := l2.length) (c := c2) (x := (.tmp 53)) (y := (.tmp 54)) (A := A2) (k' := .i64) (j := (i1 : Int)) (jn := i1) (b0 := blkOf A2) (o0 := offOf A2) (by kernel_rfl) (by kernel_rfl) (by kernel_rfl) (by kernel_rfl) (by kernel_rfl) ((hS32.rd hR2).eqSome (pos_of_get hx7)) rfl (lt_of_get hx7) ?_
    refine ge_batch [9, 10, 11, 12, 13, 14] (ans := [.val (.int .i64 e3), .val (.int .i64 e2.J)]) (vs := [(61, .bool (decide (e3 > e2.J))), (60, .bool (decide (e3 > e2.J))), (59, .bool (decide (e3 > e2.J))), (58, .int .i64 e2.J), (57, .pointer (some ⟨b4, 4, none⟩)), (56, .int .i64 e3)]) (l := [.loaded ⟨blkOf A2, offOf A2 + i1 * 1, none⟩ (.int .i64 e3), .loaded ⟨b4, 4, none⟩ (.int .i64 e2.J)]) (by kernel_rfl) ⟨RdL.cell (j := 0) (hS32.rd hR2) hx7 rfl, hS32.cell 0 rfl rfl, trivial⟩ ?_
    by_cases hc7 : e3 > e2.J
    · rw [if_pos hc7] at h
      refine ge_known (t := 61) (b := decide (e3 > e2.J)) (c := true) (by kernel_rfl) (decide_eq_true hc7) ?_
      refine ge_batch [15, 16, 17, 18, 19, 20, 21, 22, 23, 24, 25, 26, 27, 28, 29] (ans := []) (vs := [(76, .bool true), (75, undef), (74, undef), (73, undef), (72, undef), (71, undef), (70, undef), (69, undef), (68, .bool true), (67, .bool true), (66, undef), (65, undef), (64, undef), (63, undef), (62, undef)]) (l := []) (by kernel_rfl) trivial ?_
      refine ge_nil fun a hF => hK18 _ _ ?_ a hF
      refine we_true (by kernel_rfl) ?_
      refine we_seq fun K20 hK20 => ?_
      refine we_region [(0, 0), (1, 1), (2, 0), (3, 2)] rfl ?_
      refine ge_batch [0] (ans := []) (vs := [(77, .int .i64 (i1 : Int))]) (l := []) (by kernel_rfl) trivial ?_
      refine ge_call (d := some 78) (f := 21) (args := #[.int .i64 3, .int .i64 (i1 : Int)]) (by kernel_rfl) (punctualref_F_ok 3 (i1 : Int) _ _ rfl) ?_
      rintro _ w16 ⟨rfl, hS40⟩
      refine ⟨_, rfl, hS40.below, ?_⟩
      have hS41 := hS32.call hS40
      refine ge_batch [2] (ans := []) (vs := [(8, .slice none 0 0)]) (l := []) (by kernel_rfl) trivial ?_
      have hS42 := hS41.bring 2 rfl
      refine ge_set (b := b1) (j := 0) (cs := #[.int .i64 0, .int .i64 0]) (t := 26) (vs := [.int .i64 ((punctualref_F.f 3 (i1 : Int)).Code), .int .i64 ((punctualref_F.f 3 (i1 : Int)).At)]) hS42 (by kernel_rfl) rfl rfl fun w17 hS43 => ?_
      have hS44 : St w0 w17 [Own.blk b1 (.cells #[.int .i64 ((punctualref_F.f 3 (i1 : Int)).Code), .int .i64 ((punctualref_F.f 3 (i1 : Int)).At)] 26 (0, 0)), Own.blk b4 (.cells #[.string e2.Name, .int .i64 e2.C, .int .i64 e2.T, .int .i64 e2.D, .int .i64 e2.J, .int .i64 e2.O, .int .i64 e2.P] 46 (0, 0)), Own.blk b3 (.cells #[.int .i64 e1.Task, .int .i64 e1.At] 53 (0, 0)), Own.of (.slice Z1 m1.length cz1) 30 m1] := hS43
      refine ge_nil fun a hF => hK20 _ _ ?_ a hF
      have hS45 := hS44.nil (α := SJob) 30
      have hS46 := hS45.takeN 1
      obtain rfl := Option.some.inj h
      exact we_ret fun a hF => hQ _ _ _ (Outs.out nofun ⟨rfl, (post_ret (rs := [.tmp 8, .cell 9 26]) (ans := [.val (.int .i64 ((punctualref_F.f 3 (i1 : Int)).Code)), .val (.int .i64 ((punctualref_F.f 3 (i1 : Int)).At))]) (vs := [(.slice none 0 0), .agg #[.int .i64 ((punctualref_F.f 3 (i1 : Int)).Code), .int .i64 ((punctualref_F.f 3 (i1 : Int)).At)]]) (l := [.loaded ⟨b1, 0, none⟩ (.int .i64 ((punctualref_F.f 3 (i1 : Int)).Code)), .loaded ⟨b1, 1, none⟩ (.int .i64 ((punctualref_F.f 3 (i1 : Int)).At))]) rfl (by kernel_rfl) ⟨hS45.cell 1 rfl rfl, hS45.cell 1 rfl rfl, trivial⟩ ⟨(.slice none 0 0), rfl, hS46⟩) a hF⟩)
    · rw [if_neg hc7] at h
      refine ge_known (t := 61) (b := decide (e3 > e2.J)) (c := false) (by kernel_rfl) (decide_eq_false hc7) ?_
      refine ge_batch [15, 16] (ans := []) (vs := [(63, .int .i64 (i1 : Int)), (62, .slice A3 l3.length c3)]) (l := []) (by kernel_rfl) trivial ?_
      rcases hx8 : l3[i1]? with _ | e4
      · rw [hx8] at h; cases h
      rw [hx8] at h
      simp only [] at h
      refine ge_index (d := 64) (ty := 0) (t := 23) (el := 3) (sz := 1) (m := l3.length) (c := c3) (x := (.tmp 62)) (y := (.tmp 63)) (A := A3) (k' := .i64) (j := (i1 : Int)) (jn := i1) (b0 := blkOf A3) (o0 := offOf A3) (by kernel_rfl) (by kernel_rfl) (by kernel_rfl) (by kernel_rfl) (by kernel_rfl) ((hS32.rd hR3).eqSome (pos_of_get hx8)) rfl (lt_of_get hx8) ?_
      refine ge_batch [18, 19, 20, 21] (ans := [.val (.int .i64 e4)]) (vs := [(68, .bool (decide (e4 < 1))), (67, .bool (decide (e4 < 1))), (66, .bool (decide (e4 < 1))), (65, .int .i64 e4)]) (l := [.loaded ⟨blkOf A3, offOf A3 + i1 * 1, none⟩ (.int .i64 e4)]) (by kernel_rfl) ⟨RdL.cell (j := 0) (hS32.rd hR3) hx8 rfl, trivial⟩ ?_
      by_cases hc8 : e4 < 1
      · rw [if_pos hc8] at h
        refine ge_known (t := 68) (b := decide (e4 < 1)) (c := true) (by kernel_rfl) (decide_eq_true hc8) ?_
        refine ge_batch [22, 23, 24, 25, 26, 27, 28, 29] (ans := []) (vs := [(76, .bool true), (75, undef), (74, undef), (73, undef), (72, undef), (71, undef), (70, undef), (69, undef)]) (l := []) (by kernel_rfl) trivial ?_
        refine ge_nil fun a hF => hK18 _ _ ?_ a hF
        refine we_true (by kernel_rfl) ?_
        refine we_seq fun K21 hK21 => ?_
        refine we_region [(0, 0), (1, 1), (2, 0), (3, 2)] rfl ?_
        refine ge_batch [0] (ans := []) (vs := [(77, .int .i64 (i1 : Int))]) (l := []) (by kernel_rfl) trivial ?_
        refine ge_call (d := some 78) (f := 21) (args := #[.int .i64 3, .int .i64 (i1 : Int)]) (by kernel_rfl) (punctualref_F_ok 3 (i1 : Int) _ _ rfl) ?_
        rintro _ w18 ⟨rfl, hS47⟩
        refine ⟨_, rfl, hS47.below, ?_⟩
        have hS48 := hS32.call hS47
        refine ge_batch [2] (ans := []) (vs := [(8, .slice none 0 0)]) (l := []) (by kernel_rfl) trivial ?_
        have hS49 := hS48.bring 2 rfl
        refine ge_set (b := b1) (j := 0) (cs := #[.int .i64 0, .int .i64 0]) (t := 26) (vs := [.int .i64 ((punctualref_F.f 3 (i1 : Int)).Code), .int .i64 ((punctualref_F.f 3 (i1 : Int)).At)]) hS49 (by kernel_rfl) rfl rfl fun w19 hS50 => ?_
        have hS51 : St w0 w19 [Own.blk b1 (.cells #[.int .i64 ((punctualref_F.f 3 (i1 : Int)).Code), .int .i64 ((punctualref_F.f 3 (i1 : Int)).At)] 26 (0, 0)), Own.blk b4 (.cells #[.string e2.Name, .int .i64 e2.C, .int .i64 e2.T, .int .i64 e2.D, .int .i64 e2.J, .int .i64 e2.O, .int .i64 e2.P] 46 (0, 0)), Own.blk b3 (.cells #[.int .i64 e1.Task, .int .i64 e1.At] 53 (0, 0)), Own.of (.slice Z1 m1.length cz1) 30 m1] := hS50
        refine ge_nil fun a hF => hK21 _ _ ?_ a hF
        have hS52 := hS51.nil (α := SJob) 30
        have hS53 := hS52.takeN 1
        obtain rfl := Option.some.inj h
        exact we_ret fun a hF => hQ _ _ _ (Outs.out nofun ⟨rfl, (post_ret (rs := [.tmp 8, .cell 9 26]) (ans := [.val (.int .i64 ((punctualref_F.f 3 (i1 : Int)).Code)), .val (.int .i64 ((punctualref_F.f 3 (i1 : Int)).At))]) (vs := [(.slice none 0 0), .agg #[.int .i64 ((punctualref_F.f 3 (i1 : Int)).Code), .int .i64 ((punctualref_F.f 3 (i1 : Int)).At)]]) (l := [.loaded ⟨b1, 0, none⟩ (.int .i64 ((punctualref_F.f 3 (i1 : Int)).Code)), .loaded ⟨b1, 1, none⟩ (.int .i64 ((punctualref_F.f 3 (i1 : Int)).At))]) rfl (by kernel_rfl) ⟨hS52.cell 1 rfl rfl, hS52.cell 1 rfl rfl, trivial⟩ ⟨(.slice none 0 0), rfl, hS53⟩) a hF⟩)
      · rw [if_neg hc8] at h
        refine ge_known (t := 68) (b := decide (e4 < 1)) (c := false) (by kernel_rfl) (decide_eq_false hc8) ?_
        refine ge_batch [22, 23] (ans := []) (vs := [(70, .int .i64 (i1 : Int)), (69, .slice A3 l3.length c3)]) (l := []) (by kernel_rfl) trivial ?_
        refine ge_index (d := 71) (ty := 0) (t := 23) (el := 3) (sz := 1) (m := l3.length) (c := c3) (x := (.tmp 69)) (y := (.tmp 70)) (A := A3) (k' := .i64) (j := (i1 : Int)) (jn := i1) (b0 := blkOf A3) (o0 := offOf A3) (by kernel_rfl) (by kernel_rfl) (by kernel_rfl) (by kernel_rfl) (by kernel_rfl) ((hS32.rd hR3).eqSome (pos_of_get hx8)) rfl (lt_of_get hx8) ?_
        refine ge_batch [25, 26, 27, 28, 29] (ans := [.val (.int .i64 e4), .val (.int .i64 e2.C)]) (vs := [(76, .bool (decide (e4 > e2.C))), (75, .bool (decide (e4 > e2.C))), (74, .int .i64 e2.C), (73, .pointer (some ⟨b4, 1, none⟩)), (72, .int .i64 e4)]) (l := [.loaded ⟨blkOf A3, offOf A3 + i1 * 1, none⟩ (.int .i64 e4), .loaded ⟨b4, 1, none⟩ (.int .i64 e2.C)]) (by kernel_rfl) ⟨RdL.cell (j := 0) (hS32.rd hR3) hx8 rfl, hS32.cell 0 rfl rfl, trivial⟩ ?_
        refine ge_nil fun a hF => hK18 _ _ ?_ a hF
        by_cases hc9 : e4 > e2.C
        · rw [if_pos hc9] at h
          refine we_known (t := 76) (b := decide (e4 > e2.C)) (v := true) (by kernel_rfl) (decide_eq_true hc9) ?_
          refine we_true (by kernel_rfl) ?_
          refine we_seq fun K22 hK22 => ?_
          refine we_region [(0, 0), (1, 1), (2, 0), (3, 2)] rfl ?_
          refine ge_batch [0] (ans := []) (vs := [(77, .int .i64 (i1 : Int))]) (l := []) (by kernel_rfl) trivial ?_
          refine ge_call (d := some 78) (f := 21) (args := #[.int .i64 3, .int .i64 (i1 : Int)]) (by kernel_rfl) (punctualref_F_ok 3 (i1 : Int) _ _ rfl) ?_
          rintro _ w20 ⟨rfl, hS54⟩
          refine ⟨_, rfl, hS54.below, ?_⟩
          have hS55 := hS32.call hS54
          refine ge_batch [2] (ans := []) (vs := [(8, .slice none 0 0)]) (l := []) (by kernel_rfl) trivial ?_
          have hS56 := hS55.bring 2 rfl
          refine ge_set (b := b1) (j := 0) (cs := #[.int .i64 0, .int .i64 0]) (t := 26) (vs := [.int .i64 ((punctualref_F.f 3 (i1 : Int)).Code), .int .i64 ((punctualref_F.f 3 (i1 : Int)).At)]) hS56 (by kernel_rfl) rfl rfl fun w21 hS57 => ?_
          have hS58 : St w0 w21 [Own.blk b1 (.cells #[.int .i64 ((punctualref_F.f 3 (i1 : Int)).Code), .int .i64 ((punctualref_F.f 3 (i1 : Int)).At)] 26 (0, 0)), Own.blk b4 (.cells #[.string e2.Name, .int .i64 e2.C, .int .i64 e2.T, .int .i64 e2.D, .int .i64 e2.J, .int .i64 e2.O, .int .i64 e2.P] 46 (0, 0)), Own.blk b3 (.cells #[.int .i64 e1.Task, .int .i64 e1.At] 53 (0, 0)), Own.of (.slice Z1 m1.length cz1) 30 m1] := hS57
          refine ge_nil fun a hF => hK22 _ _ ?_ a hF
          have hS59 := hS58.nil (α := SJob) 30
          have hS60 := hS59.takeN 1
          obtain rfl := Option.some.inj h
          exact we_ret fun a hF => hQ _ _ _ (Outs.out nofun ⟨rfl, (post_ret (rs := [.tmp 8, .cell 9 26]) (ans := [.val (.int .i64 ((punctualref_F.f 3 (i1 : Int)).Code)), .val (.int .i64 ((punctualref_F.f 3 (i1 : Int)).At))]) (vs := [(.slice none 0 0), .agg #[.int .i64 ((punctualref_F.f 3 (i1 : Int)).Code), .int .i64 ((punctualref_F.f 3 (i1 : Int)).At)]]) (l := [.loaded ⟨b1, 0, none⟩ (.int .i64 ((punctualref_F.f 3 (i1 : Int)).Code)), .loaded ⟨b1, 1, none⟩ (.int .i64 ((punctualref_F.f 3 (i1 : Int)).At))]) rfl (by kernel_rfl) ⟨hS59.cell 1 rfl rfl, hS59.cell 1 rfl rfl, trivial⟩ ⟨(.slice none 0 0), rfl, hS60⟩) a hF⟩)
        · rw [if_neg hc9] at h
          refine we_known (t := 76) (b := decide (e4 > e2.C)) (v := false) (by kernel_rfl) (decide_eq_false hc9) ?_
          refine we_false (by kernel_rfl) ?_
          have hS61 := hS32.bring 3 rfl
          have hS62 := hS61.bring 3 rfl
          have hS63 := hS62.bring 3 rfl
          have hS64 := hS63.bring 3 rfl
          obtain rfl := Option.some.inj h
          exact we_skip fun a hF => hQ _ _ _ (Outs.again ⟨hS64, hF.weaken ⟨by kernel_rfl, by kernel_rfl, by kernel_rfl, by kernel_rfl, by kernel_rfl, by kernel_rfl, by kernel_rfl, by kernel_rfl, by kernel_rfl, by kernel_rfl, by kernel_rfl, trivial⟩⟩)
abbrev punctualref_JobsOf.A1 (K : Nat) (w0 : World) (l0 : List STask) (A0 : Option Addr) (c0 : Nat) (l1 : List SCome) (A1 : Option Addr) (c1 : Nat) (l2 : List Int) (A2 : Option Addr) (c2 : Nat) (l3 : List Int) (A3 : Option Addr) (c3 : Nat) (hR0 : RdL w0 A0 l0) (hL0 : l0.length ≤ c0) (hR1 : RdL w0 A1 l1) (hL1 : l1.length ≤ c1) (hR2 : RdL w0 A2 l2) (hL2 : l2.length ≤ c2) (hR3 : RdL w0 A3 l3) (hL3 : l3.length ≤ c3) (b1 : Nat) (r1 : SFault) (b2 : Nat) (hc1 : r1.Code = 0) : ((List SJob) × Nat) → Act → World → Prop := fun (s : (List SJob) × Nat) a w => ∃ (v1 : Value), St w0 w [Own.blk b1 (.cells #[.int .i64 0, .int .i64 0] 26 (0, 0)), Own.of v1 30 s.1] ∧ Frm 106 a [(0, .slice A0 l0.length c0), (2, .slice A2 l2.length c2), (3, .slice A3 l3.length c3), (9, .pointer (some ⟨b1, 0, none⟩)), (11, v1), (35, .slice A1 l1.length c1), (36, .int .i64 (l1.length : Int)), (37, .int .i64 (s.2 : Int))]
abbrev punctualref_JobsOf.B1 (K : Nat) (w0 : World) (l0 : List STask) (A0 : Option Addr) (c0 : Nat) (l1 : List SCome) (A1 : Option Addr) (c1 : Nat) (l2 : List Int) (A2 : Option Addr) (c2 : Nat) (l3 : List Int) (A3 : Option Addr) (c3 : Nat) (hR0 : RdL w0 A0 l0) (hL0 : l0.length ≤ c0) (hR1 : RdL w0 A1 l1) (hL1 : l1.length ≤ c1) (hR2 : RdL w0 A2 l2) (hL2 : l2.length ≤ c2) (hR3 : RdL w0 A3 l3) (hL3 : l3.length ≤ c3) (b1 : Nat) (r1 : SFault) (b2 : Nat) (hc1 : r1.Code = 0) : ((List SJob) ⊕ ((List SJob) × SFault)) → Exit → Act → World → Prop := Exits 0 (fun (s : (List SJob)) a w => ∃ (v2 : Value), St w0 w [Own.blk b1 (.cells #[.int .i64 0, .int .i64 0] 26 (0, 0)), Own.of v2 30 s] ∧ Frm 106 a [(9, .pointer (some ⟨b1, 0, none⟩)), (11, v2)]) (Rets Tryd.prog Tryd.f27 (punctualref_JobsOf.Post w0))
theorem punctualref_JobsOf_r1 (K : Nat) (w0 : World) (l0 : List STask) (A0 : Option Addr) (c0 : Nat) (l1 : List SCome) (A1 : Option Addr) (c1 : Nat) (l2 : List Int) (A2 : Option Addr) (c2 : Nat) (l3 : List Int) (A3 : Option Addr) (c3 : Nat) (hR0 : RdL w0 A0 l0) (hL0 : l0.length ≤ c0) (hR1 : RdL w0 A1 l1) (hL1 : l1.length ≤ c1) (hR2 : RdL w0 A2 l2) (hL2 : l2.length ≤ c2) (hR3 : RdL w0 A3 l3) (hL3 : l3.length ≤ c3) (b1 : Nat) (r1 : SFault) (b2 : Nat) (hc1 : r1.Code = 0) (s : (List SJob) × Nat) (o : ((List SJob) × Nat) ⊕ ((List SJob) ⊕ ((List SJob) × SFault))) (h : punctualref_JobsOf.r1 l0 l1 l2 l3 s = some o) (a : Act) (w : World) (hA : punctualref_JobsOf.A1 K w0 l0 A0 c0 l1 A1 c1 l2 A2 c2 l3 A3 c3 hR0 hL0 hR1 hL1 hR2 hL2 hR3 hL3 b1 r1 b2 hc1 s a w) (Q : Exit → Act → World → Prop) (hQ : ∀ x a w, Outs (punctualref_JobsOf.A1 K w0 l0 A0 c0 l1 A1 c1 l2 A2 c2 l3 A3 c3 hR0 hL0 hR1 hL1 hR2 hL2 hR3 hL3 b1 r1 b2 hc1) (punctualref_JobsOf.B1 K w0 l0 A0 c0 l1 A1 c1 l2 A2 c2 l3 A3 c3 hR0 hL0 hR1 hL1 hR2 hL2 hR3 hL3 b1 r1 b2 hc1) o x a w → Q x a w) : (subF Tryd.f27 [1, 1, 1, 1, 0, 1, 0, 0]).wp Tryd.prog Q a w := by
  obtain ⟨m1, i1⟩ := s
  obtain ⟨v1, hS, hF⟩ := hA
  replace hS : St w0 w [Own.blk b1 (.cells #[.int .i64 0, .int .i64 0] 26 (0, 0)), Own.of v1 30 m1] := hS
  simp only [punctualref_JobsOf.r1] at h
  refine (?_ : WE Tryd.prog 106 (subF Tryd.f27 [1, 1, 1, 1, 0, 1, 0, 0]) Q [(0, .slice A0 l0.length c0), (2, .slice A2 l2.length c2), (3, .slice A3 l3.length c3), (9, .pointer (some ⟨b1, 0, none⟩)), (11, v1), (35, .slice A1 l1.length c1), (36, .int .i64 (l1.length : Int)), (37, .int .i64 (i1 : Int))] w) a hF
  clear hF a
  refine we_seq fun K12 hK12 => ?_
  refine we_region [(0, 0)] rfl ?_
  refine ge_batch [0] (ans := []) (vs := [(38, .bool (decide ((i1 : Int) < (l1.length : Int))))]) (l := []) (by kernel_rfl) trivial ?_
  refine ge_nil fun a hF => hK12 _ _ ?_ a hF
  refine we_seq fun K13 hK13 => ?_
  by_cases hc4 : (i1 : Int) < (l1.length : Int)
  · rw [if_pos hc4] at h
    refine we_known (t := 38) (b := decide ((i1 : Int) < (l1.length : Int))) (v := true) (by kernel_rfl) (decide_eq_true hc4) ?_
    refine we_true (by kernel_rfl) ?_
    refine we_skip fun a hF => hK13 _ _ ?_ a hF
    refine we_seq fun K14 hK14 => ?_
    refine we_block ?_
    refine we_seq fun K15 hK15 => ?_
    refine we_region [(0, 0), (1, 0), (2, 0), (3, 1), (4, 0), (5, 2)] rfl ?_
    refine ge_batch [0] (ans := []) (vs := [(39, .int .i64 (i1 : Int))]) (l := []) (by kernel_rfl) trivial ?_
    rcases hx3 : l1[i1]? with _ | e1
    · rw [hx3] at h; cases h
    rw [hx3] at h
    simp only [] at h
    refine ge_index (d := 40) (ty := 0) (t := 49) (el := 53) (sz := 2) (m := l1.length) (c := c1) (x := (.tmp 35)) (y := (.tmp 37)) (A := A1) (k' := .i64) (j := (i1 : Int)) (jn := i1) (b0 := blkOf A1) (o0 := offOf A1) (by kernel_rfl) (by kernel_rfl) (by kernel_rfl) (by kernel_rfl) (by kernel_rfl) ((hS.rd hR1).eqSome (pos_of_get hx3)) rfl (lt_of_get hx3) ?_
    refine ge_batch [2] (ans := [.val (.int .i64 e1.Task), .val (.int .i64 e1.At)]) (vs := [(41, .agg #[.int .i64 e1.Task, .int .i64 e1.At])]) (l := [.loaded ⟨blkOf A1, offOf A1 + i1 * 2, none⟩ (.int .i64 e1.Task), .loaded ⟨blkOf A1, offOf A1 + i1 * 2 + 1, none⟩ (.int .i64 e1.At)]) (by kernel_rfl) ⟨RdL.cell (j := 0) (hS.rd hR1) hx3 rfl, RdL.cell (j := 1) (hS.rd hR1) hx3 rfl, trivial⟩ ?_
    refine ge_new (d := some 13) (o := .cells #[.int .i64 0, .int .i64 0] 53) (v := fun b => .pointer (some ⟨b, 0, none⟩)) hS (fun b => by kernel_rfl) fun b3 w10 hx4 hS26 => ?_
    refine ge_batch [4] (ans := []) (vs := [(12, .int .i64 (i1 : Int))]) (l := []) (by kernel_rfl) trivial ?_
    refine ge_set (b := b3) (j := 0) (cs := #[.int .i64 0, .int .i64 0]) (t := 53) (vs := [.int .i64 e1.Task, .int .i64 e1.At]) hS26 (by kernel_rfl) rfl rfl fun w11 hS27 => ?_
    have hS28 : St w0 w11 [Own.blk b3 (.cells #[.int .i64 e1.Task, .int .i64 e1.At] 53 (0, 0)), Own.blk b1 (.cells #[.int .i64 0, .int .i64 0] 26 (0, 0)), Own.of v1 30 m1] := hS27
    refine ge_nil fun a hF => hK15 _ _ ?_ a hF
    refine we_seq fun K16 hK16 => ?_
    refine we_region [(0, 0), (1, 0), (2, 0), (3, 0), (4, 0), (5, 1), (6, 2)] rfl ?_
    refine ge_batch [0, 1, 2] (ans := [.val (.int .i64 e1.Task)]) (vs := [(44, .int .i64 e1.Task), (43, .pointer (some ⟨b3, 0, none⟩)), (42, .slice A0 l0.length c0)]) (l := [.loaded ⟨b3, 0, none⟩ (.int .i64 e1.Task)]) (by kernel_rfl) ⟨hS28.cell 0 rfl rfl, trivial⟩ ?_
    by_cases hc5 : 0 ≤ e1.Task
    · rw [if_pos hc5] at h
      rcases hx5 : l0[(e1.Task).toNat]? with _ | e2
      · rw [hx5] at h; cases h
      rw [hx5] at h
      simp only [] at h
      refine ge_index (d := 45) (ty := 0) (t := 40) (el := 46) (sz := 7) (m := l0.length) (c := c0) (x := (.tmp 42)) (y := (.tmp 44)) (A := A0) (k' := .i64) (j := e1.Task) (jn := ((e1.Task).toNat)) (b0 := blkOf A0) (o0 := offOf A0) (by kernel_rfl) (by kernel_rfl) (by kernel_rfl) (by kernel_rfl) (by kernel_rfl) ((hS28.rd hR0).eqSome (pos_of_get hx5)) (Int.toNat_of_nonneg hc5).symm (lt_of_get hx5) ?_
      refine ge_batch [4] (ans := [.val (.string e2.Name), .val (.int .i64 e2.C), .val (.int .i64 e2.T), .val (.int .i64 e2.D), .val (.int .i64 e2.J), .val (.int .i64 e2.O), .val (.int .i64 e2.P)]) (vs := [(46, .agg #[.string e2.Name, .int .i64 e2.C, .int .i64 e2.T, .int .i64 e2.D, .int .i64 e2.J, .int .i64 e2.O, .int .i64 e2.P])]) (l := [.loaded ⟨blkOf A0, offOf A0 + ((e1.Task).toNat) * 7, none⟩ (.string e2.Name), .loaded ⟨blkOf A0, offOf A0 + ((e1.Task).toNat) * 7 + 1, none⟩ (.int .i64 e2.C), .loaded ⟨blkOf A0, offOf A0 + ((e1.Task).toNat) * 7 + 2, none⟩ (.int .i64 e2.T), .loaded ⟨blkOf A0, offOf A0 + ((e1.Task).toNat) * 7 + 3, none⟩ (.int .i64 e2.D), .loaded ⟨blkOf A0, offOf A0 + ((e1.Task).toNat) * 7 + 4, none⟩ (.int .i64 e2.J), .loaded ⟨blkOf A0, offOf A0 + ((e1.Task).toNat) * 7 + 5, none⟩ (.int .i64 e2.O), .loaded ⟨blkOf A0, offOf A0 + ((e1.Task).toNat) * 7 + 6, none⟩ (.int .i64 e2.P)]) (by kernel_rfl) ⟨RdL.cell (j := 0) (hS28.rd hR0) hx5 rfl, RdL.cell (j := 1) (hS28.rd hR0) hx5 rfl, RdL.cell (j := 2) (hS28.rd hR0) hx5 rfl, RdL.cell (j := 3) (hS28.rd hR0) hx5 rfl, RdL.cell (j := 4) (hS28.rd hR0) hx5 rfl, RdL.cell (j := 5) (hS28.rd hR0) hx5 rfl, RdL.cell (j := 6) (hS28.rd hR0) hx5 rfl, trivial⟩ ?_
      refine ge_new (d := some 14) (o := .cells #[.string (⟨#[]⟩), .int .i64 0, .int .i64 0, .int .i64 0, .int .i64 0, .int .i64 0, .int .i64 0] 46) (v := fun b => .pointer (some ⟨b, 0, none⟩)) hS28 (fun b => by kernel_rfl) fun b4 w12 hx6 hS29 => ?_
      refine ge_set (b := b4) (j := 0) (cs := #[.string (⟨#[]⟩), .int .i64 0, .int .i64 0, .int .i64 0, .int .i64 0, .int .i64 0, .int .i64 0]) (t := 46) (vs := [.string e2.Name, .int .i64 e2.C, .int .i64 e2.T, .int .i64 e2.D, .int .i64 e2.J, .int .i64 e2.O, .int .i64 e2.P]) hS29 (by kernel_rfl) rfl rfl fun w13 hS30 => ?_
      have hS31 : St w0 w13 [Own.blk b4 (.cells #[.string e2.Name, .int .i64 e2.C, .int .i64 e2.T, .int .i64 e2.D, .int .i64 e2.J, .int .i64 e2.O, .int .i64 e2.P] 46 (0, 0)), Own.blk b3 (.cells #[.int .i64 e1.Task, .int .i64 e1.At] 53 (0, 0)), Own.blk b1 (.cells #[.int .i64 0, .int .i64 0] 26 (0, 0)), Own.of v1 30 m1] := hS30
      refine ge_nil fun a hF => hK16 _ _ ?_ a hF
      refine we_seq fun K17 hK17 => ?_
      obtain ⟨Z1, cz1, rfl⟩ := hS31.open 3 rfl
      rcases hq9 : punctualref_JobsOf.p2 l2 l3 i1 e2 with _ | (_ | rr1)
      · rw [hq9] at h; cases h
      · rw [hq9] at h
        simp only [] at h
        refine we_keep (e' := [(0, .slice A0 l0.length c0), (2, .slice A2 l2.length c2), (3, .slice A3 l3.length c3), (9, .pointer (some ⟨b1, 0, none⟩)), (11, (.slice Z1 m1.length cz1)), (12, .int .i64 (i1 : Int)), (13, .pointer (some ⟨b3, 0, none⟩)), (14, .pointer (some ⟨b4, 0, none⟩)), (35, .slice A1 l1.length c1), (36, .int .i64 (l1.length : Int)), (37, .int .i64 (i1 : Int)), (38, .bool true), (39, .int .i64 (i1 : Int)), (40, .pointer (some ⟨blkOf A1, offOf A1 + i1 * 2, none⟩)), (41, .agg #[.int .i64 e1.Task, .int .i64 e1.At]), (42, .slice A0 l0.length c0), (43, .pointer (some ⟨b3, 0, none⟩)), (44, .int .i64 e1.Task), (45, .pointer (some ⟨blkOf A0, offOf A0 + (e1.Task).toNat * 7, none⟩)), (46, .agg #[.string e2.Name, .int .i64 e2.C, .int .i64 e2.T, .int .i64 e2.D, .int .i64 e2.J, .int .i64 e2.O, .int .i64 e2.P])]) ⟨by kernel_rfl, by kernel_rfl, by kernel_rfl, by kernel_rfl, by kernel_rfl, by kernel_rfl, by kernel_rfl, by kernel_rfl, by kernel_rfl, by kernel_rfl, by kernel_rfl, by kernel_rfl, by kernel_rfl, by kernel_rfl, by kernel_rfl, by kernel_rfl, by kernel_rfl, by kernel_rfl, by kernel_rfl, by kernel_rfl, trivial⟩ (punctualref_JobsOf_p2 K w0 l0 A0 c0 l1 A1 c1 l2 A2 c2 l3 A3 c3 hR0 hL0 hR1 hL1 hR2 hL2 hR3 hL3 b1 r1 b2 hc1 m1 i1 hc4 e1 hx3 b3 hc5 e2 hx5 b4 Z1 cz1 _ hq9 _ hS31 _ ?_)
        rintro _ a w22 ⟨rfl, hS65, hF⟩
        replace hS65 : St w0 w22 [Own.blk b4 (.cells #[.string e2.Name, .int .i64 e2.C, .int .i64 e2.T, .int .i64 e2.D, .int .i64 e2.J, .int .i64 e2.O, .int .i64 e2.P] 46 (0, 0)), Own.blk b3 (.cells #[.int .i64 e1.Task, .int .i64 e1.At] 53 (0, 0)), Own.blk b1 (.cells #[.int .i64 0, .int .i64 0] 26 (0, 0)), Own.of (.slice Z1 m1.length cz1) 30 m1] := hS65
        refine hK17 [(0, .slice A0 l0.length c0), (2, .slice A2 l2.length c2), (3, .slice A3 l3.length c3), (9, .pointer (some ⟨b1, 0, none⟩)), (11, (.slice Z1 m1.length cz1)), (12, .int .i64 (i1 : Int)), (13, .pointer (some ⟨b3, 0, none⟩)), (14, .pointer (some ⟨b4, 0, none⟩)), (35, .slice A1 l1.length c1), (36, .int .i64 (l1.length : Int)), (37, .int .i64 (i1 : Int))] w22 ?_ a hF
        refine we_orders (by kernel_rfl) [⟨b3, 0, none⟩, ⟨b3, 1, none⟩, ⟨b4, 3, none⟩, ⟨b4, 6, none⟩, ⟨blkOf A2, offOf A2 + i1 * 1, none⟩, ⟨blkOf A3, offOf A3 + i1 * 1, none⟩] (.vals [0] (.vals [1] (.vals [2] (.vals [3] (.vals [4] (.vals [5] (.vals [6] (.vals [7] (.vals [8] (.vals [9] (.vals [10] (.vals [11] (.vals [12] (.vals [13] (.vals [14] (.vals [15] (.vals [16] (.vals [17] (.vals [18] (.vals [19] (.vals [20] (.vals [21] (.alt 22 1 (.alt 23 2 (.vals [24] .fin) .nomore) .nomore))))))))))))))))))))))) (by kernel_rfl) ?_
        have hS66 := hS65.drew
        refine go_batch [0, 1, 2, 3, 4, 5, 6] (ans := [.val (.int .i64 e1.Task), .val (.int .i64 e1.At)]) (vs := [(85, .int .i64 (i1 : Int)), (84, .slice A2 l2.length c2), (83, .int .i64 e1.At), (82, .pointer (some ⟨b3, 1, none⟩)), (81, .int .i64 e1.Task), (80, .pointer (some ⟨b3, 0, none⟩)), (79, (.slice Z1 m1.length cz1))]) (l := [.loaded ⟨b3, 0, none⟩ (.int .i64 e1.Task), .loaded ⟨b3, 1, none⟩ (.int .i64 e1.At)]) (by kernel_rfl) ⟨hS66.cell 1 rfl rfl, hS66.cell 1 rfl rfl, trivial⟩ (by simp [didAddrs]) ?_
        rcases hx9 : l2[i1]? with _ | e5
        · rw [hx9] at h; cases h
        rw [hx9] at h
        simp only [] at h
        refine go_index (d := 86) (ty := 0) (t := 23) (el := 3) (sz := 1) (m := l2.length) (c := c2) (x := (.tmp 84)) (y := (.tmp 85)) (A := A2) (k' := .i64) (j := (i1 : Int)) (jn := i1) (b0 := blkOf A2) (o0 := offOf A2) (by kernel_rfl) (by kernel_rfl) (by kernel_rfl) (by kernel_rfl) (by kernel_rfl) ((hS66.rd hR2).eqSome (pos_of_get hx9)) rfl (lt_of_get hx9) ?_
        refine go_batch [8, 9, 10, 11] (ans := [.val (.int .i64 e5)]) (vs := [(90, .int .i64 (i1 : Int)), (89, .slice A3 l3.length c3), (88, .int .i64 (IntKind.i64.wrap (e1.At + e5))), (87, .int .i64 e5)]) (l := [.loaded ⟨blkOf A2, offOf A2 + i1 * 1, none⟩ (.int .i64 e5)]) (by kernel_rfl) ⟨RdL.cell (j := 0) (hS66.rd hR2) hx9 rfl, trivial⟩ (by simp [didAddrs]) ?_
        rcases hx10 : l3[i1]? with _ | e6
        · rw [hx10] at h; cases h
        rw [hx10] at h
        simp only [] at h
        refine go_index (d := 91) (ty := 0) (t := 23) (el := 3) (sz := 1) (m := l3.length) (c := c3) (x := (.tmp 89)) (y := (.tmp 90)) (A := A3) (k' := .i64) (j := (i1 : Int)) (jn := i1) (b0 := blkOf A3) (o0 := offOf A3) (by kernel_rfl) (by kernel_rfl) (by kernel_rfl) (by kernel_rfl) (by kernel_rfl) ((hS66.rd hR3).eqSome (pos_of_get hx10)) rfl (lt_of_get hx10) ?_
        refine go_batch [13, 14, 15, 16, 17, 18, 19, 20, 21] (ans := [.val (.int .i64 e6), .val (.int .i64 e1.At), .val (.int .i64 e2.D), .val (.int .i64 e2.P)]) (vs := [(100, .agg #[.int .i64 e1.Task, .int .i64 (IntKind.i64.wrap (e1.At + e5)), .int .i64 e6, .int .i64 (IntKind.i64.wrap (e1.At + e2.D)), .int .i64 e2.P]), (99, .int .i64 e2.P), (98, .pointer (some ⟨b4, 6, none⟩)), (97, .int .i64 (IntKind.i64.wrap (e1.At + e2.D))), (96, .int .i64 e2.D), (95, .pointer (some ⟨b4, 3, none⟩)), (94, .int .i64 e1.At), (93, .pointer (some ⟨b3, 1, none⟩)), (92, .int .i64 e6)]) (l := [.loaded ⟨blkOf A3, offOf A3 + i1 * 1, none⟩ (.int .i64 e6), .loaded ⟨b3, 1, none⟩ (.int .i64 e1.At), .loaded ⟨b4, 3, none⟩ (.int .i64 e2.D), .loaded ⟨b4, 6, none⟩ (.int .i64 e2.P)]) (by kernel_rfl) ⟨RdL.cell (j := 0) (hS66.rd hR3) hx10 rfl, hS66.cell 1 rfl rfl, hS66.cell 0 rfl rfl, hS66.cell 0 rfl rfl, trivial⟩ (by simp [didAddrs]) ?_
        refine go_alt (fun K hK => ?_) ?_
        · refine ge_one2 ?_
          refine ge_new (d := some 101) (o := .cells #[.int .i64 e1.Task, .int .i64 (IntKind.i64.wrap (e1.At + e5)), .int .i64 e6, .int .i64 (IntKind.i64.wrap (e1.At + e2.D)), .int .i64 e2.P] 30) (v := fun b => .slice (some ⟨b, 0, none⟩) 1 1) hS66 (fun b => by kernel_rfl) fun b5 w23 hx11 hS67 => ?_
          refine ge_nil fun a hF => hK _ _ (RS.of (l := [.loaded ⟨b3, 0, none⟩ (.int .i64 e1.Task), .loaded ⟨b3, 1, none⟩ (.int .i64 e1.At), .loaded ⟨b4, 3, none⟩ (.int .i64 e2.D), .loaded ⟨b4, 6, none⟩ (.int .i64 e2.P), .loaded ⟨blkOf A2, offOf A2 + i1 * 1, none⟩ (.int .i64 e5), .loaded ⟨blkOf A3, offOf A3 + i1 * 1, none⟩ (.int .i64 e6)]) ⟨hS66.cell 1 rfl rfl, hS66.cell 1 rfl rfl, hS66.cell 0 rfl rfl, hS66.cell 0 rfl rfl, RdL.cell (j := 0) (hS66.rd hR2) hx9 rfl, RdL.cell (j := 0) (hS66.rd hR3) hx10 rfl, trivial⟩ ⟨hS67.cell 2 rfl rfl, hS67.cell 2 rfl rfl, hS67.cell 1 rfl rfl, hS67.cell 1 rfl rfl, RdL.cell (j := 0) (hS67.rd hR2) hx9 rfl, RdL.cell (j := 0) (hS67.rd hR3) hx10 rfl, trivial⟩) ?_ a hF
          refine go_alt (fun K hK => ?_) ?_
          · have hS68 := hS67.bring 4 rfl
            by_cases hc10 : m1.length < 3518437208883
            · rw [if_pos hc10] at h
              refine ge_append (α := SJob) (m := 0) (d := 102) (t := 22) (el := 30) (bytes := 40) (c1 := 1) (b1 := b5) (x := (.tmp 79)) (y := (.tmp 101)) (ty := 22) (v := (.slice Z1 m1.length cz1)) (z := .agg #[.int .i64 0, .int .i64 0, .int .i64 0, .int .i64 0, .int .i64 0]) (l := m1) (u := (⟨e1.Task, IntKind.i64.wrap (e1.At + e5), e6, IntKind.i64.wrap (e1.At + e2.D), e2.P⟩ : SJob)) (by kernel_rfl) (by kernel_rfl) (by kernel_rfl) (by kernel_rfl) (by kernel_rfl) rfl hS68 rfl (by omega) fun v3 w24 hS69 => ?_
              refine ge_nil fun a hF => hK _ _ (RS.of (l := [.loaded ⟨b3, 0, none⟩ (.int .i64 e1.Task), .loaded ⟨b3, 1, none⟩ (.int .i64 e1.At), .loaded ⟨b4, 3, none⟩ (.int .i64 e2.D), .loaded ⟨b4, 6, none⟩ (.int .i64 e2.P), .loaded ⟨blkOf A2, offOf A2 + i1 * 1, none⟩ (.int .i64 e5), .loaded ⟨blkOf A3, offOf A3 + i1 * 1, none⟩ (.int .i64 e6)]) ⟨hS67.cell 2 rfl rfl, hS67.cell 2 rfl rfl, hS67.cell 1 rfl rfl, hS67.cell 1 rfl rfl, RdL.cell (j := 0) (hS67.rd hR2) hx9 rfl, RdL.cell (j := 0) (hS67.rd hR3) hx10 rfl, trivial⟩ ⟨hS69.cell 2 rfl rfl, hS69.cell 2 rfl rfl, hS69.cell 1 rfl rfl, hS69.cell 1 rfl rfl, RdL.cell (j := 0) (hS69.rd hR2) hx9 rfl, RdL.cell (j := 0) (hS69.rd hR3) hx10 rfl, trivial⟩) ?_ a hF
              refine go_batch [24] (ans := []) (vs := [(11, v3)]) (l := []) (by kernel_rfl) trivial (by simp [didAddrs]) ?_
              refine go_fin fun a hF => hK14 _ _ ?_ a hF
              refine we_region [(0, 0), (1, 0)] rfl ?_
              refine ge_addn (d := 103) (ty := 3) (x := (.tmp 37)) (y := (.const (.int .i64 1))) (t := 3) (t2 := 3) (k := .i64) (m := i1) (by kernel_rfl) (by kernel_rfl) (by kernel_rfl) (by have h0 := hR1.small; omega) ?_
              refine ge_batch [1] (ans := []) (vs := [(37, .int .i64 ((i1 + 1 : Nat) : Int))]) (l := []) (by kernel_rfl) trivial ?_
              have hS70 := hS69.bring 3 rfl
              have hS71 := hS70.takeN 2
              obtain rfl := Option.some.inj h
              exact ge_nil fun a hF => hQ _ _ _ (Outs.again ⟨v3, hS71, hF.weaken ⟨by kernel_rfl, by kernel_rfl, by kernel_rfl, by kernel_rfl, by kernel_rfl, by kernel_rfl, by kernel_rfl, by kernel_rfl, trivial⟩⟩)
            · rw [if_neg hc10] at h
              cases h
          exact go_nomore
        exact go_nomore
      · rw [hq9] at h
        simp only [] at h
        refine we_keep (e' := [(0, .slice A0 l0.length c0), (2, .slice A2 l2.length c2), (3, .slice A3 l3.length c3), (9, .pointer (some ⟨b1, 0, none⟩)), (11, (.slice Z1 m1.length cz1)), (12, .int .i64 (i1 : Int)), (13, .pointer (some ⟨b3, 0, none⟩)), (14, .pointer (some ⟨b4, 0, none⟩)), (35, .slice A1 l1.length c1), (36, .int .i64 (l1.length : Int)), (37, .int .i64 (i1 : Int)), (38, .bool true), (39, .int .i64 (i1 : Int)), (40, .pointer (some ⟨blkOf A1, offOf A1 + i1 * 2, none⟩)), (41, .agg #[.int .i64 e1.Task, .int .i64 e1.At]), (42, .slice A0 l0.length c0), (43, .pointer (some ⟨b3, 0, none⟩)), (44, .int .i64 e1.Task), (45, .pointer (some ⟨blkOf A0, offOf A0 + (e1.Task).toNat * 7, none⟩)), (46, .agg #[.string e2.Name, .int .i64 e2.C, .int .i64 e2.T, .int .i64 e2.D, .int .i64 e2.J, .int .i64 e2.O, .int .i64 e2.P])]) ⟨by kernel_rfl, by kernel_rfl, by kernel_rfl, by kernel_rfl, by kernel_rfl, by kernel_rfl, by kernel_rfl, by kernel_rfl, by kernel_rfl, by kernel_rfl, by kernel_rfl, by kernel_rfl, by kernel_rfl, by kernel_rfl, by kernel_rfl, by kernel_rfl, by kernel_rfl, by kernel_rfl, by kernel_rfl, by kernel_rfl, trivial⟩ (punctualref_JobsOf_p2 K w0 l0 A0 c0 l1 A1 c1 l2 A2 c2 l3 A3 c3 hR0 hL0 hR1 hL1 hR2 hL2 hR3 hL3 b1 r1 b2 hc1 m1 i1 hc4 e1 hx3 b3 hc5 e2 hx5 b4 Z1 cz1 _ hq9 _ hS31 _ ?_)
        rintro _ a w1 ⟨_, rfl, hb⟩
        obtain rfl := Option.some.inj h
        exact hQ _ _ _ (Outs.out nofun (Exits.on ⟨rfl, hb⟩))
    · rw [if_neg hc5] at h
      cases h
  · rw [if_neg hc4] at h
    refine we_known (t := 38) (b := decide ((i1 : Int) < (l1.length : Int))) (v := false) (by kernel_rfl) (decide_eq_false hc4) ?_
    refine we_false (by kernel_rfl) ?_
    have hS72 := hS.bring 1 rfl
    have hS73 := hS72.bring 1 rfl
    obtain rfl := Option.some.inj h
    exact we_exit fun a hF => hQ _ _ _ (Outs.out nofun (Exits.here ⟨v1, hS73, hF.weaken ⟨by kernel_rfl, by kernel_rfl, trivial⟩⟩))
theorem punctualref_JobsOf_ok (K : Nat) (l0 : List STask) (A0 : Option Addr) (c0 : Nat) (l1 : List SCome) (A1 : Option Addr) (c1 : Nat) (l2 : List Int) (A2 : Option Addr) (c2 : Nat) (l3 : List Int) (A3 : Option Addr) (c3 : Nat) (w0 : World) (hR0 : RdL w0 A0 l0) (hL0 : l0.length ≤ c0) (hR1 : RdL w0 A1 l1) (hL1 : l1.length ≤ c1) (hR2 : RdL w0 A2 l2) (hL2 : l2.length ≤ c2) (hR3 : RdL w0 A3 l3) (hL3 : l3.length ≤ c3) (r : (List SJob) × SFault) (h : punctualref_JobsOf.f K l0 l1 l2 l3 = some r) :
    Calls Tryd.prog 27 #[.slice A0 l0.length c0, .slice A1 l1.length c1, .slice A2 l2.length c2, .slice A3 l3.length c3] w0 (punctualref_JobsOf.Post w0 r) := by
  have hS := St.start w0
  unfold punctualref_JobsOf.f at h
  refine calls_enter (n := 106) (args := [.slice A0 l0.length c0, .slice A1 l1.length c1, .slice A2 l2.length c2, .slice A3 l3.length c3]) (fn := Tryd.f27) rfl rfl rfl rfl ?_
  show WE _ _ _ _ [(0, .slice A0 l0.length c0), (1, .slice A1 l1.length c1), (2, .slice A2 l2.length c2), (3, .slice A3 l3.length c3)] _
  refine we_seq fun K1 hK1 => ?_
  refine we_region [(0, 0), (1, 1)] rfl ?_
  refine ge_batch [0] (ans := []) (vs := [(8, .slice none 0 0)]) (l := []) (by kernel_rfl) trivial ?_
  refine ge_new (d := some 9) (o := .cells #[.int .i64 0, .int .i64 0] 26) (v := fun b => .pointer (some ⟨b, 0, none⟩)) hS (fun b => by kernel_rfl) fun b1 w1 hx1 hS1 => ?_
  refine ge_nil fun a hF => hK1 _ _ ?_ a hF
  refine we_seq fun K2 hK2 => ?_
  refine we_seq fun K3 hK3 => ?_
  refine we_region [(0, 0), (1, 0), (2, 1), (3, 1), (4, 2)] rfl ?_
  rcases hq1 : punctualref_Lawful.f K l0 l1 with _ | r1
  · rw [hq1] at h; cases h
  rw [hq1] at h
  simp only [] at h
  refine ge_batch [0, 1] (ans := []) (vs := [(16, .slice A1 l1.length c1), (15, .slice A0 l0.length c0)]) (l := []) (by kernel_rfl) trivial ?_
  refine ge_call (d := some 17) (f := 49) (args := #[.slice A0 l0.length c0, .slice A1 l1.length c1]) (by kernel_rfl) (punctualref_Lawful_ok K l0 A0 c0 l1 A1 c1 _ (hS1.rd hR0) hL0 (hS1.rd hR1) hL1 _ hq1) ?_
  rintro _ w2 ⟨rfl, hS2⟩
  refine ⟨_, rfl, hS2.below, ?_⟩
  have hS3 := hS1.call hS2
  refine ge_new (d := some 10) (o := .cells #[.int .i64 0, .int .i64 0] 26) (v := fun b => .pointer (some ⟨b, 0, none⟩)) hS3 (fun b => by kernel_rfl) fun b2 w3 hx2 hS4 => ?_
  refine ge_set (b := b2) (j := 0) (cs := #[.int .i64 0, .int .i64 0]) (t := 26) (vs := [.int .i64 r1.Code, .int .i64 r1.At]) hS4 (by kernel_rfl) rfl rfl fun w4 hS5 => ?_
  have hS6 : St w0 w4 [Own.blk b2 (.cells #[.int .i64 r1.Code, .int .i64 r1.At] 26 (0, 0)), Own.blk b1 (.cells #[.int .i64 0, .int .i64 0] 26 (0, 0))] := hS5
  refine ge_nil fun a hF => hK3 _ _ ?_ a hF
  refine we_seq fun K4 hK4 => ?_
  refine we_region [(0, 0), (1, 0), (2, 0)] rfl ?_
  refine ge_batch [0, 1, 2] (ans := [.val (.int .i64 r1.Code)]) (vs := [(20, .bool (r1.Code != 0)), (19, .int .i64 r1.Code), (18, .pointer (some ⟨b2, 0, none⟩))]) (l := [.loaded ⟨b2, 0, none⟩ (.int .i64 r1.Code)]) (by kernel_rfl) ⟨hS6.cell 0 rfl rfl, trivial⟩ ?_
  refine ge_nil fun a hF => hK4 _ _ ?_ a hF
  by_cases hc1 : r1.Code = 0
  · rw [if_pos hc1] at h
    refine we_known (t := 20) (b := (r1.Code != 0)) (v := false) (by kernel_rfl) (bne_eq_false_iff_eq.2 hc1) ?_
    refine we_false (by kernel_rfl) ?_
    refine we_skip fun a hF => hK2 _ _ ?_ a hF
    refine we_seq fun K5 hK5 => ?_
    rcases hq4 : punctualref_JobsOf.p0 l1 l2 l3 with _ | (_ | rr3)
    · rw [hq4] at h; cases h
    · rw [hq4] at h
      simp only [] at h
      refine we_keep (e' := [(0, .slice A0 l0.length c0), (1, .slice A1 l1.length c1), (2, .slice A2 l2.length c2), (3, .slice A3 l3.length c3), (8, .slice none 0 0), (9, .pointer (some ⟨b1, 0, none⟩)), (10, .pointer (some ⟨b2, 0, none⟩)), (15, .slice A0 l0.length c0), (16, .slice A1 l1.length c1), (17, .agg #[.int .i64 r1.Code, .int .i64 r1.At]), (18, .pointer (some ⟨b2, 0, none⟩)), (19, .int .i64 r1.Code), (20, .bool false)]) ⟨by kernel_rfl, by kernel_rfl, by kernel_rfl, by kernel_rfl, by kernel_rfl, by kernel_rfl, by kernel_rfl, by kernel_rfl, by kernel_rfl, by kernel_rfl, by kernel_rfl, by kernel_rfl, by kernel_rfl, trivial⟩ (punctualref_JobsOf_p0 K w0 l0 A0 c0 l1 A1 c1 l2 A2 c2 l3 A3 c3 hR0 hL0 hR1 hL1 hR2 hL2 hR3 hL3 b1 r1 b2 hc1 _ hq4 _ hS6 _ ?_)
      rintro _ a w9 ⟨rfl, hS23, hF⟩
      replace hS23 : St w0 w9 [Own.blk b1 (.cells #[.int .i64 0, .int .i64 0] 26 (0, 0))] := hS23
      refine hK5 [(0, .slice A0 l0.length c0), (1, .slice A1 l1.length c1), (2, .slice A2 l2.length c2), (3, .slice A3 l3.length c3), (9, .pointer (some ⟨b1, 0, none⟩))] w9 ?_ a hF
      refine we_seq fun K9 hK9 => ?_
      refine we_region [(0, 0)] rfl ?_
      refine ge_batch [0] (ans := []) (vs := [(11, .slice none 0 0)]) (l := []) (by kernel_rfl) trivial ?_
      refine ge_nil fun a hF => hK9 _ _ ?_ a hF
      refine we_seq fun K10 hK10 => ?_
      refine we_seq fun K11 hK11 => ?_
      refine we_region [(0, 0), (1, 0), (2, 0)] rfl ?_
      refine ge_batch [0, 1, 2] (ans := []) (vs := [(37, .int .i64 0), (36, .int .i64 (l1.length : Int)), (35, .slice A1 l1.length c1)]) (l := []) (by kernel_rfl) trivial ?_
      refine ge_nil fun a hF => hK11 _ _ ?_ a hF
      refine we_block ?_
      have hS24 := hS23.nil (α := SJob) 30
      have hS25 := hS24.bring 1 rfl
      rcases hq10 : iter (punctualref_JobsOf.r1 l0 l1 l2 l3) K (([] : List SJob), 0) with _ | (m3 | rr2)
      · rw [hq10] at h; cases h
      · rw [hq10] at h
        simp only [] at h
        refine we_iter (A := punctualref_JobsOf.A1 K w0 l0 A0 c0 l1 A1 c1 l2 A2 c2 l3 A3 c3 hR0 hL0 hR1 hL1 hR2 hL2 hR3 hL3 b1 r1 b2 hc1) (B := punctualref_JobsOf.B1 K w0 l0 A0 c0 l1 A1 c1 l2 A2 c2 l3 A3 c3 hR0 hL0 hR1 hL1 hR2 hL2 hR3 hL3 b1 r1 b2 hc1) hq10 (fun a hF => ⟨(.slice none 0 0), hS25, hF.weaken ⟨by kernel_rfl, by kernel_rfl, by kernel_rfl, by kernel_rfl, by kernel_rfl, by kernel_rfl, by kernel_rfl, by kernel_rfl, trivial⟩⟩) (fun s o hf a w hA Q hQ => punctualref_JobsOf_r1 K w0 l0 A0 c0 l1 A1 c1 l2 A2 c2 l3 A3 c3 hR0 hL0 hR1 hL1 hR2 hL2 hR3 hL3 b1 r1 b2 hc1 s o hf a w hA Q hQ) ?_
        rintro _ a w25 _ ⟨rfl, v4, hS74, hF⟩
        replace hS74 : St w0 w25 [Own.blk b1 (.cells #[.int .i64 0, .int .i64 0] 26 (0, 0)), Own.of v4 30 m3] := hS74
        refine hK10 [(9, .pointer (some ⟨b1, 0, none⟩)), (11, v4)] w25 ?_ a hF
        refine we_seq fun K23 hK23 => ?_
        refine we_region [(0, 0), (1, 0), (2, 0), (3, 2)] rfl ?_
        refine ge_batch [0, 1, 2] (ans := []) (vs := [(8, v4), (105, .agg #[.int .i64 0, .int .i64 0]), (104, v4)]) (l := []) (by kernel_rfl) trivial ?_
        refine ge_set (b := b1) (j := 0) (cs := #[.int .i64 0, .int .i64 0]) (t := 26) (vs := [.int .i64 0, .int .i64 0]) hS74 (by kernel_rfl) rfl rfl fun w26 hS75 => ?_
        have hS76 : St w0 w26 [Own.blk b1 (.cells #[.int .i64 0, .int .i64 0] 26 (0, 0)), Own.of v4 30 m3] := hS75
        refine ge_nil fun a hF => hK23 _ _ ?_ a hF
        have hS77 := hS76.bring 1 rfl
        have hS78 := hS77.takeN 1
        obtain rfl := Option.some.inj h
        exact we_ret (post_ret (rs := [.tmp 8, .cell 9 26]) (ans := [.val (.int .i64 0), .val (.int .i64 0)]) (vs := [v4, .agg #[.int .i64 0, .int .i64 0]]) (l := [.loaded ⟨b1, 0, none⟩ (.int .i64 0), .loaded ⟨b1, 1, none⟩ (.int .i64 0)]) rfl (by kernel_rfl) ⟨hS76.cell 0 rfl rfl, hS76.cell 0 rfl rfl, trivial⟩ ⟨v4, rfl, hS78⟩)
      · rw [hq10] at h
        simp only [] at h
        refine we_iter (A := punctualref_JobsOf.A1 K w0 l0 A0 c0 l1 A1 c1 l2 A2 c2 l3 A3 c3 hR0 hL0 hR1 hL1 hR2 hL2 hR3 hL3 b1 r1 b2 hc1) (B := punctualref_JobsOf.B1 K w0 l0 A0 c0 l1 A1 c1 l2 A2 c2 l3 A3 c3 hR0 hL0 hR1 hL1 hR2 hL2 hR3 hL3 b1 r1 b2 hc1) hq10 (fun a hF => ⟨(.slice none 0 0), hS25, hF.weaken ⟨by kernel_rfl, by kernel_rfl, by kernel_rfl, by kernel_rfl, by kernel_rfl, by kernel_rfl, by kernel_rfl, by kernel_rfl, trivial⟩⟩) (fun s o hf a w hA Q hQ => punctualref_JobsOf_r1 K w0 l0 A0 c0 l1 A1 c1 l2 A2 c2 l3 A3 c3 hR0 hL0 hR1 hL1 hR2 hL2 hR3 hL3 b1 r1 b2 hc1 s o hf a w hA Q hQ) ?_
        rintro _ a w1 _ ⟨rfl, hb⟩
        obtain rfl := Option.some.inj h
        exact hb
    · rw [hq4] at h
      simp only [] at h
      refine we_keep (e' := [(0, .slice A0 l0.length c0), (1, .slice A1 l1.length c1), (2, .slice A2 l2.length c2), (3, .slice A3 l3.length c3), (8, .slice none 0 0), (9, .pointer (some ⟨b1, 0, none⟩)), (10, .pointer (some ⟨b2, 0, none⟩)), (15, .slice A0 l0.length c0), (16, .slice A1 l1.length c1), (17, .agg #[.int .i64 r1.Code, .int .i64 r1.At]), (18, .pointer (some ⟨b2, 0, none⟩)), (19, .int .i64 r1.Code), (20, .bool false)]) ⟨by kernel_rfl, by kernel_rfl, by kernel_rfl, by kernel_rfl, by kernel_rfl, by kernel_rfl, by kernel_rfl, by kernel_rfl, by kernel_rfl, by kernel_rfl, by kernel_rfl, by kernel_rfl, by kernel_rfl, trivial⟩ (punctualref_JobsOf_p0 K w0 l0 A0 c0 l1 A1 c1 l2 A2 c2 l3 A3 c3 hR0 hL0 hR1 hL1 hR2 hL2 hR3 hL3 b1 r1 b2 hc1 _ hq4 _ hS6 _ ?_)
      rintro _ a w1 ⟨_, rfl, hb⟩
      obtain rfl := Option.some.inj h
      exact hb
  · rw [if_neg hc1] at h
    refine we_known (t := 20) (b := (r1.Code != 0)) (v := true) (by kernel_rfl) (bne_iff_ne.2 hc1) ?_
    refine we_true (by kernel_rfl) ?_
    refine we_seq fun K24 hK24 => ?_
    refine we_draws (by kernel_rfl) [(0, 0), (1, 0), (2, 2)] (by kernel_rfl) ?_
    have hS79 := hS6.drew
    refine ge_batch [0, 1] (ans := [.val (.int .i64 r1.Code), .val (.int .i64 r1.At)]) (vs := [(8, .slice none 0 0), (21, .agg #[.int .i64 r1.Code, .int .i64 r1.At])]) (l := [.loaded ⟨b2, 0, none⟩ (.int .i64 r1.Code), .loaded ⟨b2, 1, none⟩ (.int .i64 r1.At)]) (by kernel_rfl) ⟨hS79.cell 0 rfl rfl, hS79.cell 0 rfl rfl, trivial⟩ ?_
    have hS80 := hS79.bring 1 rfl
    refine ge_set (b := b1) (j := 0) (cs := #[.int .i64 0, .int .i64 0]) (t := 26) (vs := [.int .i64 r1.Code, .int .i64 r1.At]) hS80 (by kernel_rfl) rfl rfl fun w27 hS81 => ?_
    have hS82 : St w0 w27 [Own.blk b1 (.cells #[.int .i64 r1.Code, .int .i64 r1.At] 26 (0, 0)), Own.blk b2 (.cells #[.int .i64 r1.Code, .int .i64 r1.At] 26 (0, 0))] := hS81
    refine ge_nil fun a hF => hK24 _ _ ?_ a hF
    have hS83 := hS82.nil (α := SJob) 30
    have hS84 := hS83.takeN 1
    obtain rfl := Option.some.inj h
    exact we_ret (post_ret (rs := [.tmp 8, .cell 9 26]) (ans := [.val (.int .i64 r1.Code), .val (.int .i64 r1.At)]) (vs := [(.slice none 0 0), .agg #[.int .i64 r1.Code, .int .i64 r1.At]]) (l := [.loaded ⟨b1, 0, none⟩ (.int .i64 r1.Code), .loaded ⟨b1, 1, none⟩ (.int .i64 r1.At)]) rfl (by kernel_rfl) ⟨hS83.cell 1 rfl rfl, hS83.cell 1 rfl rfl, trivial⟩ ⟨(.slice none 0 0), rfl, hS84⟩)
end Go.Proofs.YtlipdmblinjjaaaDoor.GV
