/- Walks of single functions, written by a program of this work. -/
import Derived.Test.YtccfilmiboepjaaDoorGWLocksChecks1
namespace Go.Proofs.YtccfilmiboepjaaDoor.GV
open Go Go.RowKit
set_option linter.unusedVariables false
set_option linter.unusedSimpArgs false
set_option maxRecDepth 100000

/-! punctual/punctualref.CheckActs -/
abbrev punctualref_CheckActs.Post (w0 : World) (r : SFault) (e : Ending) (w : World) : Prop := e = .returned (.agg #[.int .i64 r.Code, .int .i64 r.At]) ∧ St w0 w []
def punctualref_CheckActs.p1 (i1 : Nat) (e1 : SAct) : Option (Unit ⊕ SFault) :=
    if e1.N < 0 then
      some (.inr (punctualref_F.f 3 (i1 : Int)))
    else
      if e1.N > 3 then
        some (.inr (punctualref_F.f 3 (i1 : Int)))
      else
        some (.inl ())
def punctualref_CheckActs.r2 (t1 : ByteArray) (i1 : Nat) (e1 : SAct) : Int → Option (Int ⊕ (Unit ⊕ SFault))
  | z1 =>
    if z1 < (t1.size : Int) then
      if 0 ≤ z1 then
        match t1[(z1).toNat]? with
        | none => none
        | some b3 =>
          if (IntKind.i64.wrap (b3.toNat : Int)) = e1.N then
            some (.inr (.inr (punctualref_F.f 5 (i1 : Int))))
          else
            some (.inl (IntKind.i64.wrap (z1 + 1)))
      else
        none
    else
      some (.inr (.inl ()))
def punctualref_CheckActs.r0 (K : Nat) (l0 : List SAct) : ByteArray × Nat → Option ((ByteArray × Nat) ⊕ (ByteArray ⊕ SFault))
  | (t1, i1) =>
    if (i1 : Int) < (l0.length : Int) then
      match l0[i1]? with
      | none => none
      | some e1 =>
        if e1.Do = 1 then
          if e1.N < 1 then
            some (.inr (.inr (punctualref_F.f 3 (i1 : Int))))
          else
            if e1.N > 1000 then
              some (.inr (.inr (punctualref_F.f 3 (i1 : Int))))
            else
              some (.inl (t1, (i1 + 1)))
        else
          if e1.Do = 2 then
            match punctualref_CheckActs.p1 i1 e1 with
            | none => none
            | some (.inl _) =>
              match iter (punctualref_CheckActs.r2 t1 i1 e1) K 0 with
              | none => none
              | some (.inl _) =>
                if t1.size + (ByteArray.empty.push (UInt8.ofNat (IntKind.u8.wrap e1.N).toNat)).size ≤ 9223372036854775807 then
                  some (.inl ((t1 ++ (ByteArray.empty.push (UInt8.ofNat (IntKind.u8.wrap e1.N).toNat))), (i1 + 1)))
                else
                  none
              | some (.inr rr1) =>
                some (.inr (.inr rr1))
            | some (.inr rr2) =>
              some (.inr (.inr rr2))
          else
            if e1.Do = 3 then
              if t1.toList = (⟨#[]⟩ : ByteArray).toList then
                some (.inr (.inr (punctualref_F.f 10 (i1 : Int))))
              else
                if 0 ≤ (IntKind.i64.wrap ((t1.size : Int) - 1)) then
                  match t1[(IntKind.i64.wrap ((t1.size : Int) - 1)).toNat]? with
                  | none => none
                  | some b5 =>
                    if (IntKind.i64.wrap (b5.toNat : Int)) = e1.N then
                      if ((IntKind.i64.wrap ((t1.size : Int) - 1)).toNat) ≤ t1.size then
                        some (.inl ((t1.extract 0 ((IntKind.i64.wrap ((t1.size : Int) - 1)).toNat)), (i1 + 1)))
                      else
                        none
                    else
                      some (.inr (.inr (punctualref_F.f 10 (i1 : Int))))
                else
                  none
            else
              some (.inr (.inr (punctualref_F.f 6 (i1 : Int))))
    else
      some (.inr (.inl t1))
def punctualref_CheckActs.f (K : Nat) (l0 : List SAct) : Option SFault :=
  if (l0.length : Int) > 200 then
    some (punctualref_F.f 2 0)
  else
    match iter (punctualref_CheckActs.r0 K l0) K (⟨#[]⟩, 0) with
    | none => none
    | some (.inl t3) =>
      if t3.toList = (⟨#[]⟩ : ByteArray).toList then
        some (⟨0, 0⟩ : SFault)
      else
        some (punctualref_F.f 10 (l0.length : Int))
    | some (.inr rr3) =>
      some rr3
abbrev punctualref_CheckActs.A1 (K : Nat) (w0 : World) (l0 : List SAct) (A0 : Option Addr) (c0 : Nat) (hR0 : RdL w0 A0 l0) (hL0 : l0.length ≤ c0) (b1 : Nat) (hc1 : ¬ ((l0.length : Int) > 200)) (t1 : ByteArray) (i1 : Nat) (hc2 : (i1 : Int) < (l0.length : Int)) (e1 : SAct) (hx2 : l0[i1]? = some e1) (b2 : Nat) (hc3 : ¬ (e1.Do = 1)) (hc6 : e1.Do = 2) : Unit → Act → World → Prop := fun (s : Unit) a w => St w0 w [Own.blk b2 (.cells #[.int .i64 e1.Do, .int .i64 e1.N] 39 (0, 0)), Own.blk b1 (.cells #[.int .i64 0, .int .i64 0] 27 (0, 0))] ∧ Frm 97 a [(0, .slice A0 l0.length c0), (2, .pointer (some ⟨b1, 0, none⟩)), (3, .string t1), (4, .int .i64 (i1 : Int)), (5, .pointer (some ⟨b2, 0, none⟩)), (11, .slice A0 l0.length c0), (12, .int .i64 (l0.length : Int)), (13, .int .i64 (i1 : Int))]
abbrev punctualref_CheckActs.B1 (K : Nat) (w0 : World) (l0 : List SAct) (A0 : Option Addr) (c0 : Nat) (hR0 : RdL w0 A0 l0) (hL0 : l0.length ≤ c0) (b1 : Nat) (hc1 : ¬ ((l0.length : Int) > 200)) (t1 : ByteArray) (i1 : Nat) (hc2 : (i1 : Int) < (l0.length : Int)) (e1 : SAct) (hx2 : l0[i1]? = some e1) (b2 : Nat) (hc3 : ¬ (e1.Do = 1)) (hc6 : e1.Do = 2) : SFault → Exit → Act → World → Prop := Rets Tryd.prog Tryd.f16 (punctualref_CheckActs.Post w0)
theorem punctualref_CheckActs_p1 (K : Nat) (w0 : World) (l0 : List SAct) (A0 : Option Addr) (c0 : Nat) (hR0 : RdL w0 A0 l0) (hL0 : l0.length ≤ c0) (b1 : Nat) (hc1 : ¬ ((l0.length : Int) > 200)) (t1 : ByteArray) (i1 : Nat) (hc2 : (i1 : Int) < (l0.length : Int)) (e1 : SAct) (hx2 : l0[i1]? = some e1) (b2 : Nat) (hc3 : ¬ (e1.Do = 1)) (hc6 : e1.Do = 2) (o : Unit ⊕ SFault) (h : punctualref_CheckActs.p1 i1 e1 = some o) (w : World) (hS : St w0 w [Own.blk b2 (.cells #[.int .i64 e1.Do, .int .i64 e1.N] 39 (0, 0)), Own.blk b1 (.cells #[.int .i64 0, .int .i64 0] 27 (0, 0))]) (Q : Exit → Act → World → Prop) (hQ : ∀ x a w, Outs (punctualref_CheckActs.A1 K w0 l0 A0 c0 hR0 hL0 b1 hc1 t1 i1 hc2 e1 hx2 b2 hc3 hc6) (punctualref_CheckActs.B1 K w0 l0 A0 c0 hR0 hL0 b1 hc1 t1 i1 hc2 e1 hx2 b2 hc3 hc6) o x a w → Q x a w) : WE Tryd.prog 97 (subF Tryd.f16 [1, 1, 1, 0, 1, 0, 0, 1, 1, 0, 0, 1, 1, 0, 1, 1, 1, 0, 0]) Q [(0, .slice A0 l0.length c0), (2, .pointer (some ⟨b1, 0, none⟩)), (3, .string t1), (4, .int .i64 (i1 : Int)), (5, .pointer (some ⟨b2, 0, none⟩)), (11, .slice A0 l0.length c0), (12, .int .i64 (l0.length : Int)), (13, .int .i64 (i1 : Int)), (14, .bool true), (15, .int .i64 (i1 : Int)), (16, .pointer (some ⟨blkOf A0, offOf A0 + i1 * 2, none⟩)), (17, .agg #[.int .i64 e1.Do, .int .i64 e1.N]), (18, .pointer (some ⟨b2, 0, none⟩)), (19, .int .i64 e1.Do), (22, .bool false), (23, .bool (e1.Do == 1)), (34, .bool true), (35, .bool (e1.Do == 2))] w := by
  simp only [punctualref_CheckActs.p1] at h
  refine we_seq fun K19 hK19 => ?_
  refine we_region [(0, 0), (1, 0), (2, 0), (3, 0), (4, 0), (5, 0), (6, 0), (7, 0)] rfl ?_
  refine ge_batch [0, 1, 2, 3] (ans := [.val (.int .i64 e1.N)]) (vs := [(39, .bool (decide (e1.N < 0))), (38, .bool (decide (e1.N < 0))), (37, .int .i64 e1.N), (36, .pointer (some ⟨b2, 1, none⟩))]) (l := [.loaded ⟨b2, 1, none⟩ (.int .i64 e1.N)]) (by kernel_rfl) ⟨hS.cell 0 rfl rfl, trivial⟩ ?_
  by_cases hc7 : e1.N < 0
  · rw [if_pos hc7] at h
    refine ge_known (t := 39) (b := decide (e1.N < 0)) (c := true) (by kernel_rfl) (decide_eq_true hc7) ?_
    refine ge_batch [4, 5, 6, 7] (ans := []) (vs := [(43, .bool true), (42, undef), (41, undef), (40, undef)]) (l := []) (by kernel_rfl) trivial ?_
    refine ge_nil fun a hF => hK19 _ _ ?_ a hF
    refine we_true (by kernel_rfl) ?_
    refine we_seq fun K20 hK20 => ?_
    refine we_region [(0, 0), (1, 1), (2, 2)] rfl ?_
    refine ge_batch [0] (ans := []) (vs := [(44, .int .i64 (i1 : Int))]) (l := []) (by kernel_rfl) trivial ?_
    refine ge_call (d := some 45) (f := 61) (args := #[.int .i64 3, .int .i64 (i1 : Int)]) (by kernel_rfl) (punctualref_F_ok 3 (i1 : Int) _ _ rfl) ?_
    rintro _ w10 ⟨rfl, hS24⟩
    refine ⟨_, rfl, hS24.below, ?_⟩
    have hS25 := hS.call hS24
    have hS26 := hS25.bring 1 rfl
    refine ge_set (b := b1) (j := 0) (cs := #[.int .i64 0, .int .i64 0]) (t := 27) (vs := [.int .i64 ((punctualref_F.f 3 (i1 : Int)).Code), .int .i64 ((punctualref_F.f 3 (i1 : Int)).At)]) hS26 (by kernel_rfl) rfl rfl fun w11 hS27 => ?_
    have hS28 := hS27.nc #[.int .i64 ((punctualref_F.f 3 (i1 : Int)).Code), .int .i64 ((punctualref_F.f 3 (i1 : Int)).At)] rfl
    refine ge_nil fun a hF => hK20 _ _ ?_ a hF
    have hS29 := hS28.takeN 0
    obtain rfl := Option.some.inj h
    exact we_ret fun a hF => hQ _ _ _ (Outs.out nofun ⟨rfl, (post_ret (rs := [.cell 2 27]) (ans := [.val (.int .i64 ((punctualref_F.f 3 (i1 : Int)).Code)), .val (.int .i64 ((punctualref_F.f 3 (i1 : Int)).At))]) (vs := [.agg #[.int .i64 ((punctualref_F.f 3 (i1 : Int)).Code), .int .i64 ((punctualref_F.f 3 (i1 : Int)).At)]]) (l := [.loaded ⟨b1, 0, none⟩ (.int .i64 ((punctualref_F.f 3 (i1 : Int)).Code)), .loaded ⟨b1, 1, none⟩ (.int .i64 ((punctualref_F.f 3 (i1 : Int)).At))]) rfl (by kernel_rfl) ⟨hS28.cell 0 rfl rfl, hS28.cell 0 rfl rfl, trivial⟩ ⟨rfl, hS29⟩) a hF⟩)
  · rw [if_neg hc7] at h
    refine ge_known (t := 39) (b := decide (e1.N < 0)) (c := false) (by kernel_rfl) (decide_eq_false hc7) ?_
    refine ge_batch [4, 5, 6, 7] (ans := [.val (.int .i64 e1.N)]) (vs := [(43, .bool (decide (e1.N > 3))), (42, .bool (decide (e1.N > 3))), (41, .int .i64 e1.N), (40, .pointer (some ⟨b2, 1, none⟩))]) (l := [.loaded ⟨b2, 1, none⟩ (.int .i64 e1.N)]) (by kernel_rfl) ⟨hS.cell 0 rfl rfl, trivial⟩ ?_
    refine ge_nil fun a hF => hK19 _ _ ?_ a hF
    by_cases hc8 : e1.N > 3
    · rw [if_pos hc8] at h
      refine we_known (t := 43) (b := decide (e1.N > 3)) (v := true) (by kernel_rfl) (decide_eq_true hc8) ?_
      refine we_true (by kernel_rfl) ?_
      refine we_seq fun K21 hK21 => ?_
      refine we_region [(0, 0), (1, 1), (2, 2)] rfl ?_
      refine ge_batch [0] (ans := []) (vs := [(44, .int .i64 (i1 : Int))]) (l := []) (by kernel_rfl) trivial ?_
      refine ge_call (d := some 45) (f := 61) (args := #[.int .i64 3, .int .i64 (i1 : Int)]) (by kernel_rfl) (punctualref_F_ok 3 (i1 : Int) _ _ rfl) ?_
      rintro _ w12 ⟨rfl, hS30⟩
      refine ⟨_, rfl, hS30.below, ?_⟩
      have hS31 := hS.call hS30
      have hS32 := hS31.bring 1 rfl
      refine ge_set (b := b1) (j := 0) (cs := #[.int .i64 0, .int .i64 0]) (t := 27) (vs := [.int .i64 ((punctualref_F.f 3 (i1 : Int)).Code), .int .i64 ((punctualref_F.f 3 (i1 : Int)).At)]) hS32 (by kernel_rfl) rfl rfl fun w13 hS33 => ?_
      have hS34 := hS33.nc #[.int .i64 ((punctualref_F.f 3 (i1 : Int)).Code), .int .i64 ((punctualref_F.f 3 (i1 : Int)).At)] rfl
      refine ge_nil fun a hF => hK21 _ _ ?_ a hF
      have hS35 := hS34.takeN 0
      obtain rfl := Option.some.inj h
      exact we_ret fun a hF => hQ _ _ _ (Outs.out nofun ⟨rfl, (post_ret (rs := [.cell 2 27]) (ans := [.val (.int .i64 ((punctualref_F.f 3 (i1 : Int)).Code)), .val (.int .i64 ((punctualref_F.f 3 (i1 : Int)).At))]) (vs := [.agg #[.int .i64 ((punctualref_F.f 3 (i1 : Int)).Code), .int .i64 ((punctualref_F.f 3 (i1 : Int)).At)]]) (l := [.loaded ⟨b1, 0, none⟩ (.int .i64 ((punctualref_F.f 3 (i1 : Int)).Code)), .loaded ⟨b1, 1, none⟩ (.int .i64 ((punctualref_F.f 3 (i1 : Int)).At))]) rfl (by kernel_rfl) ⟨hS34.cell 0 rfl rfl, hS34.cell 0 rfl rfl, trivial⟩ ⟨rfl, hS35⟩) a hF⟩)
    · rw [if_neg hc8] at h
      refine we_known (t := 43) (b := decide (e1.N > 3)) (v := false) (by kernel_rfl) (decide_eq_false hc8) ?_
      refine we_false (by kernel_rfl) ?_
      have hS36 := hS.bring 1 rfl
      have hS37 := hS36.bring 1 rfl
      obtain rfl := Option.some.inj h
      exact we_skip fun a hF => hQ _ _ _ (Outs.again ⟨hS37, hF.weaken ⟨by kernel_rfl, by kernel_rfl, by kernel_rfl, by kernel_rfl, by kernel_rfl, by kernel_rfl, by kernel_rfl, by kernel_rfl, trivial⟩⟩)
abbrev punctualref_CheckActs.A2 (K : Nat) (w0 : World) (l0 : List SAct) (A0 : Option Addr) (c0 : Nat) (hR0 : RdL w0 A0 l0) (hL0 : l0.length ≤ c0) (b1 : Nat) (hc1 : ¬ ((l0.length : Int) > 200)) (t1 : ByteArray) (i1 : Nat) (hc2 : (i1 : Int) < (l0.length : Int)) (e1 : SAct) (hx2 : l0[i1]? = some e1) (b2 : Nat) (hc3 : ¬ (e1.Do = 1)) (hc6 : e1.Do = 2) : Int → Act → World → Prop := fun (s : Int) a w => St w0 w [Own.blk b2 (.cells #[.int .i64 e1.Do, .int .i64 e1.N] 39 (0, 0)), Own.blk b1 (.cells #[.int .i64 0, .int .i64 0] 27 (0, 0))] ∧ Frm 97 a [(0, .slice A0 l0.length c0), (2, .pointer (some ⟨b1, 0, none⟩)), (3, .string t1), (4, .int .i64 (i1 : Int)), (5, .pointer (some ⟨b2, 0, none⟩)), (6, .int .i64 s), (11, .slice A0 l0.length c0), (12, .int .i64 (l0.length : Int)), (13, .int .i64 (i1 : Int))]
abbrev punctualref_CheckActs.B2 (K : Nat) (w0 : World) (l0 : List SAct) (A0 : Option Addr) (c0 : Nat) (hR0 : RdL w0 A0 l0) (hL0 : l0.length ≤ c0) (b1 : Nat) (hc1 : ¬ ((l0.length : Int) > 200)) (t1 : ByteArray) (i1 : Nat) (hc2 : (i1 : Int) < (l0.length : Int)) (e1 : SAct) (hx2 : l0[i1]? = some e1) (b2 : Nat) (hc3 : ¬ (e1.Do = 1)) (hc6 : e1.Do = 2) : (Unit ⊕ SFault) → Exit → Act → World → Prop := Exits 3 (fun (s : Unit) a w => St w0 w [Own.blk b2 (.cells #[.int .i64 e1.Do, .int .i64 e1.N] 39 (0, 0)), Own.blk b1 (.cells #[.int .i64 0, .int .i64 0] 27 (0, 0))] ∧ Frm 97 a [(0, .slice A0 l0.length c0), (2, .pointer (some ⟨b1, 0, none⟩)), (3, .string t1), (5, .pointer (some ⟨b2, 0, none⟩)), (11, .slice A0 l0.length c0), (12, .int .i64 (l0.length : Int)), (13, .int .i64 (i1 : Int))]) (Rets Tryd.prog Tryd.f16 (punctualref_CheckActs.Post w0))
theorem punctualref_CheckActs_r2 (K : Nat) (w0 : World) (l0 : List SAct) (A0 : Option Addr) (c0 : Nat) (hR0 : RdL w0 A0 l0) (hL0 : l0.length ≤ c0) (b1 : Nat) (hc1 : ¬ ((l0.length : Int) > 200)) (t1 : ByteArray) (i1 : Nat) (hc2 : (i1 : Int) < (l0.length : Int)) (e1 : SAct) (hx2 : l0[i1]? = some e1) (b2 : Nat) (hc3 : ¬ (e1.Do = 1)) (hc6 : e1.Do = 2) (s : Int) (o : Int ⊕ (Unit ⊕ SFault)) (h : punctualref_CheckActs.r2 t1 i1 e1 s = some o) (a : Act) (w : World) (hA : punctualref_CheckActs.A2 K w0 l0 A0 c0 hR0 hL0 b1 hc1 t1 i1 hc2 e1 hx2 b2 hc3 hc6 s a w) (Q : Exit → Act → World → Prop) (hQ : ∀ x a w, Outs (punctualref_CheckActs.A2 K w0 l0 A0 c0 hR0 hL0 b1 hc1 t1 i1 hc2 e1 hx2 b2 hc3 hc6) (punctualref_CheckActs.B2 K w0 l0 A0 c0 hR0 hL0 b1 hc1 t1 i1 hc2 e1 hx2 b2 hc3 hc6) o x a w → Q x a w) : (subF Tryd.f16 [1, 1, 1, 0, 1, 0, 0, 1, 1, 0, 0, 1, 1, 0, 1, 1, 1, 0, 1, 0, 1, 0, 0]).wp Tryd.prog Q a w := by
  obtain ⟨z1, hs⟩ : ∃ z, z = s := ⟨s, rfl⟩
  subst hs
  obtain ⟨hS, hF⟩ := hA
  replace hS : St w0 w [Own.blk b2 (.cells #[.int .i64 e1.Do, .int .i64 e1.N] 39 (0, 0)), Own.blk b1 (.cells #[.int .i64 0, .int .i64 0] 27 (0, 0))] := hS
  simp only [punctualref_CheckActs.r2] at h
  refine (?_ : WE Tryd.prog 97 (subF Tryd.f16 [1, 1, 1, 0, 1, 0, 0, 1, 1, 0, 0, 1, 1, 0, 1, 1, 1, 0, 1, 0, 1, 0, 0]) Q [(0, .slice A0 l0.length c0), (2, .pointer (some ⟨b1, 0, none⟩)), (3, .string t1), (4, .int .i64 (i1 : Int)), (5, .pointer (some ⟨b2, 0, none⟩)), (6, .int .i64 z1), (11, .slice A0 l0.length c0), (12, .int .i64 (l0.length : Int)), (13, .int .i64 (i1 : Int))] w) a hF
  clear hF a
  refine we_seq fun K24 hK24 => ?_
  refine we_seq fun K25 hK25 => ?_
  refine we_region [(0, 0), (1, 0), (2, 0), (3, 0)] rfl ?_
  refine ge_batch [0, 1, 2, 3] (ans := []) (vs := [(49, .bool (decide (z1 < (t1.size : Int)))), (48, .int .i64 (t1.size : Int)), (47, .string t1), (46, .int .i64 z1)]) (l := []) (by kernel_rfl) trivial ?_
  refine ge_nil fun a hF => hK25 _ _ ?_ a hF
  by_cases hc9 : z1 < (t1.size : Int)
  · rw [if_pos hc9] at h
    refine we_known (t := 49) (b := decide (z1 < (t1.size : Int))) (v := true) (by kernel_rfl) (decide_eq_true hc9) ?_
    refine we_true (by kernel_rfl) ?_
    refine we_skip fun a hF => hK24 _ _ ?_ a hF
    refine we_seq fun K26 hK26 => ?_
    refine we_block ?_
    refine we_seq fun K27 hK27 => ?_
    refine we_draws (by kernel_rfl) [(0, 0), (1, 0), (2, 0), (3, 0), (4, 0), (5, 0), (6, 0)] (by kernel_rfl) ?_
    have hS41 := hS.drew
    refine ge_batch [0, 1] (ans := []) (vs := [(53, .int .i64 z1), (52, .string t1)]) (l := []) (by kernel_rfl) trivial ?_
    by_cases hc10 : 0 ≤ z1
    · rw [if_pos hc10] at h
      rcases hx4 : t1[(z1).toNat]? with _ | b3
      · rw [hx4] at h; cases h
      rw [hx4] at h
      simp only [] at h
      refine ge_letter (d := 54) (ty := 5) (t := 9) (x := (.tmp 52)) (y := (.tmp 53)) (k' := .i64) (j := z1) (jn := ((z1).toNat)) (s := t1) (b := b3) (by kernel_rfl) (by kernel_rfl) (by kernel_rfl) (by kernel_rfl) (Int.toNat_of_nonneg hc10).symm hx4 ?_
      refine ge_batch [3, 4, 5, 6] (ans := [.val (.int .i64 e1.N)]) (vs := [(58, .bool ((IntKind.i64.wrap (b3.toNat : Int)) == e1.N)), (57, .int .i64 e1.N), (56, .pointer (some ⟨b2, 1, none⟩)), (55, .int .i64 (IntKind.i64.wrap (b3.toNat : Int)))]) (l := [.loaded ⟨b2, 1, none⟩ (.int .i64 e1.N)]) (by kernel_rfl) ⟨hS41.cell 0 rfl rfl, trivial⟩ ?_
      refine ge_nil fun a hF => hK27 _ _ ?_ a hF
      by_cases hc11 : (IntKind.i64.wrap (b3.toNat : Int)) = e1.N
      · rw [if_pos hc11] at h
        refine we_known (t := 58) (b := ((IntKind.i64.wrap (b3.toNat : Int)) == e1.N)) (v := true) (by kernel_rfl) (beq_iff_eq.2 hc11) ?_
        refine we_true (by kernel_rfl) ?_
        refine we_seq fun K28 hK28 => ?_
        refine we_region [(0, 0), (1, 1), (2, 2)] rfl ?_
        refine ge_batch [0] (ans := []) (vs := [(59, .int .i64 (i1 : Int))]) (l := []) (by kernel_rfl) trivial ?_
        refine ge_call (d := some 60) (f := 61) (args := #[.int .i64 5, .int .i64 (i1 : Int)]) (by kernel_rfl) (punctualref_F_ok 5 (i1 : Int) _ _ rfl) ?_
        rintro _ w15 ⟨rfl, hS42⟩
        refine ⟨_, rfl, hS42.below, ?_⟩
        have hS43 := hS41.call hS42
        have hS44 := hS43.bring 1 rfl
        refine ge_set (b := b1) (j := 0) (cs := #[.int .i64 0, .int .i64 0]) (t := 27) (vs := [.int .i64 ((punctualref_F.f 5 (i1 : Int)).Code), .int .i64 ((punctualref_F.f 5 (i1 : Int)).At)]) hS44 (by kernel_rfl) rfl rfl fun w16 hS45 => ?_
        have hS46 := hS45.nc #[.int .i64 ((punctualref_F.f 5 (i1 : Int)).Code), .int .i64 ((punctualref_F.f 5 (i1 : Int)).At)] rfl
        refine ge_nil fun a hF => hK28 _ _ ?_ a hF
        have hS47 := hS46.takeN 0
        obtain rfl := Option.some.inj h
        exact we_ret fun a hF => hQ _ _ _ (Outs.out nofun (Exits.on ⟨rfl, (post_ret (rs := [.cell 2 27]) (ans := [.val (.int .i64 ((punctualref_F.f 5 (i1 : Int)).Code)), .val (.int .i64 ((punctualref_F.f 5 (i1 : Int)).At))]) (vs := [.agg #[.int .i64 ((punctualref_F.f 5 (i1 : Int)).Code), .int .i64 ((punctualref_F.f 5 (i1 : Int)).At)]]) (l := [.loaded ⟨b1, 0, none⟩ (.int .i64 ((punctualref_F.f 5 (i1 : Int)).Code)), .loaded ⟨b1, 1, none⟩ (.int .i64 ((punctualref_F.f 5 (i1 : Int)).At))]) rfl (by kernel_rfl) ⟨hS46.cell 0 rfl rfl, hS46.cell 0 rfl rfl, trivial⟩ ⟨rfl, hS47⟩) a hF⟩))
      · rw [if_neg hc11] at h
        refine we_known (t := 58) (b := ((IntKind.i64.wrap (b3.toNat : Int)) == e1.N)) (v := false) (by kernel_rfl) (beq_eq_false_iff_ne.2 hc11) ?_
        refine we_false (by kernel_rfl) ?_
        refine we_skip fun a hF => hK26 _ _ ?_ a hF
        refine we_region [(0, 0), (1, 0), (2, 0)] rfl ?_
        refine ge_batch [0, 1, 2] (ans := []) (vs := [(6, .int .i64 (IntKind.i64.wrap (z1 + 1))), (51, .int .i64 (IntKind.i64.wrap (z1 + 1))), (50, .int .i64 z1)]) (l := []) (by kernel_rfl) trivial ?_
        have hS48 := hS41.bring 1 rfl
        have hS49 := hS48.bring 1 rfl
        obtain rfl := Option.some.inj h
        exact ge_nil fun a hF => hQ _ _ _ (Outs.again ⟨hS49, hF.weaken ⟨by kernel_rfl, by kernel_rfl, by kernel_rfl, by kernel_rfl, by kernel_rfl, by kernel_rfl, by kernel_rfl, by kernel_rfl, by kernel_rfl, trivial⟩⟩)
    · rw [if_neg hc10] at h
      cases h
  · rw [if_neg hc9] at h
    refine we_known (t := 49) (b := decide (z1 < (t1.size : Int))) (v := false) (by kernel_rfl) (decide_eq_false hc9) ?_
    refine we_false (by kernel_rfl) ?_
    have hS50 := hS.bring 1 rfl
    have hS51 := hS50.bring 1 rfl
    obtain rfl := Option.some.inj h
    exact we_exit fun a hF => hQ _ _ _ (Outs.out nofun (Exits.here ⟨hS51, hF.weaken ⟨by kernel_rfl, by kernel_rfl, by kernel_rfl, by kernel_rfl, by kernel_rfl, by kernel_rfl, by kernel_rfl, trivial⟩⟩))
abbrev punctualref_CheckActs.A0 (K : Nat) (w0 : World) (l0 : List SAct) (A0 : Option Addr) (c0 : Nat) (hR0 : RdL w0 A0 l0) (hL0 : l0.length ≤ c0) (b1 : Nat) (hc1 : ¬ ((l0.length : Int) > 200)) : (ByteArray × Nat) → Act → World → Prop := fun (s : ByteArray × Nat) a w => St w0 w [Own.blk b1 (.cells #[.int .i64 0, .int .i64 0] 27 (0, 0))] ∧ Frm 97 a [(0, .slice A0 l0.length c0), (2, .pointer (some ⟨b1, 0, none⟩)), (3, .string s.1), (11, .slice A0 l0.length c0), (12, .int .i64 (l0.length : Int)), (13, .int .i64 (s.2 : Int))]
abbrev punctualref_CheckActs.B0 (K : Nat) (w0 : World) (l0 : List SAct) (A0 : Option Addr) (c0 : Nat) (hR0 : RdL w0 A0 l0) (hL0 : l0.length ≤ c0) (b1 : Nat) (hc1 : ¬ ((l0.length : Int) > 200)) : (ByteArray ⊕ SFault) → Exit → Act → World → Prop := Exits 0 (fun (s : ByteArray) a w => St w0 w [Own.blk b1 (.cells #[.int .i64 0, .int .i64 0] 27 (0, 0))] ∧ Frm 97 a [(0, .slice A0 l0.length c0), (2, .pointer (some ⟨b1, 0, none⟩)), (3, .string s)]) (Rets Tryd.prog Tryd.f16 (punctualref_CheckActs.Post w0))
theorem punctualref_CheckActs_r0 (K : Nat) (w0 : World) (l0 : List SAct) (A0 : Option Addr) (c0 : Nat) (hR0 : RdL w0 A0 l0) (hL0 : l0.length ≤ c0) (b1 : Nat) (hc1 : ¬ ((l0.length : Int) > 200)) (s : ByteArray × Nat) (o : (ByteArray × Nat) ⊕ (ByteArray ⊕ SFault)) (h : punctualref_CheckActs.r0 K l0 s = some o) (a : Act) (w : World) (hA : punctualref_CheckActs.A0 K w0 l0 A0 c0 hR0 hL0 b1 hc1 s a w) (Q : Exit → Act → World → Prop) (hQ : ∀ x a w, Outs (punctualref_CheckActs.A0 K w0 l0 A0 c0 hR0 hL0 b1 hc1) (punctualref_CheckActs.B0 K w0 l0 A0 c0 hR0 hL0 b1 hc1) o x a w → Q x a w) : (subF Tryd.f16 [1, 1, 1, 0, 1, 0, 0]).wp Tryd.prog Q a w := by
  obtain ⟨t1, i1⟩ := s
  obtain ⟨hS, hF⟩ := hA
  replace hS : St w0 w [Own.blk b1 (.cells #[.int .i64 0, .int .i64 0] 27 (0, 0))] := hS
  simp only [punctualref_CheckActs.r0] at h
  refine (?_ : WE Tryd.prog 97 (subF Tryd.f16 [1, 1, 1, 0, 1, 0, 0]) Q [(0, .slice A0 l0.length c0), (2, .pointer (some ⟨b1, 0, none⟩)), (3, .string t1), (11, .slice A0 l0.length c0), (12, .int .i64 (l0.length : Int)), (13, .int .i64 (i1 : Int))] w) a hF
  clear hF a
  refine we_seq fun K8 hK8 => ?_
  refine we_region [(0, 0)] rfl ?_
  refine ge_batch [0] (ans := []) (vs := [(14, .bool (decide ((i1 : Int) < (l0.length : Int))))]) (l := []) (by kernel_rfl) trivial ?_
  refine ge_nil fun a hF => hK8 _ _ ?_ a hF
  refine we_seq fun K9 hK9 => ?_
  by_cases hc2 : (i1 : Int) < (l0.length : Int)
  · rw [if_pos hc2] at h
    refine we_known (t := 14) (b := decide ((i1 : Int) < (l0.length : Int))) (v := true) (by kernel_rfl) (decide_eq_true hc2) ?_
    refine we_true (by kernel_rfl) ?_
    refine we_skip fun a hF => hK9 _ _ ?_ a hF
    refine we_seq fun K10 hK10 => ?_
    refine we_block ?_
    refine we_seq fun K11 hK11 => ?_
    refine we_region [(0, 0), (1, 0), (2, 0), (3, 1), (4, 0), (5, 2)] rfl ?_
    refine ge_batch [0] (ans := []) (vs := [(15, .int .i64 (i1 : Int))]) (l := []) (by kernel_rfl) trivial ?_
    rcases hx2 : l0[i1]? with _ | e1
    · rw [hx2] at h; cases h
    rw [hx2] at h
    simp only [] at h
    refine ge_index (d := 16) (ty := 0) (t := 22) (el := 39) (sz := 2) (m := l0.length) (c := c0) (x := (.tmp 11)) (y := (.tmp 13)) (A := A0) (k' := .i64) (j := (i1 : Int)) (jn := i1) (b0 := blkOf A0) (o0 := offOf A0) (by kernel_rfl) (by kernel_rfl) (by kernel_rfl) (by kernel_rfl) (by kernel_rfl) ((hS.rd hR0).eqSome (pos_of_get hx2)) rfl (lt_of_get hx2) ?_
    refine ge_batch [2] (ans := [.val (.int .i64 e1.Do), .val (.int .i64 e1.N)]) (vs := [(17, .agg #[.int .i64 e1.Do, .int .i64 e1.N])]) (l := [.loaded ⟨blkOf A0, offOf A0 + i1 * 2, none⟩ (.int .i64 e1.Do), .loaded ⟨blkOf A0, offOf A0 + i1 * 2 + 1, none⟩ (.int .i64 e1.N)]) (by kernel_rfl) ⟨RdL.cell (j := 0) (hS.rd hR0) hx2 rfl, RdL.cell (j := 1) (hS.rd hR0) hx2 rfl, trivial⟩ ?_
    refine ge_new (d := some 5) (o := .cells #[.int .i64 0, .int .i64 0] 39) (v := fun b => .pointer (some ⟨b, 0, none⟩)) hS (fun b => by kernel_rfl) fun b2 w4 hx3 hS7 => ?_
    refine ge_batch [4] (ans := []) (vs := [(4, .int .i64 (i1 : Int))]) (l := []) (by kernel_rfl) trivial ?_
    refine ge_set (b := b2) (j := 0) (cs := #[.int .i64 0, .int .i64 0]) (t := 39) (vs := [.int .i64 e1.Do, .int .i64 e1.N]) hS7 (by kernel_rfl) rfl rfl fun w5 hS8 => ?_
    have hS9 := hS8.nc #[.int .i64 e1.Do, .int .i64 e1.N] rfl
    refine ge_nil fun a hF => hK11 _ _ ?_ a hF
    refine we_seq fun K12 hK12 => ?_
    refine we_region [(0, 0), (1, 0)] rfl ?_
    refine ge_batch [0, 1] (ans := [.val (.int .i64 e1.Do)]) (vs := [(19, .int .i64 e1.Do), (18, .pointer (some ⟨b2, 0, none⟩))]) (l := [.loaded ⟨b2, 0, none⟩ (.int .i64 e1.Do)]) (by kernel_rfl) ⟨hS9.cell 0 rfl rfl, trivial⟩ ?_
    refine ge_nil fun a hF => hK12 _ _ ?_ a hF
    refine we_block ?_
    refine we_seq fun K13 hK13 => ?_
    refine we_region [(0, 0), (1, 0)] rfl ?_
    refine ge_batch [0, 1] (ans := []) (vs := [(22, .bool (e1.Do == 1)), (23, .bool (e1.Do == 1))]) (l := []) (by kernel_rfl) trivial ?_
    refine ge_nil fun a hF => hK13 _ _ ?_ a hF
    by_cases hc3 : e1.Do = 1
    · rw [if_pos hc3] at h
      refine we_known (t := 22) (b := (e1.Do == 1)) (v := true) (by kernel_rfl) (beq_iff_eq.2 hc3) ?_
      refine we_true (by kernel_rfl) ?_
      refine we_seq fun K14 hK14 => ?_
      refine we_region [(0, 0), (1, 0), (2, 0), (3, 0), (4, 0), (5, 0), (6, 0), (7, 0)] rfl ?_
      refine ge_batch [0, 1, 2, 3] (ans := [.val (.int .i64 e1.N)]) (vs := [(27, .bool (decide (e1.N < 1))), (26, .bool (decide (e1.N < 1))), (25, .int .i64 e1.N), (24, .pointer (some ⟨b2, 1, none⟩))]) (l := [.loaded ⟨b2, 1, none⟩ (.int .i64 e1.N)]) (by kernel_rfl) ⟨hS9.cell 0 rfl rfl, trivial⟩ ?_
      by_cases hc4 : e1.N < 1
      · rw [if_pos hc4] at h
        refine ge_known (t := 27) (b := decide (e1.N < 1)) (c := true) (by kernel_rfl) (decide_eq_true hc4) ?_
        refine ge_batch [4, 5, 6, 7] (ans := []) (vs := [(31, .bool true), (30, undef), (29, undef), (28, undef)]) (l := []) (by kernel_rfl) trivial ?_
        refine ge_nil fun a hF => hK14 _ _ ?_ a hF
        refine we_true (by kernel_rfl) ?_
        refine we_seq fun K15 hK15 => ?_
        refine we_region [(0, 0), (1, 1), (2, 2)] rfl ?_
        refine ge_batch [0] (ans := []) (vs := [(32, .int .i64 (i1 : Int))]) (l := []) (by kernel_rfl) trivial ?_
        refine ge_call (d := some 33) (f := 61) (args := #[.int .i64 3, .int .i64 (i1 : Int)]) (by kernel_rfl) (punctualref_F_ok 3 (i1 : Int) _ _ rfl) ?_
        rintro _ w6 ⟨rfl, hS10⟩
        refine ⟨_, rfl, hS10.below, ?_⟩
        have hS11 := hS9.call hS10
        have hS12 := hS11.bring 1 rfl
        refine ge_set (b := b1) (j := 0) (cs := #[.int .i64 0, .int .i64 0]) (t := 27) (vs := [.int .i64 ((punctualref_F.f 3 (i1 : Int)).Code), .int .i64 ((punctualref_F.f 3 (i1 : Int)).At)]) hS12 (by kernel_rfl) rfl rfl fun w7 hS13 => ?_
        have hS14 := hS13.nc #[.int .i64 ((punctualref_F.f 3 (i1 : Int)).Code), .int .i64 ((punctualref_F.f 3 (i1 : Int)).At)] rfl
        refine ge_nil fun a hF => hK15 _ _ ?_ a hF
        have hS15 := hS14.takeN 0
        obtain rfl := Option.some.inj h
        exact we_ret fun a hF => hQ _ _ _ (Outs.out nofun (Exits.on ⟨rfl, (post_ret (rs := [.cell 2 27]) (ans := [.val (.int .i64 ((punctualref_F.f 3 (i1 : Int)).Code)), .val (.int .i64 ((punctualref_F.f 3 (i1 : Int)).At))]) (vs := [.agg #[.int .i64 ((punctualref_F.f 3 (i1 : Int)).Code), .int .i64 ((punctualref_F.f 3 (i1 : Int)).At)]]) (l := [.loaded ⟨b1, 0, none⟩ (.int .i64 ((punctualref_F.f 3 (i1 : Int)).Code)), .loaded ⟨b1, 1, none⟩ (.int .i64 ((punctualref_F.f 3 (i1 : Int)).At))]) rfl (by kernel_rfl) ⟨hS14.cell 0 rfl rfl, hS14.cell 0 rfl rfl, trivial⟩ ⟨rfl, hS15⟩) a hF⟩))
      · rw [if_neg hc4] at h
        refine ge_known (t := 27) (b := decide (e1.N < 1)) (c := false) (by kernel_rfl) (decide_eq_false hc4) ?_
        refine ge_batch [4, 5, 6, 7] (ans := [.val (.int .i64 e1.N)]) (vs := [(31, .bool (decide (e1.N > 1000))), (30, .bool (decide (e1.N > 1000))), (29, .int .i64 e1.N), (28, .pointer (some ⟨b2, 1, none⟩))]) (l := [.loaded ⟨b2, 1, none⟩ (.int .i64 e1.N)]) (by kernel_rfl) ⟨hS9.cell 0 rfl rfl, trivial⟩ ?_
        refine ge_nil fun a hF => hK14 _ _ ?_ a hF
        by_cases hc5 : e1.N > 1000
        · rw [if_pos hc5] at h
          refine we_known (t := 31) (b := decide (e1.N > 1000)) (v := true) (by kernel_rfl) (decide_eq_true hc5) ?_
          refine we_true (by kernel_rfl) ?_
          refine we_seq fun K16 hK16 => ?_
          refine we_region [(0, 0), (1, 1), (2, 2)] rfl ?_
          refine ge_batch [0] (ans := []) (vs := [(32, .int .i64 (i1 : Int))]) (l := []) (by kernel_rfl) trivial ?_
          refine ge_call (d := some 33) (f := 61) (args := #[.int .i64 3, .int .i64 (i1 : Int)]) (by kernel_rfl) (punctualref_F_ok 3 (i1 : Int) _ _ rfl) ?_
          rintro _ w8 ⟨rfl, hS16⟩
          refine ⟨_, rfl, hS16.below, ?_⟩
          have hS17 := hS9.call hS16
          have hS18 := hS17.bring 1 rfl
          refine ge_set (b := b1) (j := 0) (cs := #[.int .i64 0, .int .i64 0]) (t := 27) (vs := [.int .i64 ((punctualref_F.f 3 (i1 : Int)).Code), .int .i64 ((punctualref_F.f 3 (i1 : Int)).At)]) hS18 (by kernel_rfl) rfl rfl fun w9 hS19 => ?_
          have hS20 := hS19.nc #[.int .i64 ((punctualref_F.f 3 (i1 : Int)).Code), .int .i64 ((punctualref_F.f 3 (i1 : Int)).At)] rfl
          refine ge_nil fun a hF => hK16 _ _ ?_ a hF
          have hS21 := hS20.takeN 0
          obtain rfl := Option.some.inj h
          exact we_ret fun a hF => hQ _ _ _ (Outs.out nofun (Exits.on ⟨rfl, (post_ret (rs := [.cell 2 27]) (ans := [.val (.int .i64 ((punctualref_F.f 3 (i1 : Int)).Code)), .val (.int .i64 ((punctualref_F.f 3 (i1 : Int)).At))]) (vs := [.agg #[.int .i64 ((punctualref_F.f 3 (i1 : Int)).Code), .int .i64 ((punctualref_F.f 3 (i1 : Int)).At)]]) (l := [.loaded ⟨b1, 0, none⟩ (.int .i64 ((punctualref_F.f 3 (i1 : Int)).Code)), .loaded ⟨b1, 1, none⟩ (.int .i64 ((punctualref_F.f 3 (i1 : Int)).At))]) rfl (by kernel_rfl) ⟨hS20.cell 0 rfl rfl, hS20.cell 0 rfl rfl, trivial⟩ ⟨rfl, hS21⟩) a hF⟩))
        · rw [if_neg hc5] at h
          refine we_known (t := 31) (b := decide (e1.N > 1000)) (v := false) (by kernel_rfl) (decide_eq_false hc5) ?_
          refine we_false (by kernel_rfl) ?_
          refine we_skip fun a hF => hK10 _ _ ?_ a hF
          refine we_region [(0, 0), (1, 0)] rfl ?_
          refine ge_addn (d := 90) (ty := 3) (x := (.tmp 13)) (y := (.const (.int .i64 1))) (t := 3) (t2 := 3) (k := .i64) (m := i1) (by kernel_rfl) (by kernel_rfl) (by kernel_rfl) (by have h0 := hR0.small; omega) ?_
          refine ge_batch [1] (ans := []) (vs := [(13, .int .i64 ((i1 + 1 : Nat) : Int))]) (l := []) (by kernel_rfl) trivial ?_
          have hS22 := hS9.bring 1 rfl
          have hS23 := hS22.takeN 1
          obtain rfl := Option.some.inj h
          exact ge_nil fun a hF => hQ _ _ _ (Outs.again ⟨hS23, hF.weaken ⟨by kernel_rfl, by kernel_rfl, by kernel_rfl, by kernel_rfl, by kernel_rfl, by kernel_rfl, trivial⟩⟩)
    · rw [if_neg hc3] at h
      refine we_known (t := 22) (b := (e1.Do == 1)) (v := false) (by kernel_rfl) (beq_eq_false_iff_ne.2 hc3) ?_
      refine we_false (by kernel_rfl) ?_
      refine we_seq fun K17 hK17 => ?_
      refine we_region [(0, 0), (1, 0)] rfl ?_
      refine ge_batch [0, 1] (ans := []) (vs := [(34, .bool (e1.Do == 2)), (35, .bool (e1.Do == 2))]) (l := []) (by kernel_rfl) trivial ?_
      refine ge_nil fun a hF => hK17 _ _ ?_ a hF
      by_cases hc6 : e1.Do = 2
      · rw [if_pos hc6] at h
        refine we_known (t := 34) (b := (e1.Do == 2)) (v := true) (by kernel_rfl) (beq_iff_eq.2 hc6) ?_
        refine we_true (by kernel_rfl) ?_
        refine we_seq fun K18 hK18 => ?_
        rcases hq6 : punctualref_CheckActs.p1 i1 e1 with _ | (_ | rr2)
        · rw [hq6] at h; cases h
        · rw [hq6] at h
          simp only [] at h
          refine we_keep (e' := [(0, .slice A0 l0.length c0), (2, .pointer (some ⟨b1, 0, none⟩)), (3, .string t1), (4, .int .i64 (i1 : Int)), (5, .pointer (some ⟨b2, 0, none⟩)), (11, .slice A0 l0.length c0), (12, .int .i64 (l0.length : Int)), (13, .int .i64 (i1 : Int)), (14, .bool true), (15, .int .i64 (i1 : Int)), (16, .pointer (some ⟨blkOf A0, offOf A0 + i1 * 2, none⟩)), (17, .agg #[.int .i64 e1.Do, .int .i64 e1.N]), (18, .pointer (some ⟨b2, 0, none⟩)), (19, .int .i64 e1.Do), (22, .bool false), (23, .bool (e1.Do == 1)), (34, .bool true), (35, .bool (e1.Do == 2))]) ⟨by kernel_rfl, by kernel_rfl, by kernel_rfl, by kernel_rfl, by kernel_rfl, by kernel_rfl, by kernel_rfl, by kernel_rfl, by kernel_rfl, by kernel_rfl, by kernel_rfl, by kernel_rfl, by kernel_rfl, by kernel_rfl, by kernel_rfl, by kernel_rfl, by kernel_rfl, by kernel_rfl, trivial⟩ (punctualref_CheckActs_p1 K w0 l0 A0 c0 hR0 hL0 b1 hc1 t1 i1 hc2 e1 hx2 b2 hc3 hc6 _ hq6 _ hS9 _ ?_)
          rintro _ a w14 ⟨rfl, hS38, hF⟩
          replace hS38 : St w0 w14 [Own.blk b2 (.cells #[.int .i64 e1.Do, .int .i64 e1.N] 39 (0, 0)), Own.blk b1 (.cells #[.int .i64 0, .int .i64 0] 27 (0, 0))] := hS38
          refine hK18 [(0, .slice A0 l0.length c0), (2, .pointer (some ⟨b1, 0, none⟩)), (3, .string t1), (4, .int .i64 (i1 : Int)), (5, .pointer (some ⟨b2, 0, none⟩)), (11, .slice A0 l0.length c0), (12, .int .i64 (l0.length : Int)), (13, .int .i64 (i1 : Int))] w14 ?_ a hF
          refine we_seq fun K22 hK22 => ?_
          refine we_seq fun K23 hK23 => ?_
          refine we_region [(0, 0)] rfl ?_
          refine ge_batch [0] (ans := []) (vs := [(6, .int .i64 0)]) (l := []) (by kernel_rfl) trivial ?_
          refine ge_nil fun a hF => hK23 _ _ ?_ a hF
          refine we_block ?_
          have hS39 := hS38.bring 1 rfl
          have hS40 := hS39.bring 1 rfl
          rcases hq8 : iter (punctualref_CheckActs.r2 t1 i1 e1) K 0 with _ | (_ | rr1)
          · rw [hq8] at h; cases h
          · rw [hq8] at h
            simp only [] at h
            refine we_iter (A := punctualref_CheckActs.A2 K w0 l0 A0 c0 hR0 hL0 b1 hc1 t1 i1 hc2 e1 hx2 b2 hc3 hc6) (B := punctualref_CheckActs.B2 K w0 l0 A0 c0 hR0 hL0 b1 hc1 t1 i1 hc2 e1 hx2 b2 hc3 hc6) hq8 (fun a hF => ⟨hS40, hF.weaken ⟨by kernel_rfl, by kernel_rfl, by kernel_rfl, by kernel_rfl, by kernel_rfl, by kernel_rfl, by kernel_rfl, by kernel_rfl, by kernel_rfl, trivial⟩⟩) (fun s o hf a w hA Q hQ => punctualref_CheckActs_r2 K w0 l0 A0 c0 hR0 hL0 b1 hc1 t1 i1 hc2 e1 hx2 b2 hc3 hc6 s o hf a w hA Q hQ) ?_
            rintro _ a w17 _ ⟨rfl, hS52, hF⟩
            replace hS52 : St w0 w17 [Own.blk b2 (.cells #[.int .i64 e1.Do, .int .i64 e1.N] 39 (0, 0)), Own.blk b1 (.cells #[.int .i64 0, .int .i64 0] 27 (0, 0))] := hS52
            refine hK22 [(0, .slice A0 l0.length c0), (2, .pointer (some ⟨b1, 0, none⟩)), (3, .string t1), (5, .pointer (some ⟨b2, 0, none⟩)), (11, .slice A0 l0.length c0), (12, .int .i64 (l0.length : Int)), (13, .int .i64 (i1 : Int))] w17 ?_ a hF
            refine we_region [(0, 0), (1, 0), (2, 0), (3, 0), (4, 1), (5, 0), (6, 0), (7, 0)] rfl ?_
            refine ge_batch [0, 1, 2, 3] (ans := [.val (.int .i64 e1.N)]) (vs := [(64, .int .u8 (IntKind.u8.wrap e1.N)), (63, .int .i64 e1.N), (62, .pointer (some ⟨b2, 1, none⟩)), (61, .string t1)]) (l := [.loaded ⟨b2, 1, none⟩ (.int .i64 e1.N)]) (by kernel_rfl) ⟨hS52.cell 0 rfl rfl, trivial⟩ ?_
            refine ge_new (d := some 65) (o := .cells #[.int .u8 (IntKind.u8.wrap e1.N)] 5) (v := fun b => .slice (some ⟨b, 0, none⟩) 1 1) hS52 (fun b => by kernel_rfl) fun b4 w18 hx5 hS53 => ?_
            refine ge_batch [5] (ans := [.val (.int .u8 (IntKind.u8.wrap e1.N))]) (vs := [(66, .string (ByteArray.empty.push (UInt8.ofNat (IntKind.u8.wrap e1.N).toNat)))]) (l := [.loaded ⟨b4, 0, none⟩ (.int .u8 (IntKind.u8.wrap e1.N))]) (by kernel_rfl) ⟨hS53.cell 0 rfl rfl, trivial⟩ ?_
            by_cases hc12 : t1.size + (ByteArray.empty.push (UInt8.ofNat (IntKind.u8.wrap e1.N).toNat)).size ≤ 9223372036854775807
            · rw [if_pos hc12] at h
              refine ge_concat (d := 67) (ty := 9) (t := 9) (t2 := 9) (x := (.tmp 61)) (y := (.tmp 66)) (a := t1) (b := (ByteArray.empty.push (UInt8.ofNat (IntKind.u8.wrap e1.N).toNat))) (by kernel_rfl) (by kernel_rfl) (by kernel_rfl) hc12 ?_
              refine ge_batch [7] (ans := []) (vs := [(3, .string (t1 ++ (ByteArray.empty.push (UInt8.ofNat (IntKind.u8.wrap e1.N).toNat))))]) (l := []) (by kernel_rfl) trivial ?_
              refine ge_nil fun a hF => hK10 _ _ ?_ a hF
              refine we_region [(0, 0), (1, 0)] rfl ?_
              refine ge_addn (d := 90) (ty := 3) (x := (.tmp 13)) (y := (.const (.int .i64 1))) (t := 3) (t2 := 3) (k := .i64) (m := i1) (by kernel_rfl) (by kernel_rfl) (by kernel_rfl) (by have h0 := hR0.small; omega) ?_
              refine ge_batch [1] (ans := []) (vs := [(13, .int .i64 ((i1 + 1 : Nat) : Int))]) (l := []) (by kernel_rfl) trivial ?_
              have hS54 := hS53.bring 2 rfl
              have hS55 := hS54.takeN 1
              obtain rfl := Option.some.inj h
              exact ge_nil fun a hF => hQ _ _ _ (Outs.again ⟨hS55, hF.weaken ⟨by kernel_rfl, by kernel_rfl, by kernel_rfl, by kernel_rfl, by kernel_rfl, by kernel_rfl, trivial⟩⟩)
            · rw [if_neg hc12] at h
              cases h
          · rw [hq8] at h
            simp only [] at h
            refine we_iter (A := punctualref_CheckActs.A2 K w0 l0 A0 c0 hR0 hL0 b1 hc1 t1 i1 hc2 e1 hx2 b2 hc3 hc6) (B := punctualref_CheckActs.B2 K w0 l0 A0 c0 hR0 hL0 b1 hc1 t1 i1 hc2 e1 hx2 b2 hc3 hc6) hq8 (fun a hF => ⟨hS40, hF.weaken ⟨by kernel_rfl, by kernel_rfl, by kernel_rfl, by kernel_rfl, by kernel_rfl, by kernel_rfl, by kernel_rfl, by kernel_rfl, by kernel_rfl, trivial⟩⟩) (fun s o hf a w hA Q hQ => punctualref_CheckActs_r2 K w0 l0 A0 c0 hR0 hL0 b1 hc1 t1 i1 hc2 e1 hx2 b2 hc3 hc6 s o hf a w hA Q hQ) ?_
            rintro _ a w1 _ ⟨rfl, hb⟩
            obtain rfl := Option.some.inj h
            exact hQ _ _ _ (Outs.out nofun (Exits.on ⟨rfl, hb⟩))
        · rw [hq6] at h
          simp only [] at h
          refine we_keep (e' := [(0, .slice A0 l0.length c0), (2, .pointer (some ⟨b1, 0, none⟩)), (3, .string t1), (4, .int .i64 (i1 : Int)), (5, .pointer (some ⟨b2, 0, none⟩)), (11, .slice A0 l0.length c0), (12, .int .i64 (l0.length : Int)), (13, .int .i64 (i1 : Int)), (14, .bool true), (15, .int .i64 (i1 : Int)), (16, .pointer (some ⟨blkOf A0, offOf A0 + i1 * 2, none⟩)), (17, .agg #[.int .i64 e1.Do, .int .i64 e1.N]), (18, .pointer (some ⟨b2, 0, none⟩)), (19, .int .i64 e1.Do), (22, .bool false), (23, .bool (e1.Do == 1)), (34, .bool true), (35, .bool (e1.Do == 2))]) ⟨by kernel_rfl, by kernel_rfl, by kernel_rfl, by kernel_rfl, by kernel_rfl, by kernel_rfl, by kernel_rfl, by kernel_rfl, by kernel_rfl, by kernel_rfl, by kernel_rfl, by kernel_rfl, by kernel_rfl, by kernel_rfl, by kernel_rfl, by kernel_rfl, by kernel_rfl, by kernel_rfl, trivial⟩ (punctualref_CheckActs_p1 K w0 l0 A0 c0 hR0 hL0 b1 hc1 t1 i1 hc2 e1 hx2 b2 hc3 hc6 _ hq6 _ hS9 _ ?_)
          rintro _ a w1 ⟨_, rfl, hb⟩
          obtain rfl := Option.some.inj h
          exact hQ _ _ _ (Outs.out nofun (Exits.on ⟨rfl, hb⟩))
      · rw [if_neg hc6] at h
        refine we_known (t := 34) (b := (e1.Do == 2)) (v := false) (by kernel_rfl) (beq_eq_false_iff_ne.2 hc6) ?_
        refine we_false (by kernel_rfl) ?_
        refine we_seq fun K29 hK29 => ?_
        refine we_region [(0, 0), (1, 0)] rfl ?_
        refine ge_batch [0, 1] (ans := []) (vs := [(68, .bool (e1.Do == 3)), (69, .bool (e1.Do == 3))]) (l := []) (by kernel_rfl) trivial ?_
        refine ge_nil fun a hF => hK29 _ _ ?_ a hF
        by_cases hc13 : e1.Do = 3
        · rw [if_pos hc13] at h
          refine we_known (t := 68) (b := (e1.Do == 3)) (v := true) (by kernel_rfl) (beq_iff_eq.2 hc13) ?_
          refine we_true (by kernel_rfl) ?_
          refine we_seq fun K30 hK30 => ?_
          refine we_seq fun K31 hK31 => ?_
          refine we_draws (by kernel_rfl) [(0, 0), (1, 0), (2, 0), (3, 0), (4, 0), (5, 0), (6, 0), (7, 0), (8, 0), (9, 0), (10, 0), (11, 0), (12, 0)] (by kernel_rfl) ?_
          have hS56 := hS9.drew
          refine ge_batch [0, 1, 2] (ans := []) (vs := [(72, .bool (t1.toList == (⟨#[]⟩ : ByteArray).toList)), (71, .bool (t1.toList == (⟨#[]⟩ : ByteArray).toList)), (70, .string t1)]) (l := []) (by kernel_rfl) trivial ?_
          by_cases hc14 : t1.toList = (⟨#[]⟩ : ByteArray).toList
          · rw [if_pos hc14] at h
            refine ge_known (t := 72) (b := (t1.toList == (⟨#[]⟩ : ByteArray).toList)) (c := true) (by kernel_rfl) (beq_iff_eq.2 hc14) ?_
            refine ge_batch [3, 4, 5, 6, 7, 8, 9, 10, 11, 12] (ans := []) (vs := [(82, .bool true), (81, undef), (80, undef), (79, undef), (78, undef), (77, undef), (76, undef), (75, undef), (74, undef), (73, undef)]) (l := []) (by kernel_rfl) trivial ?_
            refine ge_nil fun a hF => hK31 _ _ ?_ a hF
            refine we_true (by kernel_rfl) ?_
            refine we_seq fun K32 hK32 => ?_
            refine we_region [(0, 0), (1, 1), (2, 2)] rfl ?_
            refine ge_batch [0] (ans := []) (vs := [(83, .int .i64 (i1 : Int))]) (l := []) (by kernel_rfl) trivial ?_
            refine ge_call (d := some 84) (f := 61) (args := #[.int .i64 10, .int .i64 (i1 : Int)]) (by kernel_rfl) (punctualref_F_ok 10 (i1 : Int) _ _ rfl) ?_
            rintro _ w19 ⟨rfl, hS57⟩
            refine ⟨_, rfl, hS57.below, ?_⟩
            have hS58 := hS56.call hS57
            have hS59 := hS58.bring 1 rfl
            refine ge_set (b := b1) (j := 0) (cs := #[.int .i64 0, .int .i64 0]) (t := 27) (vs := [.int .i64 ((punctualref_F.f 10 (i1 : Int)).Code), .int .i64 ((punctualref_F.f 10 (i1 : Int)).At)]) hS59 (by kernel_rfl) rfl rfl fun w20 hS60 => ?_
            have hS61 := hS60.nc #[.int .i64 ((punctualref_F.f 10 (i1 : Int)).Code), .int .i64 ((punctualref_F.f 10 (i1 : Int)).At)] rfl
            refine ge_nil fun a hF => hK32 _ _ ?_ a hF
            have hS62 := hS61.takeN 0
            obtain rfl := Option.some.inj h
            exact we_ret fun a hF => hQ _ _ _ (Outs.out nofun (Exits.on ⟨rfl, (post_ret (rs := [.cell 2 27]) (ans := [.val (.int .i64 ((punctualref_F.f 10 (i1 : Int)).Code)), .val (.int .i64 ((punctualref_F.f 10 (i1 : Int)).At))]) (vs := [.agg #[.int .i64 ((punctualref_F.f 10 (i1 : Int)).Code), .int .i64 ((punctualref_F.f 10 (i1 : Int)).At)]]) (l := [.loaded ⟨b1, 0, none⟩ (.int .i64 ((punctualref_F.f 10 (i1 : Int)).Code)), .loaded ⟨b1, 1, none⟩ (.int .i64 ((punctualref_F.f 10 (i1 : Int)).At))]) rfl (by kernel_rfl) ⟨hS61.cell 0 rfl rfl, hS61.cell 0 rfl rfl, trivial⟩ ⟨rfl, hS62⟩) a hF⟩))
          · rw [if_neg hc14] at h
            refine ge_known (t := 72) (b := (t1.toList == (⟨#[]⟩ : ByteArray).toList)) (c := false) (by kernel_rfl) (beq_eq_false_iff_ne.2 hc14) ?_
            refine ge_batch [3, 4, 5, 6] (ans := []) (vs := [(76, .int .i64 (IntKind.i64.wrap ((t1.size : Int) - 1))), (75, .int .i64 (t1.size : Int)), (74, .string t1), (73, .string t1)]) (l := []) (by kernel_rfl) trivial ?_
            by_cases hc15 : 0 ≤ (IntKind.i64.wrap ((t1.size : Int) - 1))
            · rw [if_pos hc15] at h
              rcases hx6 : t1[(IntKind.i64.wrap ((t1.size : Int) - 1)).toNat]? with _ | b5
              · rw [hx6] at h; cases h
              rw [hx6] at h
              simp only [] at h
              refine ge_letter (d := 77) (ty := 5) (t := 9) (x := (.tmp 73)) (y := (.tmp 76)) (k' := .i64) (j := (IntKind.i64.wrap ((t1.size : Int) - 1))) (jn := ((IntKind.i64.wrap ((t1.size : Int) - 1)).toNat)) (s := t1) (b := b5) (by kernel_rfl) (by kernel_rfl) (by kernel_rfl) (by kernel_rfl) (Int.toNat_of_nonneg hc15).symm hx6 ?_
              refine ge_batch [8, 9, 10, 11, 12] (ans := [.val (.int .i64 e1.N)]) (vs := [(82, .bool ((IntKind.i64.wrap (b5.toNat : Int)) != e1.N)), (81, .bool ((IntKind.i64.wrap (b5.toNat : Int)) != e1.N)), (80, .int .i64 e1.N), (79, .pointer (some ⟨b2, 1, none⟩)), (78, .int .i64 (IntKind.i64.wrap (b5.toNat : Int)))]) (l := [.loaded ⟨b2, 1, none⟩ (.int .i64 e1.N)]) (by kernel_rfl) ⟨hS56.cell 0 rfl rfl, trivial⟩ ?_
              refine ge_nil fun a hF => hK31 _ _ ?_ a hF
              by_cases hc16 : (IntKind.i64.wrap (b5.toNat : Int)) = e1.N
              · rw [if_pos hc16] at h
                refine we_known (t := 82) (b := ((IntKind.i64.wrap (b5.toNat : Int)) != e1.N)) (v := false) (by kernel_rfl) (bne_eq_false_iff_eq.2 hc16) ?_
                refine we_false (by kernel_rfl) ?_
                refine we_skip fun a hF => hK30 _ _ ?_ a hF
                refine we_region [(0, 0), (1, 0), (2, 0), (3, 0), (4, 0), (5, 0)] rfl ?_
                refine ge_batch [0, 1, 2, 3] (ans := []) (vs := [(88, .int .i64 (IntKind.i64.wrap ((t1.size : Int) - 1))), (87, .int .i64 (t1.size : Int)), (86, .string t1), (85, .string t1)]) (l := []) (by kernel_rfl) trivial ?_
                by_cases hc17 : ((IntKind.i64.wrap ((t1.size : Int) - 1)).toNat) ≤ t1.size
                · rw [if_pos hc17] at h
                  refine ge_strPart (d := 89) (ty := 9) (t := 9) (lo := 0) (hi := ((IntKind.i64.wrap ((t1.size : Int) - 1)).toNat)) (x := (.tmp 85)) (xl := none) (xh := some (.tmp 88)) (s := t1) (by kernel_rfl) (by kernel_rfl) (by kernel_rfl) rfl ⟨.i64, (IntKind.i64.wrap ((t1.size : Int) - 1)), by kernel_rfl, (Int.toNat_of_nonneg hc15).symm⟩ hc17 (Nat.zero_le _) ?_
                  refine ge_batch [5] (ans := []) (vs := [(3, .string (t1.extract 0 ((IntKind.i64.wrap ((t1.size : Int) - 1)).toNat)))]) (l := []) (by kernel_rfl) trivial ?_
                  refine ge_nil fun a hF => hK10 _ _ ?_ a hF
                  refine we_region [(0, 0), (1, 0)] rfl ?_
                  refine ge_addn (d := 90) (ty := 3) (x := (.tmp 13)) (y := (.const (.int .i64 1))) (t := 3) (t2 := 3) (k := .i64) (m := i1) (by kernel_rfl) (by kernel_rfl) (by kernel_rfl) (by have h0 := hR0.small; omega) ?_
                  refine ge_batch [1] (ans := []) (vs := [(13, .int .i64 ((i1 + 1 : Nat) : Int))]) (l := []) (by kernel_rfl) trivial ?_
                  have hS63 := hS56.bring 1 rfl
                  have hS64 := hS63.takeN 1
                  obtain rfl := Option.some.inj h
                  exact ge_nil fun a hF => hQ _ _ _ (Outs.again ⟨hS64, hF.weaken ⟨by kernel_rfl, by kernel_rfl, by kernel_rfl, by kernel_rfl, by kernel_rfl, by kernel_rfl, trivial⟩⟩)
                · rw [if_neg hc17] at h
                  cases h
              · rw [if_neg hc16] at h
                refine we_known (t := 82) (b := ((IntKind.i64.wrap (b5.toNat : Int)) != e1.N)) (v := true) (by kernel_rfl) (bne_iff_ne.2 hc16) ?_
                refine we_true (by kernel_rfl) ?_
                refine we_seq fun K33 hK33 => ?_
                refine we_region [(0, 0), (1, 1), (2, 2)] rfl ?_
                refine ge_batch [0] (ans := []) (vs := [(83, .int .i64 (i1 : Int))]) (l := []) (by kernel_rfl) trivial ?_
                refine ge_call (d := some 84) (f := 61) (args := #[.int .i64 10, .int .i64 (i1 : Int)]) (by kernel_rfl) (punctualref_F_ok 10 (i1 : Int) _ _ rfl) ?_
                rintro _ w21 ⟨rfl, hS65⟩
                refine ⟨_, rfl, hS65.below, ?_⟩
                have hS66 := hS56.call hS65
                have hS67 := hS66.bring 1 rfl
                refine ge_set (b := b1) (j := 0) (cs := #[.int .i64 0, .int .i64 0]) (t := 27) (vs := [.int .i64 ((punctualref_F.f 10 (i1 : Int)).Code), .int .i64 ((punctualref_F.f 10 (i1 : Int)).At)]) hS67 (by kernel_rfl) rfl rfl fun w22 hS68 => ?_
                have hS69 := hS68.nc #[.int .i64 ((punctualref_F.f 10 (i1 : Int)).Code), .int .i64 ((punctualref_F.f 10 (i1 : Int)).At)] rfl
                refine ge_nil fun a hF => hK33 _ _ ?_ a hF
                have hS70 := hS69.takeN 0
                obtain rfl := Option.some.inj h
                exact we_ret fun a hF => hQ _ _ _ (Outs.out nofun (Exits.on ⟨rfl, (post_ret (rs := [.cell 2 27]) (ans := [.val (.int .i64 ((punctualref_F.f 10 (i1 : Int)).Code)), .val (.int .i64 ((punctualref_F.f 10 (i1 : Int)).At))]) (vs := [.agg #[.int .i64 ((punctualref_F.f 10 (i1 : Int)).Code), .int .i64 ((punctualref_F.f 10 (i1 : Int)).At)]]) (l := [.loaded ⟨b1, 0, none⟩ (.int .i64 ((punctualref_F.f 10 (i1 : Int)).Code)), .loaded ⟨b1, 1, none⟩ (.int .i64 ((punctualref_F.f 10 (i1 : Int)).At))]) rfl (by kernel_rfl) ⟨hS69.cell 0 rfl rfl, hS69.cell 0 rfl rfl, trivial⟩ ⟨rfl, hS70⟩) a hF⟩))
            · rw [if_neg hc15] at h
              cases h
        · rw [if_neg hc13] at h
          refine we_known (t := 68) (b := (e1.Do == 3)) (v := false) (by kernel_rfl) (beq_eq_false_iff_ne.2 hc13) ?_
          refine we_false (by kernel_rfl) ?_
          refine we_seq fun K34 hK34 => ?_
          refine we_region [(0, 0), (1, 1), (2, 2)] rfl ?_
          refine ge_batch [0] (ans := []) (vs := [(20, .int .i64 (i1 : Int))]) (l := []) (by kernel_rfl) trivial ?_
          refine ge_call (d := some 21) (f := 61) (args := #[.int .i64 6, .int .i64 (i1 : Int)]) (by kernel_rfl) (punctualref_F_ok 6 (i1 : Int) _ _ rfl) ?_
          rintro _ w23 ⟨rfl, hS71⟩
          refine ⟨_, rfl, hS71.below, ?_⟩
          have hS72 := hS9.call hS71
          have hS73 := hS72.bring 1 rfl
          refine ge_set (b := b1) (j := 0) (cs := #[.int .i64 0, .int .i64 0]) (t := 27) (vs := [.int .i64 ((punctualref_F.f 6 (i1 : Int)).Code), .int .i64 ((punctualref_F.f 6 (i1 : Int)).At)]) hS73 (by kernel_rfl) rfl rfl fun w24 hS74 => ?_
          have hS75 := hS74.nc #[.int .i64 ((punctualref_F.f 6 (i1 : Int)).Code), .int .i64 ((punctualref_F.f 6 (i1 : Int)).At)] rfl
          refine ge_nil fun a hF => hK34 _ _ ?_ a hF
          have hS76 := hS75.takeN 0
          obtain rfl := Option.some.inj h
          exact we_ret fun a hF => hQ _ _ _ (Outs.out nofun (Exits.on ⟨rfl, (post_ret (rs := [.cell 2 27]) (ans := [.val (.int .i64 ((punctualref_F.f 6 (i1 : Int)).Code)), .val (.int .i64 ((punctualref_F.f 6 (i1 : Int)).At))]) (vs := [.agg #[.int .i64 ((punctualref_F.f 6 (i1 : Int)).Code), .int .i64 ((punctualref_F.f 6 (i1 : Int)).At)]]) (l := [.loaded ⟨b1, 0, none⟩ (.int .i64 ((punctualref_F.f 6 (i1 : Int)).Code)), .loaded ⟨b1, 1, none⟩ (.int .i64 ((punctualref_F.f 6 (i1 : Int)).At))]) rfl (by kernel_rfl) ⟨hS75.cell 0 rfl rfl, hS75.cell 0 rfl rfl, trivial⟩ ⟨rfl, hS76⟩) a hF⟩))
  · rw [if_neg hc2] at h
    refine we_known (t := 14) (b := decide ((i1 : Int) < (l0.length : Int))) (v := false) (by kernel_rfl) (decide_eq_false hc2) ?_
    refine we_false (by kernel_rfl) ?_
    obtain rfl := Option.some.inj h
    exact we_exit fun a hF => hQ _ _ _ (Outs.out nofun (Exits.here ⟨hS, hF.weaken ⟨by kernel_rfl, by kernel_rfl, by kernel_rfl, trivial⟩⟩))
theorem punctualref_CheckActs_ok (K : Nat) (l0 : List SAct) (A0 : Option Addr) (c0 : Nat) (w0 : World) (hR0 : RdL w0 A0 l0) (hL0 : l0.length ≤ c0) (r : SFault) (h : punctualref_CheckActs.f K l0 = some r) :
    Calls Tryd.prog 16 #[.slice A0 l0.length c0] w0 (punctualref_CheckActs.Post w0 r) := by
  have hS := St.start w0
  unfold punctualref_CheckActs.f at h
  refine calls_enter (n := 97) (args := [.slice A0 l0.length c0]) (fn := Tryd.f16) rfl rfl rfl rfl ?_
  show WE _ _ _ _ [(0, .slice A0 l0.length c0)] _
  refine we_seq fun K1 hK1 => ?_
  refine we_region [(0, 1)] rfl ?_
  refine ge_new (d := some 2) (o := .cells #[.int .i64 0, .int .i64 0] 27) (v := fun b => .pointer (some ⟨b, 0, none⟩)) hS (fun b => by kernel_rfl) fun b1 w1 hx1 hS1 => ?_
  refine ge_nil fun a hF => hK1 _ _ ?_ a hF
  refine we_seq fun K2 hK2 => ?_
  refine we_seq fun K3 hK3 => ?_
  refine we_region [(0, 0), (1, 0), (2, 0)] rfl ?_
  refine ge_batch [0, 1, 2] (ans := []) (vs := [(9, .bool (decide ((l0.length : Int) > 200))), (8, .int .i64 (l0.length : Int)), (7, .slice A0 l0.length c0)]) (l := []) (by kernel_rfl) trivial ?_
  refine ge_nil fun a hF => hK3 _ _ ?_ a hF
  by_cases hc1 : (l0.length : Int) > 200
  · rw [if_pos hc1] at h
    refine we_known (t := 9) (b := decide ((l0.length : Int) > 200)) (v := true) (by kernel_rfl) (decide_eq_true hc1) ?_
    refine we_true (by kernel_rfl) ?_
    refine we_seq fun K4 hK4 => ?_
    refine we_region [(0, 1), (1, 2)] rfl ?_
    refine ge_call (d := some 10) (f := 61) (args := #[.int .i64 2, .int .i64 0]) (by kernel_rfl) (punctualref_F_ok 2 0 _ _ rfl) ?_
    rintro _ w2 ⟨rfl, hS2⟩
    refine ⟨_, rfl, hS2.below, ?_⟩
    have hS3 := hS1.call hS2
    refine ge_set (b := b1) (j := 0) (cs := #[.int .i64 0, .int .i64 0]) (t := 27) (vs := [.int .i64 ((punctualref_F.f 2 0).Code), .int .i64 ((punctualref_F.f 2 0).At)]) hS3 (by kernel_rfl) rfl rfl fun w3 hS4 => ?_
    have hS5 := hS4.nc #[.int .i64 ((punctualref_F.f 2 0).Code), .int .i64 ((punctualref_F.f 2 0).At)] rfl
    refine ge_nil fun a hF => hK4 _ _ ?_ a hF
    have hS6 := hS5.takeN 0
    obtain rfl := Option.some.inj h
    exact we_ret (post_ret (rs := [.cell 2 27]) (ans := [.val (.int .i64 ((punctualref_F.f 2 0).Code)), .val (.int .i64 ((punctualref_F.f 2 0).At))]) (vs := [.agg #[.int .i64 ((punctualref_F.f 2 0).Code), .int .i64 ((punctualref_F.f 2 0).At)]]) (l := [.loaded ⟨b1, 0, none⟩ (.int .i64 ((punctualref_F.f 2 0).Code)), .loaded ⟨b1, 1, none⟩ (.int .i64 ((punctualref_F.f 2 0).At))]) rfl (by kernel_rfl) ⟨hS5.cell 0 rfl rfl, hS5.cell 0 rfl rfl, trivial⟩ ⟨rfl, hS6⟩)
  · rw [if_neg hc1] at h
    refine we_known (t := 9) (b := decide ((l0.length : Int) > 200)) (v := false) (by kernel_rfl) (decide_eq_false hc1) ?_
    refine we_false (by kernel_rfl) ?_
    refine we_skip fun a hF => hK2 _ _ ?_ a hF
    refine we_seq fun K5 hK5 => ?_
    refine we_region [(0, 0)] rfl ?_
    refine ge_batch [0] (ans := []) (vs := [(3, .string (⟨#[]⟩))]) (l := []) (by kernel_rfl) trivial ?_
    refine ge_nil fun a hF => hK5 _ _ ?_ a hF
    refine we_seq fun K6 hK6 => ?_
    refine we_seq fun K7 hK7 => ?_
    refine we_region [(0, 0), (1, 0), (2, 0)] rfl ?_
    refine ge_batch [0, 1, 2] (ans := []) (vs := [(13, .int .i64 0), (12, .int .i64 (l0.length : Int)), (11, .slice A0 l0.length c0)]) (l := []) (by kernel_rfl) trivial ?_
    refine ge_nil fun a hF => hK7 _ _ ?_ a hF
    refine we_block ?_
    rcases hq12 : iter (punctualref_CheckActs.r0 K l0) K (⟨#[]⟩, 0) with _ | (t3 | rr3)
    · rw [hq12] at h; cases h
    · rw [hq12] at h
      simp only [] at h
      refine we_iter (A := punctualref_CheckActs.A0 K w0 l0 A0 c0 hR0 hL0 b1 hc1) (B := punctualref_CheckActs.B0 K w0 l0 A0 c0 hR0 hL0 b1 hc1) hq12 (fun a hF => ⟨hS1, hF.weaken ⟨by kernel_rfl, by kernel_rfl, by kernel_rfl, by kernel_rfl, by kernel_rfl, by kernel_rfl, trivial⟩⟩) (fun s o hf a w hA Q hQ => punctualref_CheckActs_r0 K w0 l0 A0 c0 hR0 hL0 b1 hc1 s o hf a w hA Q hQ) ?_
      rintro _ a w25 _ ⟨rfl, hS77, hF⟩
      replace hS77 : St w0 w25 [Own.blk b1 (.cells #[.int .i64 0, .int .i64 0] 27 (0, 0))] := hS77
      refine hK6 [(0, .slice A0 l0.length c0), (2, .pointer (some ⟨b1, 0, none⟩)), (3, .string t3)] w25 ?_ a hF
      refine we_seq fun K35 hK35 => ?_
      refine we_seq fun K36 hK36 => ?_
      refine we_region [(0, 0), (1, 0)] rfl ?_
      refine ge_batch [0, 1] (ans := []) (vs := [(92, .bool (!(t3.toList == (⟨#[]⟩ : ByteArray).toList))), (91, .string t3)]) (l := []) (by kernel_rfl) trivial ?_
      refine ge_nil fun a hF => hK36 _ _ ?_ a hF
      by_cases hc18 : t3.toList = (⟨#[]⟩ : ByteArray).toList
      · rw [if_pos hc18] at h
        refine we_known (t := 92) (b := !(t3.toList == (⟨#[]⟩ : ByteArray).toList)) (v := false) (by kernel_rfl) (congrArg (fun z => !z) (beq_iff_eq.2 hc18)) ?_
        refine we_false (by kernel_rfl) ?_
        refine we_skip fun a hF => hK35 _ _ ?_ a hF
        refine we_seq fun K37 hK37 => ?_
        refine we_region [(0, 0), (1, 2)] rfl ?_
        refine ge_batch [0] (ans := []) (vs := [(96, .agg #[.int .i64 0, .int .i64 0])]) (l := []) (by kernel_rfl) trivial ?_
        refine ge_set (b := b1) (j := 0) (cs := #[.int .i64 0, .int .i64 0]) (t := 27) (vs := [.int .i64 0, .int .i64 0]) hS77 (by kernel_rfl) rfl rfl fun w26 hS78 => ?_
        have hS79 := hS78.nc #[.int .i64 0, .int .i64 0] rfl
        refine ge_nil fun a hF => hK37 _ _ ?_ a hF
        have hS80 := hS79.takeN 0
        obtain rfl := Option.some.inj h
        exact we_ret (post_ret (rs := [.cell 2 27]) (ans := [.val (.int .i64 0), .val (.int .i64 0)]) (vs := [.agg #[.int .i64 0, .int .i64 0]]) (l := [.loaded ⟨b1, 0, none⟩ (.int .i64 0), .loaded ⟨b1, 1, none⟩ (.int .i64 0)]) rfl (by kernel_rfl) ⟨hS79.cell 0 rfl rfl, hS79.cell 0 rfl rfl, trivial⟩ ⟨rfl, hS80⟩)
      · rw [if_neg hc18] at h
        refine we_known (t := 92) (b := !(t3.toList == (⟨#[]⟩ : ByteArray).toList)) (v := true) (by kernel_rfl) (congrArg (fun z => !z) (beq_eq_false_iff_ne.2 hc18)) ?_
        refine we_true (by kernel_rfl) ?_
        refine we_seq fun K38 hK38 => ?_
        refine we_region [(0, 0), (1, 0), (2, 1), (3, 2)] rfl ?_
        refine ge_batch [0, 1] (ans := []) (vs := [(94, .int .i64 (l0.length : Int)), (93, .slice A0 l0.length c0)]) (l := []) (by kernel_rfl) trivial ?_
        refine ge_call (d := some 95) (f := 61) (args := #[.int .i64 10, .int .i64 (l0.length : Int)]) (by kernel_rfl) (punctualref_F_ok 10 (l0.length : Int) _ _ rfl) ?_
        rintro _ w27 ⟨rfl, hS81⟩
        refine ⟨_, rfl, hS81.below, ?_⟩
        have hS82 := hS77.call hS81
        refine ge_set (b := b1) (j := 0) (cs := #[.int .i64 0, .int .i64 0]) (t := 27) (vs := [.int .i64 ((punctualref_F.f 10 (l0.length : Int)).Code), .int .i64 ((punctualref_F.f 10 (l0.length : Int)).At)]) hS82 (by kernel_rfl) rfl rfl fun w28 hS83 => ?_
        have hS84 := hS83.nc #[.int .i64 ((punctualref_F.f 10 (l0.length : Int)).Code), .int .i64 ((punctualref_F.f 10 (l0.length : Int)).At)] rfl
        refine ge_nil fun a hF => hK38 _ _ ?_ a hF
        have hS85 := hS84.takeN 0
        obtain rfl := Option.some.inj h
        exact we_ret (post_ret (rs := [.cell 2 27]) (ans := [.val (.int .i64 ((punctualref_F.f 10 (l0.length : Int)).Code)), .val (.int .i64 ((punctualref_F.f 10 (l0.length : Int)).At))]) (vs := [.agg #[.int .i64 ((punctualref_F.f 10 (l0.length : Int)).Code), .int .i64 ((punctualref_F.f 10 (l0.length : Int)).At)]]) (l := [.loaded ⟨b1, 0, none⟩ (.int .i64 ((punctualref_F.f 10 (l0.length : Int)).Code)), .loaded ⟨b1, 1, none⟩ (.int .i64 ((punctualref_F.f 10 (l0.length : Int)).At))]) rfl (by kernel_rfl) ⟨hS84.cell 0 rfl rfl, hS84.cell 0 rfl rfl, trivial⟩ ⟨rfl, hS85⟩)
    · rw [hq12] at h
      simp only [] at h
      refine we_iter (A := punctualref_CheckActs.A0 K w0 l0 A0 c0 hR0 hL0 b1 hc1) (B := punctualref_CheckActs.B0 K w0 l0 A0 c0 hR0 hL0 b1 hc1) hq12 (fun a hF => ⟨hS1, hF.weaken ⟨by kernel_rfl, by kernel_rfl, by kernel_rfl, by kernel_rfl, by kernel_rfl, by kernel_rfl, trivial⟩⟩) (fun s o hf a w hA Q hQ => punctualref_CheckActs_r0 K w0 l0 A0 c0 hR0 hL0 b1 hc1 s o hf a w hA Q hQ) ?_
      rintro _ a w1 _ ⟨rfl, hb⟩
      obtain rfl := Option.some.inj h
      exact hb

/-! punctual/punctualref.Stretch -/
abbrev punctualref_Stretch.Post (w0 : World) (r : Int) (e : Ending) (w : World) : Prop := e = .returned (.int .i64 r) ∧ St w0 w []
def punctualref_Stretch.p1 (z2 : Int) (z3 : Int) (e1 : SAct) : Option (Int ⊕ Int) :=
    if e1.Do = 1 then
      if z3 > 0 then
        some (.inl (IntKind.i64.wrap (z2 + e1.N)))
      else
        some (.inl z2)
    else
      some (.inl z2)
def punctualref_Stretch.r0 (l0 : List SAct) : Int × Int × Int × Nat → Option ((Int × Int × Int × Nat) ⊕ (Int ⊕ Int))
  | (z1, z2, z3, i1) =>
    if (i1 : Int) < (l0.length : Int) then
      match l0[i1]? with
      | none => none
      | some e1 =>
        match punctualref_Stretch.p1 z2 z3 e1 with
        | none => none
        | some (.inl z6) =>
          if e1.Do = 2 then
            if e1.Do = 3 then
              if z6 > z1 then
                if (IntKind.i64.wrap ((IntKind.i64.wrap (z3 + 1)) - 1)) = 0 then
                  some (.inl (z6, 0, IntKind.i64.wrap ((IntKind.i64.wrap (z3 + 1)) - 1), (i1 + 1)))
                else
                  some (.inl (z6, z6, IntKind.i64.wrap ((IntKind.i64.wrap (z3 + 1)) - 1), (i1 + 1)))
              else
                if (IntKind.i64.wrap ((IntKind.i64.wrap (z3 + 1)) - 1)) = 0 then
                  some (.inl (z1, 0, IntKind.i64.wrap ((IntKind.i64.wrap (z3 + 1)) - 1), (i1 + 1)))
                else
                  some (.inl (z1, z6, IntKind.i64.wrap ((IntKind.i64.wrap (z3 + 1)) - 1), (i1 + 1)))
            else
              if z6 > z1 then
                if (IntKind.i64.wrap (z3 + 1)) = 0 then
                  some (.inl (z6, 0, IntKind.i64.wrap (z3 + 1), (i1 + 1)))
                else
                  some (.inl (z6, z6, IntKind.i64.wrap (z3 + 1), (i1 + 1)))
              else
                if (IntKind.i64.wrap (z3 + 1)) = 0 then
                  some (.inl (z1, 0, IntKind.i64.wrap (z3 + 1), (i1 + 1)))
                else
                  some (.inl (z1, z6, IntKind.i64.wrap (z3 + 1), (i1 + 1)))
          else
            if e1.Do = 3 then
              if z6 > z1 then
                if (IntKind.i64.wrap (z3 - 1)) = 0 then
                  some (.inl (z6, 0, IntKind.i64.wrap (z3 - 1), (i1 + 1)))
                else
                  some (.inl (z6, z6, IntKind.i64.wrap (z3 - 1), (i1 + 1)))
              else
                if (IntKind.i64.wrap (z3 - 1)) = 0 then
                  some (.inl (z1, 0, IntKind.i64.wrap (z3 - 1), (i1 + 1)))
                else
                  some (.inl (z1, z6, IntKind.i64.wrap (z3 - 1), (i1 + 1)))
            else
              if z6 > z1 then
                if z3 = 0 then
                  some (.inl (z6, 0, z3, (i1 + 1)))
                else
                  some (.inl (z6, z6, z3, (i1 + 1)))
              else
                if z3 = 0 then
                  some (.inl (z1, 0, z3, (i1 + 1)))
                else
                  some (.inl (z1, z6, z3, (i1 + 1)))
        | some (.inr rr1) =>
          some (.inr (.inr rr1))
    else
      some (.inr (.inl z1))
def punctualref_Stretch.f (K : Nat) (l0 : List SAct) : Option Int :=
  match iter (punctualref_Stretch.r0 l0) K (0, 0, 0, 0) with
  | none => none
  | some (.inl z7) =>
    some z7
  | some (.inr rr2) =>
    some rr2
abbrev punctualref_Stretch.A1 (K : Nat) (w0 : World) (l0 : List SAct) (A0 : Option Addr) (c0 : Nat) (hR0 : RdL w0 A0 l0) (hL0 : l0.length ≤ c0) (z1 : Int) (z2 : Int) (z3 : Int) (i1 : Nat) (hc1 : (i1 : Int) < (l0.length : Int)) (e1 : SAct) (hx1 : l0[i1]? = some e1) (b1 : Nat) : Int → Act → World → Prop := fun (s : Int) a w => St w0 w [Own.blk b1 (.cells #[.int .i64 e1.Do, .int .i64 e1.N] 39 (0, 0))] ∧ Frm 43 a [(3, .int .i64 z1), (4, .int .i64 s), (5, .int .i64 z3), (7, .pointer (some ⟨b1, 0, none⟩)), (8, .slice A0 l0.length c0), (9, .int .i64 (l0.length : Int)), (10, .int .i64 (i1 : Int))]
abbrev punctualref_Stretch.B1 (K : Nat) (w0 : World) (l0 : List SAct) (A0 : Option Addr) (c0 : Nat) (hR0 : RdL w0 A0 l0) (hL0 : l0.length ≤ c0) (z1 : Int) (z2 : Int) (z3 : Int) (i1 : Nat) (hc1 : (i1 : Int) < (l0.length : Int)) (e1 : SAct) (hx1 : l0[i1]? = some e1) (b1 : Nat) : Int → Exit → Act → World → Prop := Rets Tryd.prog Tryd.f17 (punctualref_Stretch.Post w0)
theorem punctualref_Stretch_p1 (K : Nat) (w0 : World) (l0 : List SAct) (A0 : Option Addr) (c0 : Nat) (hR0 : RdL w0 A0 l0) (hL0 : l0.length ≤ c0) (z1 : Int) (z2 : Int) (z3 : Int) (i1 : Nat) (hc1 : (i1 : Int) < (l0.length : Int)) (e1 : SAct) (hx1 : l0[i1]? = some e1) (b1 : Nat) (o : Int ⊕ Int) (h : punctualref_Stretch.p1 z2 z3 e1 = some o) (w : World) (hS : St w0 w [Own.blk b1 (.cells #[.int .i64 e1.Do, .int .i64 e1.N] 39 (0, 0))]) (Q : Exit → Act → World → Prop) (hQ : ∀ x a w, Outs (punctualref_Stretch.A1 K w0 l0 A0 c0 hR0 hL0 z1 z2 z3 i1 hc1 e1 hx1 b1) (punctualref_Stretch.B1 K w0 l0 A0 c0 hR0 hL0 z1 z2 z3 i1 hc1 e1 hx1 b1) o x a w → Q x a w) : WE Tryd.prog 43 (subF Tryd.f17 [1, 1, 0, 1, 0, 0, 1, 1, 0, 0, 1, 0]) Q [(3, .int .i64 z1), (4, .int .i64 z2), (5, .int .i64 z3), (7, .pointer (some ⟨b1, 0, none⟩)), (8, .slice A0 l0.length c0), (9, .int .i64 (l0.length : Int)), (10, .int .i64 (i1 : Int)), (11, .bool true), (12, .pointer (some ⟨blkOf A0, offOf A0 + i1 * 2, none⟩)), (13, .agg #[.int .i64 e1.Do, .int .i64 e1.N])] w := by
  simp only [punctualref_Stretch.p1] at h
  refine we_seq fun K10 hK10 => ?_
  refine we_region [(0, 0), (1, 0), (2, 0), (3, 0), (4, 0), (5, 0), (6, 0)] rfl ?_
  refine ge_batch [0, 1, 2, 3] (ans := [.val (.int .i64 e1.Do)]) (vs := [(17, .bool (e1.Do == 1)), (16, .bool (e1.Do == 1)), (15, .int .i64 e1.Do), (14, .pointer (some ⟨b1, 0, none⟩))]) (l := [.loaded ⟨b1, 0, none⟩ (.int .i64 e1.Do)]) (by kernel_rfl) ⟨hS.cell 0 rfl rfl, trivial⟩ ?_
  by_cases hc2 : e1.Do = 1
  · rw [if_pos hc2] at h
    refine ge_known (t := 17) (b := (e1.Do == 1)) (c := true) (by kernel_rfl) (beq_iff_eq.2 hc2) ?_
    refine ge_batch [4, 5, 6] (ans := []) (vs := [(20, .bool (decide (z3 > 0))), (19, .bool (decide (z3 > 0))), (18, .int .i64 z3)]) (l := []) (by kernel_rfl) trivial ?_
    refine ge_nil fun a hF => hK10 _ _ ?_ a hF
    by_cases hc3 : z3 > 0
    · rw [if_pos hc3] at h
      refine we_known (t := 20) (b := decide (z3 > 0)) (v := true) (by kernel_rfl) (decide_eq_true hc3) ?_
      refine we_true (by kernel_rfl) ?_
      refine we_region [(0, 0), (1, 0), (2, 0), (3, 0), (4, 0)] rfl ?_
      refine ge_batch [0, 1, 2, 3, 4] (ans := [.val (.int .i64 e1.N)]) (vs := [(4, .int .i64 (IntKind.i64.wrap (z2 + e1.N))), (24, .int .i64 (IntKind.i64.wrap (z2 + e1.N))), (23, .int .i64 e1.N), (22, .pointer (some ⟨b1, 1, none⟩)), (21, .int .i64 z2)]) (l := [.loaded ⟨b1, 1, none⟩ (.int .i64 e1.N)]) (by kernel_rfl) ⟨hS.cell 0 rfl rfl, trivial⟩ ?_
      obtain rfl := Option.some.inj h
      exact ge_nil fun a hF => hQ _ _ _ (Outs.again ⟨hS, hF.weaken ⟨by kernel_rfl, by kernel_rfl, by kernel_rfl, by kernel_rfl, by kernel_rfl, by kernel_rfl, by kernel_rfl, trivial⟩⟩)
    · rw [if_neg hc3] at h
      refine we_known (t := 20) (b := decide (z3 > 0)) (v := false) (by kernel_rfl) (decide_eq_false hc3) ?_
      refine we_false (by kernel_rfl) ?_
      obtain rfl := Option.some.inj h
      exact we_skip fun a hF => hQ _ _ _ (Outs.again ⟨hS, hF.weaken ⟨by kernel_rfl, by kernel_rfl, by kernel_rfl, by kernel_rfl, by kernel_rfl, by kernel_rfl, by kernel_rfl, trivial⟩⟩)
  · rw [if_neg hc2] at h
    refine ge_known (t := 17) (b := (e1.Do == 1)) (c := false) (by kernel_rfl) (beq_eq_false_iff_ne.2 hc2) ?_
    refine ge_batch [4, 5, 6] (ans := []) (vs := [(20, .bool false), (19, undef), (18, undef)]) (l := []) (by kernel_rfl) trivial ?_
    refine ge_nil fun a hF => hK10 _ _ ?_ a hF
    refine we_false (by kernel_rfl) ?_
    obtain rfl := Option.some.inj h
    exact we_skip fun a hF => hQ _ _ _ (Outs.again ⟨hS, hF.weaken ⟨by kernel_rfl, by kernel_rfl, by kernel_rfl, by kernel_rfl, by kernel_rfl, by kernel_rfl, by kernel_rfl, trivial⟩⟩)
abbrev punctualref_Stretch.A0 (K : Nat) (w0 : World) (l0 : List SAct) (A0 : Option Addr) (c0 : Nat) (hR0 : RdL w0 A0 l0) (hL0 : l0.length ≤ c0) : (Int × Int × Int × Nat) → Act → World → Prop := fun (s : Int × Int × Int × Nat) a w => St w0 w [] ∧ Frm 43 a [(3, .int .i64 s.1), (4, .int .i64 s.2.1), (5, .int .i64 s.2.2.1), (8, .slice A0 l0.length c0), (9, .int .i64 (l0.length : Int)), (10, .int .i64 (s.2.2.2 : Int))]
abbrev punctualref_Stretch.B0 (K : Nat) (w0 : World) (l0 : List SAct) (A0 : Option Addr) (c0 : Nat) (hR0 : RdL w0 A0 l0) (hL0 : l0.length ≤ c0) : (Int ⊕ Int) → Exit → Act → World → Prop := Exits 0 (fun (s : Int) a w => St w0 w [] ∧ Frm 43 a [(3, .int .i64 s)]) (Rets Tryd.prog Tryd.f17 (punctualref_Stretch.Post w0))
theorem punctualref_Stretch_r0 (K : Nat) (w0 : World) (l0 : List SAct) (A0 : Option Addr) (c0 : Nat) (hR0 : RdL w0 A0 l0) (hL0 : l0.length ≤ c0) (s : Int × Int × Int × Nat) (o : (Int × Int × Int × Nat) ⊕ (Int ⊕ Int)) (h : punctualref_Stretch.r0 l0 s = some o) (a : Act) (w : World) (hA : punctualref_Stretch.A0 K w0 l0 A0 c0 hR0 hL0 s a w) (Q : Exit → Act → World → Prop) (hQ : ∀ x a w, Outs (punctualref_Stretch.A0 K w0 l0 A0 c0 hR0 hL0) (punctualref_Stretch.B0 K w0 l0 A0 c0 hR0 hL0) o x a w → Q x a w) : (subF Tryd.f17 [1, 1, 0, 1, 0, 0]).wp Tryd.prog Q a w := by
  obtain ⟨z1, z2, z3, i1⟩ := s
  obtain ⟨hS, hF⟩ := hA
  replace hS : St w0 w [] := hS
  simp only [punctualref_Stretch.r0] at h
  refine (?_ : WE Tryd.prog 43 (subF Tryd.f17 [1, 1, 0, 1, 0, 0]) Q [(3, .int .i64 z1), (4, .int .i64 z2), (5, .int .i64 z3), (8, .slice A0 l0.length c0), (9, .int .i64 (l0.length : Int)), (10, .int .i64 (i1 : Int))] w) a hF
  clear hF a
  refine we_seq fun K5 hK5 => ?_
  refine we_region [(0, 0)] rfl ?_
  refine ge_batch [0] (ans := []) (vs := [(11, .bool (decide ((i1 : Int) < (l0.length : Int))))]) (l := []) (by kernel_rfl) trivial ?_
  refine ge_nil fun a hF => hK5 _ _ ?_ a hF
  refine we_seq fun K6 hK6 => ?_
  by_cases hc1 : (i1 : Int) < (l0.length : Int)
  · rw [if_pos hc1] at h
    refine we_known (t := 11) (b := decide ((i1 : Int) < (l0.length : Int))) (v := true) (by kernel_rfl) (decide_eq_true hc1) ?_
    refine we_true (by kernel_rfl) ?_
    refine we_skip fun a hF => hK6 _ _ ?_ a hF
    refine we_seq fun K7 hK7 => ?_
    refine we_block ?_
    refine we_seq fun K8 hK8 => ?_
    refine we_region [(0, 0), (1, 0), (2, 1), (3, 2)] rfl ?_
    rcases hx1 : l0[i1]? with _ | e1
    · rw [hx1] at h; cases h
    rw [hx1] at h
    simp only [] at h
    refine ge_index (d := 12) (ty := 0) (t := 22) (el := 39) (sz := 2) (m := l0.length) (c := c0) (x := (.tmp 8)) (y := (.tmp 10)) (A := A0) (k' := .i64) (j := (i1 : Int)) (jn := i1) (b0 := blkOf A0) (o0 := offOf A0) (by kernel_rfl) (by kernel_rfl) (by kernel_rfl) (by kernel_rfl) (by kernel_rfl) ((hS.rd hR0).eqSome (pos_of_get hx1)) rfl (lt_of_get hx1) ?_
    refine ge_batch [1] (ans := [.val (.int .i64 e1.Do), .val (.int .i64 e1.N)]) (vs := [(13, .agg #[.int .i64 e1.Do, .int .i64 e1.N])]) (l := [.loaded ⟨blkOf A0, offOf A0 + i1 * 2, none⟩ (.int .i64 e1.Do), .loaded ⟨blkOf A0, offOf A0 + i1 * 2 + 1, none⟩ (.int .i64 e1.N)]) (by kernel_rfl) ⟨RdL.cell (j := 0) (hS.rd hR0) hx1 rfl, RdL.cell (j := 1) (hS.rd hR0) hx1 rfl, trivial⟩ ?_
    refine ge_new (d := some 7) (o := .cells #[.int .i64 0, .int .i64 0] 39) (v := fun b => .pointer (some ⟨b, 0, none⟩)) hS (fun b => by kernel_rfl) fun b1 w1 hx2 hS1 => ?_
    refine ge_set (b := b1) (j := 0) (cs := #[.int .i64 0, .int .i64 0]) (t := 39) (vs := [.int .i64 e1.Do, .int .i64 e1.N]) hS1 (by kernel_rfl) rfl rfl fun w2 hS2 => ?_
    have hS3 := hS2.nc #[.int .i64 e1.Do, .int .i64 e1.N] rfl
    refine ge_nil fun a hF => hK8 _ _ ?_ a hF
    refine we_seq fun K9 hK9 => ?_
    rcases hq1 : punctualref_Stretch.p1 z2 z3 e1 with _ | (z6 | rr1)
    · rw [hq1] at h; cases h
    · rw [hq1] at h
      simp only [] at h
      refine we_keep (e' := [(3, .int .i64 z1), (4, .int .i64 z2), (5, .int .i64 z3), (7, .pointer (some ⟨b1, 0, none⟩)), (8, .slice A0 l0.length c0), (9, .int .i64 (l0.length : Int)), (10, .int .i64 (i1 : Int)), (11, .bool true), (12, .pointer (some ⟨blkOf A0, offOf A0 + i1 * 2, none⟩)), (13, .agg #[.int .i64 e1.Do, .int .i64 e1.N])]) ⟨by kernel_rfl, by kernel_rfl, by kernel_rfl, by kernel_rfl, by kernel_rfl, by kernel_rfl, by kernel_rfl, by kernel_rfl, by kernel_rfl, by kernel_rfl, trivial⟩ (punctualref_Stretch_p1 K w0 l0 A0 c0 hR0 hL0 z1 z2 z3 i1 hc1 e1 hx1 b1 _ hq1 _ hS3 _ ?_)
      rintro _ a w3 ⟨rfl, hS4, hF⟩
      replace hS4 : St w0 w3 [Own.blk b1 (.cells #[.int .i64 e1.Do, .int .i64 e1.N] 39 (0, 0))] := hS4
      refine hK9 [(3, .int .i64 z1), (4, .int .i64 z6), (5, .int .i64 z3), (7, .pointer (some ⟨b1, 0, none⟩)), (8, .slice A0 l0.length c0), (9, .int .i64 (l0.length : Int)), (10, .int .i64 (i1 : Int))] w3 ?_ a hF
      refine we_seq fun K11 hK11 => ?_
      refine we_seq fun K12 hK12 => ?_
      refine we_region [(0, 0), (1, 0), (2, 0)] rfl ?_
      refine ge_batch [0, 1, 2] (ans := [.val (.int .i64 e1.Do)]) (vs := [(27, .bool (e1.Do == 2)), (26, .int .i64 e1.Do), (25, .pointer (some ⟨b1, 0, none⟩))]) (l := [.loaded ⟨b1, 0, none⟩ (.int .i64 e1.Do)]) (by kernel_rfl) ⟨hS4.cell 0 rfl rfl, trivial⟩ ?_
      refine ge_nil fun a hF => hK12 _ _ ?_ a hF
      by_cases hc4 : e1.Do = 2
      · rw [if_pos hc4] at h
        refine we_known (t := 27) (b := (e1.Do == 2)) (v := true) (by kernel_rfl) (beq_iff_eq.2 hc4) ?_
        refine we_true (by kernel_rfl) ?_
        refine we_region [(0, 0), (1, 0), (2, 0)] rfl ?_
        refine ge_batch [0, 1, 2] (ans := []) (vs := [(5, .int .i64 (IntKind.i64.wrap (z3 + 1))), (29, .int .i64 (IntKind.i64.wrap (z3 + 1))), (28, .int .i64 z3)]) (l := []) (by kernel_rfl) trivial ?_
        refine ge_nil fun a hF => hK11 _ _ ?_ a hF
        refine we_seq fun K13 hK13 => ?_
        refine we_seq fun K14 hK14 => ?_
        refine we_region [(0, 0), (1, 0), (2, 0)] rfl ?_
        refine ge_batch [0, 1, 2] (ans := [.val (.int .i64 e1.Do)]) (vs := [(32, .bool (e1.Do == 3)), (31, .int .i64 e1.Do), (30, .pointer (some ⟨b1, 0, none⟩))]) (l := [.loaded ⟨b1, 0, none⟩ (.int .i64 e1.Do)]) (by kernel_rfl) ⟨hS4.cell 0 rfl rfl, trivial⟩ ?_
        refine ge_nil fun a hF => hK14 _ _ ?_ a hF
        by_cases hc5 : e1.Do = 3
        · rw [if_pos hc5] at h
          refine we_known (t := 32) (b := (e1.Do == 3)) (v := true) (by kernel_rfl) (beq_iff_eq.2 hc5) ?_
          refine we_true (by kernel_rfl) ?_
          refine we_region [(0, 0), (1, 0), (2, 0)] rfl ?_
          refine ge_batch [0, 1, 2] (ans := []) (vs := [(5, .int .i64 (IntKind.i64.wrap ((IntKind.i64.wrap (z3 + 1)) - 1))), (34, .int .i64 (IntKind.i64.wrap ((IntKind.i64.wrap (z3 + 1)) - 1))), (33, .int .i64 (IntKind.i64.wrap (z3 + 1)))]) (l := []) (by kernel_rfl) trivial ?_
          refine ge_nil fun a hF => hK13 _ _ ?_ a hF
          refine we_seq fun K15 hK15 => ?_
          refine we_seq fun K16 hK16 => ?_
          refine we_region [(0, 0), (1, 0), (2, 0)] rfl ?_
          refine ge_batch [0, 1, 2] (ans := []) (vs := [(37, .bool (decide (z6 > z1))), (36, .int .i64 z1), (35, .int .i64 z6)]) (l := []) (by kernel_rfl) trivial ?_
          refine ge_nil fun a hF => hK16 _ _ ?_ a hF
          by_cases hc6 : z6 > z1
          · rw [if_pos hc6] at h
            refine we_known (t := 37) (b := decide (z6 > z1)) (v := true) (by kernel_rfl) (decide_eq_true hc6) ?_
            refine we_true (by kernel_rfl) ?_
            refine we_region [(0, 0), (1, 0)] rfl ?_
            refine ge_batch [0, 1] (ans := []) (vs := [(3, .int .i64 z6), (38, .int .i64 z6)]) (l := []) (by kernel_rfl) trivial ?_
            refine ge_nil fun a hF => hK15 _ _ ?_ a hF
            refine we_seq fun K17 hK17 => ?_
            refine we_region [(0, 0), (1, 0)] rfl ?_
            refine ge_batch [0, 1] (ans := []) (vs := [(40, .bool ((IntKind.i64.wrap ((IntKind.i64.wrap (z3 + 1)) - 1)) == 0)), (39, .int .i64 (IntKind.i64.wrap ((IntKind.i64.wrap (z3 + 1)) - 1)))]) (l := []) (by kernel_rfl) trivial ?_
            refine ge_nil fun a hF => hK17 _ _ ?_ a hF
            by_cases hc7 : (IntKind.i64.wrap ((IntKind.i64.wrap (z3 + 1)) - 1)) = 0
            · rw [if_pos hc7] at h
              refine we_known (t := 40) (b := ((IntKind.i64.wrap ((IntKind.i64.wrap (z3 + 1)) - 1)) == 0)) (v := true) (by kernel_rfl) (beq_iff_eq.2 hc7) ?_
              refine we_true (by kernel_rfl) ?_
              refine we_region [(0, 0)] rfl ?_
              refine ge_batch [0] (ans := []) (vs := [(4, .int .i64 0)]) (l := []) (by kernel_rfl) trivial ?_
              refine ge_nil fun a hF => hK7 _ _ ?_ a hF
              refine we_region [(0, 0), (1, 0)] rfl ?_
              refine ge_addn (d := 41) (ty := 3) (x := (.tmp 10)) (y := (.const (.int .i64 1))) (t := 3) (t2 := 3) (k := .i64) (m := i1) (by kernel_rfl) (by kernel_rfl) (by kernel_rfl) (by have h0 := hR0.small; omega) ?_
              refine ge_batch [1] (ans := []) (vs := [(10, .int .i64 ((i1 + 1 : Nat) : Int))]) (l := []) (by kernel_rfl) trivial ?_
              have hS5 := hS4.takeN 0
              obtain rfl := Option.some.inj h
              exact ge_nil fun a hF => hQ _ _ _ (Outs.again ⟨hS5, hF.weaken ⟨by kernel_rfl, by kernel_rfl, by kernel_rfl, by kernel_rfl, by kernel_rfl, by kernel_rfl, trivial⟩⟩)
            · rw [if_neg hc7] at h
              refine we_known (t := 40) (b := ((IntKind.i64.wrap ((IntKind.i64.wrap (z3 + 1)) - 1)) == 0)) (v := false) (by kernel_rfl) (beq_eq_false_iff_ne.2 hc7) ?_
              refine we_false (by kernel_rfl) ?_
              refine we_skip fun a hF => hK7 _ _ ?_ a hF
              refine we_region [(0, 0), (1, 0)] rfl ?_
              refine ge_addn (d := 41) (ty := 3) (x := (.tmp 10)) (y := (.const (.int .i64 1))) (t := 3) (t2 := 3) (k := .i64) (m := i1) (by kernel_rfl) (by kernel_rfl) (by kernel_rfl) (by have h0 := hR0.small; omega) ?_
              refine ge_batch [1] (ans := []) (vs := [(10, .int .i64 ((i1 + 1 : Nat) : Int))]) (l := []) (by kernel_rfl) trivial ?_
              have hS6 := hS4.takeN 0
              obtain rfl := Option.some.inj h
              exact ge_nil fun a hF => hQ _ _ _ (Outs.again ⟨hS6, hF.weaken ⟨by kernel_rfl, by kernel_rfl, by kernel_rfl, by kernel_rfl, by kernel_rfl, by kernel_rfl, trivial⟩⟩)
          · rw [if_neg hc6] at h
            refine we_known (t := 37) (b := decide (z6 > z1)) (v := false) (by kernel_rfl) (decide_eq_false hc6) ?_
            refine we_false (by kernel_rfl) ?_
            refine we_skip fun a hF => hK15 _ _ ?_ a hF
            refine we_seq fun K18 hK18 => ?_
            refine we_region [(0, 0), (1, 0)] rfl ?_
            refine ge_batch [0, 1] (ans := []) (vs := [(40, .bool ((IntKind.i64.wrap ((IntKind.i64.wrap (z3 + 1)) - 1)) == 0)), (39, .int .i64 (IntKind.i64.wrap ((IntKind.i64.wrap (z3 + 1)) - 1)))]) (l := []) (by kernel_rfl) trivial ?_
            refine ge_nil fun a hF => hK18 _ _ ?_ a hF
            by_cases hc8 : (IntKind.i64.wrap ((IntKind.i64.wrap (z3 + 1)) - 1)) = 0
            · rw [if_pos hc8] at h
              refine we_known (t := 40) (b := ((IntKind.i64.wrap ((IntKind.i64.wrap (z3 + 1)) - 1)) == 0)) (v := true) (by kernel_rfl) (beq_iff_eq.2 hc8) ?_
              refine we_true (by kernel_rfl) ?_
              refine we_region [(0, 0)] rfl ?_
              refine ge_batch [0] (ans := []) (vs := [(4, .int .i64 0)]) (l := []) (by kernel_rfl) trivial ?_
              refine ge_nil fun a hF => hK7 _ _ ?_ a hF
              refine we_region [(0, 0), (1, 0)] rfl ?_
              refine ge_addn (d := 41) (ty := 3) (x := (.tmp 10)) (y := (.const (.int .i64 1))) (t := 3) (t2 := 3) (k := .i64) (m := i1) (by kernel_rfl) (by kernel_rfl) (by kernel_rfl) (by have h0 := hR0.small; omega) ?_
              refine ge_batch [1] (ans := []) (vs := [(10, .int .i64 ((i1 + 1 : Nat) : Int))]) (l := []) (by kernel_rfl) trivial ?_
              have hS7 := hS4.takeN 0
              obtain rfl := Option.some.inj h
              exact ge_nil fun a hF => hQ _ _ _ (Outs.again ⟨hS7, hF.weaken ⟨by kernel_rfl, by kernel_rfl, by kernel_rfl, by kernel_rfl, by kernel_rfl, by kernel_rfl, trivial⟩⟩)
            · rw [if_neg hc8] at h
              refine we_known (t := 40) (b := ((IntKind.i64.wrap ((IntKind.i64.wrap (z3 + 1)) - 1)) == 0)) (v := false) (by kernel_rfl) (beq_eq_false_iff_ne.2 hc8) ?_
              refine we_false (by kernel_rfl) ?_
              refine we_skip fun a hF => hK7 _ _ ?_ a hF
              refine we_region [(0, 0), (1, 0)] rfl ?_
              refine ge_addn (d := 41) (ty := 3) (x := (.tmp 10)) (y := (.const (.int .i64 1))) (t := 3) (t2 := 3) (k := .i64) (m := i1) (by kernel_rfl) (by kernel_rfl) (by kernel_rfl) (by have h0 := hR0.small; omega) ?_
              refine ge_batch [1] (ans := []) (vs := [(10, .int .i64 ((i1 + 1 : Nat) : Int))]) (l := []) (by kernel_rfl) trivial ?_
              have hS8 := hS4.takeN 0
              obtain rfl := Option.some.inj h
              exact ge_nil fun a hF => hQ _ _ _ (Outs.again ⟨hS8, hF.weaken ⟨by kernel_rfl, by kernel_rfl, by kernel_rfl, by kernel_rfl, by kernel_rfl, by kernel_rfl, trivial⟩⟩)
        · rw [if_neg hc5] at h
          refine we_known (t := 32) (b := (e1.Do == 3)) (v := false) (by kernel_rfl) (beq_eq_false_iff_ne.2 hc5) ?_
          refine we_false (by kernel_rfl) ?_
          refine we_skip fun a hF => hK13 _ _ ?_ a hF
          refine we_seq fun K19 hK19 => ?_
          refine we_seq fun K20 hK20 => ?_
          refine we_region [(0, 0), (1, 0), (2, 0)] rfl ?_
          refine ge_batch [0, 1, 2] (ans := []) (vs := [(37, .bool (decide (z6 > z1))), (36, .int .i64 z1), (35, .int .i64 z6)]) (l := []) (by kernel_rfl) trivial ?_
          refine ge_nil fun a hF => hK20 _ _ ?_ a hF
          by_cases hc9 : z6 > z1
          · rw [if_pos hc9] at h
            refine we_known (t := 37) (b := decide (z6 > z1)) (v := true) (by kernel_rfl) (decide_eq_true hc9) ?_
            refine we_true (by kernel_rfl) ?_
            refine we_region [(0, 0), (1, 0)] rfl ?_
            refine ge_batch [0, 1] (ans := []) (vs := [(3, .int .i64 z6), (38, .int .i64 z6)]) (l := []) (by kernel_rfl) trivial ?_
            refine ge_nil fun a hF => hK19 _ _ ?_ a hF
            refine we_seq fun K21 hK21 => ?_
            refine we_region [(0, 0), (1, 0)] rfl ?_
            refine ge_batch [0, 1] (ans := []) (vs := [(40, .bool ((IntKind.i64.wrap (z3 + 1)) == 0)), (39, .int .i64 (IntKind.i64.wrap (z3 + 1)))]) (l := []) (by kernel_rfl) trivial ?_
            refine ge_nil fun a hF => hK21 _ _ ?_ a hF
            by_cases hc10 : (IntKind.i64.wrap (z3 + 1)) = 0
            · rw [if_pos hc10] at h
              refine we_known (t := 40) (b := ((IntKind.i64.wrap (z3 + 1)) == 0)) (v := true) (by kernel_rfl) (beq_iff_eq.2 hc10) ?_
              refine we_true (by kernel_rfl) ?_
              refine we_region [(0, 0)] rfl ?_
              refine ge_batch [0] (ans := []) (vs := [(4, .int .i64 0)]) (l := []) (by kernel_rfl) trivial ?_
              refine ge_nil fun a hF => hK7 _ _ ?_ a hF
              refine we_region [(0, 0), (1, 0)] rfl ?_
              refine ge_addn (d := 41) (ty := 3) (x := (.tmp 10)) (y := (.const (.int .i64 1))) (t := 3) (t2 := 3) (k := .i64) (m := i1) (by kernel_rfl) (by kernel_rfl) (by kernel_rfl) (by have h0 := hR0.small; omega) ?_
              refine ge_batch [1] (ans := []) (vs := [(10, .int .i64 ((i1 + 1 : Nat) : Int))]) (l := []) (by kernel_rfl) trivial ?_
              have hS9 := hS4.takeN 0
              obtain rfl := Option.some.inj h
              exact ge_nil fun a hF => hQ _ _ _ (Outs.again ⟨hS9, hF.weaken ⟨by kernel_rfl, by kernel_rfl, by kernel_rfl, by kernel_rfl, by kernel_rfl, by kernel_rfl, trivial⟩⟩)
            · rw [if_neg hc10] at h
              refine we_known (t := 40) (b := ((IntKind.i64.wrap (z3 + 1)) == 0)) (v := false) (by kernel_rfl) (beq_eq_false_iff_ne.2 hc10) ?_
              refine we_false (by kernel_rfl) ?_
              refine we_skip fun a hF => hK7 _ _ ?_ a hF
              refine we_region [(0, 0), (1, 0)] rfl ?_
              refine ge_addn (d := 41) (ty := 3) (x := (.tmp 10)) (y := (.const (.int .i64 1))) (t := 3) (t2 := 3) (k := .i64) (m := i1) (by kernel_rfl) (by kernel_rfl) (by kernel_rfl) (by have h0 := hR0.small; omega) ?_
              refine ge_batch [1] (ans := []) (vs := [(10, .int .i64 ((i1 + 1 : Nat) : Int))]) (l := []) (by kernel_rfl) trivial ?_
              have hS10 := hS4.takeN 0
              obtain rfl := Option.some.inj h
              exact ge_nil fun a hF => hQ _ _ _ (Outs.again ⟨hS10, hF.weaken ⟨by kernel_rfl, by kernel_rfl, by kernel_rfl, by kernel_rfl, by kernel_rfl, by kernel_rfl, trivial⟩⟩)
          · rw [if_neg hc9] at h
            refine we_known (t := 37) (b := decide (z6 > z1)) (v := false) (by kernel_rfl) (decide_eq_false hc9) ?_
            refine we_false (by kernel_rfl) ?_
            refine we_skip fun a hF => hK19 _ _ ?_ a hF
            refine we_seq fun K22 hK22 => ?_
            refine we_region [(0, 0), (1, 0)] rfl ?_
            refine ge_batch [0, 1] (ans := []) (vs := [(40, .bool ((IntKind.i64.wrap (z3 + 1)) == 0)), (39, .int .i64 (IntKind.i64.wrap (z3 + 1)))]) (l := []) (by kernel_rfl) trivial ?_
            refine ge_nil fun a hF => hK22 _ _ ?_ a hF
            by_cases hc11 : (IntKind.i64.wrap (z3 + 1)) = 0
            · rw [if_pos hc11] at h
              refine we_known (t := 40) (b := ((IntKind.i64.wrap (z3 + 1)) == 0)) (v := true) (by kernel_rfl) (beq_iff_eq.2 hc11) ?_
              refine we_true (by kernel_rfl) ?_
              refine we_region [(0, 0)] rfl ?_
              refine ge_batch [0] (ans := []) (vs := [(4, .int .i64 0)]) (l := []) (by kernel_rfl) trivial ?_
              refine ge_nil fun a hF => hK7 _ _ ?_ a hF
              refine we_region [(0, 0), (1, 0)] rfl ?_
              refine ge_addn (d := 41) (ty := 3) (x := (.tmp 10)) (y := (.const (.int .i64 1))) (t := 3) (t2 := 3) (k := .i64) (m := i1) (by kernel_rfl) (by kernel_rfl) (by kernel_rfl) (by have h0 := hR0.small; omega) ?_
              refine ge_batch [1] (ans := []) (vs := [(10, .int .i64 ((i1 + 1 : Nat) : Int))]) (l := []) (by kernel_rfl) trivial ?_
              have hS11 := hS4.takeN 0
              obtain rfl := Option.some.inj h
              exact ge_nil fun a hF => hQ _ _ _ (Outs.again ⟨hS11, hF.weaken ⟨by kernel_rfl, by kernel_rfl, by kernel_rfl, by kernel_rfl, by kernel_rfl, by kernel_rfl, trivial⟩⟩)
            · rw [if_neg hc11] at h
              refine we_known (t := 40) (b := ((IntKind.i64.wrap (z3 + 1)) == 0)) (v := false) (by kernel_rfl) (beq_eq_false_iff_ne.2 hc11) ?_
              refine we_false (by kernel_rfl) ?_
              refine we_skip fun a hF => hK7 _ _ ?_ a hF
              refine we_region [(0, 0), (1, 0)] rfl ?_
              refine ge_addn (d := 41) (ty := 3) (x := (.tmp 10)) (y := (.const (.int .i64 1))) (t := 3) (t2 := 3) (k := .i64) (m := i1) (by kernel_rfl) (by kernel_rfl) (by kernel_rfl) (by have h0 := hR0.small; omega) ?_
              refine ge_batch [1] (ans := []) (vs := [(10, .int .i64 ((i1 + 1 : Nat) : Int))]) (l := []) (by kernel_rfl) trivial ?_
              have hS12 := hS4.takeN 0
              obtain rfl := Option.some.inj h
              exact ge_nil fun a hF => hQ _ _ _ (Outs.again ⟨hS12, hF.weaken ⟨by kernel_rfl, by kernel_rfl, by kernel_rfl, by kernel_rfl, by kernel_rfl, by kernel_rfl, trivial⟩⟩)
      · rw [if_neg hc4] at h
        refine we_known (t := 27) (b := (e1.Do == 2)) (v := false) (by kernel_rfl) (beq_eq_false_iff_ne.2 hc4) ?_
        refine we_false (by kernel_rfl) ?_
        refine we_skip fun a hF => hK11 _ _ ?_ a hF
        refine we_seq fun K23 hK23 => ?_
        refine we_seq fun K24 hK24 => ?_
        refine we_region [(0, 0), (1, 0), (2, 0)] rfl ?_
        refine ge_batch [0, 1, 2] (ans := [.val (.int .i64 e1.Do)]) (vs := [(32, .bool (e1.Do == 3)), (31, .int .i64 e1.Do), (30, .pointer (some ⟨b1, 0, none⟩))]) (l := [.loaded ⟨b1, 0, none⟩ (.int .i64 e1.Do)]) (by kernel_rfl) ⟨hS4.cell 0 rfl rfl, trivial⟩ ?_
        refine ge_nil fun a hF => hK24 _ _ ?_ a hF
        by_cases hc12 : e1.Do = 3
        · rw [if_pos hc12] at h
          refine we_known (t := 32) (b := (e1.Do == 3)) (v := true) (by kernel_rfl) (beq_iff_eq.2 hc12) ?_
          refine we_true (by kernel_rfl) ?_
          refine we_region [(0, 0), (1, 0), (2, 0)] rfl ?_
          refine ge_batch [0, 1, 2] (ans := []) (vs := [(5, .int .i64 (IntKind.i64.wrap (z3 - 1))), (34, .int .i64 (IntKind.i64.wrap (z3 - 1))), (33, .int .i64 z3)]) (l := []) (by kernel_rfl) trivial ?_
          refine ge_nil fun a hF => hK23 _ _ ?_ a hF
          refine we_seq fun K25 hK25 => ?_
          refine we_seq fun K26 hK26 => ?_
          refine we_region [(0, 0), (1, 0), (2, 0)] rfl ?_
          refine ge_batch [0, 1, 2] (ans := []) (vs := [(37, .bool (decide (z6 > z1))), (36, .int .i64 z1), (35, .int .i64 z6)]) (l := []) (by kernel_rfl) trivial ?_
          refine ge_nil fun a hF => hK26 _ _ ?_ a hF
          by_cases hc13 : z6 > z1
          · rw [if_pos hc13] at h
            refine we_known (t := 37) (b := decide (z6 > z1)) (v := true) (by kernel_rfl) (decide_eq_true hc13) ?_
            refine we_true (by kernel_rfl) ?_
            refine we_region [(0, 0), (1, 0)] rfl ?_
            refine ge_batch [0, 1] (ans := []) (vs := [(3, .int .i64 z6), (38, .int .i64 z6)]) (l := []) (by kernel_rfl) trivial ?_
            refine ge_nil fun a hF => hK25 _ _ ?_ a hF
            refine we_seq fun K27 hK27 => ?_
            refine we_region [(0, 0), (1, 0)] rfl ?_
            refine ge_batch [0, 1] (ans := []) (vs := [(40, .bool ((IntKind.i64.wrap (z3 - 1)) == 0)), (39, .int .i64 (IntKind.i64.wrap (z3 - 1)))]) (l := []) (by kernel_rfl) trivial ?_
            refine ge_nil fun a hF => hK27 _ _ ?_ a hF
            by_cases hc14 : (IntKind.i64.wrap (z3 - 1)) = 0
            · rw [if_pos hc14] at h
              refine we_known (t := 40) (b := ((IntKind.i64.wrap (z3 - 1)) == 0)) (v := true) (by kernel_rfl) (beq_iff_eq.2 hc14) ?_
              refine we_true (by kernel_rfl) ?_
              refine we_region [(0, 0)] rfl ?_
              refine ge_batch [0] (ans := []) (vs := [(4, .int .i64 0)]) (l := []) (by kernel_rfl) trivial ?_
              refine ge_nil fun a hF => hK7 _ _ ?_ a hF
              refine we_region [(0, 0), (1, 0)] rfl ?_
              refine ge_addn (d := 41) (ty := 3) (x := (.tmp 10)) (y := (.const (.int .i64 1))) (t := 3) (t2 := 3) (k := .i64) (m := i1) (by kernel_rfl) (by kernel_rfl) (by kernel_rfl) (by have h0 := hR0.small; omega) ?_
              refine ge_batch [1] (ans := []) (vs := [(10, .int .i64 ((i1 + 1 : Nat) : Int))]) (l := []) (by kernel_rfl) trivial ?_
              have hS13 := hS4.takeN 0
              obtain rfl := Option.some.inj h
              exact ge_nil fun a hF => hQ _ _ _ (Outs.again ⟨hS13, hF.weaken ⟨by kernel_rfl, by kernel_rfl, by kernel_rfl, by kernel_rfl, by kernel_rfl, by kernel_rfl, trivial⟩⟩)
            · rw [if_neg hc14] at h
              refine we_known (t := 40) (b := ((IntKind.i64.wrap (z3 - 1)) == 0)) (v := false) (by kernel_rfl) (beq_eq_false_iff_ne.2 hc14) ?_
              refine we_false (by kernel_rfl) ?_
              refine we_skip fun a hF => hK7 _ _ ?_ a hF
              refine we_region [(0, 0), (1, 0)] rfl ?_
              refine ge_addn (d := 41) (ty := 3) (x := (.tmp 10)) (y := (.const (.int .i64 1))) (t := 3) (t2 := 3) (k := .i64) (m := i1) (by kernel_rfl) (by kernel_rfl) (by kernel_rfl) (by have h0 := hR0.small; omega) ?_
              refine ge_batch [1] (ans := []) (vs := [(10, .int .i64 ((i1 + 1 : Nat) : Int))]) (l := []) (by kernel_rfl) trivial ?_
              have hS14 := hS4.takeN 0
              obtain rfl := Option.some.inj h
              exact ge_nil fun a hF => hQ _ _ _ (Outs.again ⟨hS14, hF.weaken ⟨by kernel_rfl, by kernel_rfl, by kernel_rfl, by kernel_rfl, by kernel_rfl, by kernel_rfl, trivial⟩⟩)
          · rw [if_neg hc13] at h
            refine we_known (t := 37) (b := decide (z6 > z1)) (v := false) (by kernel_rfl) (decide_eq_false hc13) ?_
            refine we_false (by kernel_rfl) ?_
            refine we_skip fun a hF => hK25 _ _ ?_ a hF
            refine we_seq fun K28 hK28 => ?_
            refine we_region [(0, 0), (1, 0)] rfl ?_
            refine ge_batch [0, 1] (ans := []) (vs := [(40, .bool ((IntKind.i64.wrap (z3 - 1)) == 0)), (39, .int .i64 (IntKind.i64.wrap (z3 - 1)))]) (l := []) (by kernel_rfl) trivial ?_
            refine ge_nil fun a hF => hK28 _ _ ?_ a hF
            by_cases hc15 : (IntKind.i64.wrap (z3 - 1)) = 0
            · rw [if_pos hc15] at h
              refine we_known (t := 40) (b := ((IntKind.i64.wrap (z3 - 1)) == 0)) (v := true) (by kernel_rfl) (beq_iff_eq.2 hc15) ?_
              refine we_true (by kernel_rfl) ?_
              refine we_region [(0, 0)] rfl ?_
              refine ge_batch [0] (ans := []) (vs := [(4, .int .i64 0)]) (l := []) (by kernel_rfl) trivial ?_
              refine ge_nil fun a hF => hK7 _ _ ?_ a hF
              refine we_region [(0, 0), (1, 0)] rfl ?_
              refine ge_addn (d := 41) (ty := 3) (x := (.tmp 10)) (y := (.const (.int .i64 1))) (t := 3) (t2 := 3) (k := .i64) (m := i1) (by kernel_rfl) (by kernel_rfl) (by kernel_rfl) (by have h0 := hR0.small; omega) ?_
              refine ge_batch [1] (ans := []) (vs := [(10, .int .i64 ((i1 + 1 : Nat) : Int))]) (l := []) (by kernel_rfl) trivial ?_
              have hS15 := hS4.takeN 0
              obtain rfl := Option.some.inj h
              exact ge_nil fun a hF => hQ _ _ _ (Outs.again ⟨hS15, hF.weaken ⟨by kernel_rfl, by kernel_rfl, by kernel_rfl, by kernel_rfl, by kernel_rfl, by kernel_rfl, trivial⟩⟩)
            · rw [if_neg hc15] at h
              refine we_known (t := 40) (b := ((IntKind.i64.wrap (z3 - 1)) == 0)) (v := false) (by kernel_rfl) (beq_eq_false_iff_ne.2 hc15) ?_
              refine we_false (by kernel_rfl) ?_
              refine we_skip fun a hF => hK7 _ _ ?_ a hF
              refine we_region [(0, 0), (1, 0)] rfl ?_
              refine ge_addn (d := 41) (ty := 3) (x := (.tmp 10)) (y := (.const (.int .i64 1))) (t := 3) (t2 := 3) (k := .i64) (m := i1) (by kernel_rfl) (by kernel_rfl) (by kernel_rfl) (by have h0 := hR0.small; omega) ?_
              refine ge_batch [1] (ans := []) (vs := [(10, .int .i64 ((i1 + 1 : Nat) : Int))]) (l := []) (by kernel_rfl) trivial ?_
              have hS16 := hS4.takeN 0
              obtain rfl := Option.some.inj h
              exact ge_nil fun a hF => hQ _ _ _ (Outs.again ⟨hS16, hF.weaken ⟨by kernel_rfl, by kernel_rfl, by kernel_rfl, by kernel_rfl, by kernel_rfl, by kernel_rfl, trivial⟩⟩)
        · rw [if_neg hc12] at h
          refine we_known (t := 32) (b := (e1.Do == 3)) (v := false) (by kernel_rfl) (beq_eq_false_iff_ne.2 hc12) ?_
          refine we_false (by kernel_rfl) ?_
          refine we_skip fun a hF => hK23 _ _ ?_ a hF
          refine we_seq fun K29 hK29 => ?_
          refine we_seq fun K30 hK30 => ?_
          refine we_region [(0, 0), (1, 0), (2, 0)] rfl ?_
          refine ge_batch [0, 1, 2] (ans := []) (vs := [(37, .bool (decide (z6 > z1))), (36, .int .i64 z1), (35, .int .i64 z6)]) (l := []) (by kernel_rfl) trivial ?_
          refine ge_nil fun a hF => hK30 _ _ ?_ a hF
          by_cases hc16 : z6 > z1
          · rw [if_pos hc16] at h
            refine we_known (t := 37) (b := decide (z6 > z1)) (v := true) (by kernel_rfl) (decide_eq_true hc16) ?_
            refine we_true (by kernel_rfl) ?_
            refine we_region [(0, 0), (1, 0)] rfl ?_
            refine ge_batch [0, 1] (ans := []) (vs := [(3, .int .i64 z6), (38, .int .i64 z6)]) (l := []) (by kernel_rfl) trivial ?_
            refine ge_nil fun a hF => hK29 _ _ ?_ a hF
            refine we_seq fun K31 hK31 => ?_
            refine we_region [(0, 0), (1, 0)] rfl ?_
            refine ge_batch [0, 1] (ans := []) (vs := [(40, .bool (z3 == 0)), (39, .int .i64 z3)]) (l := []) (by kernel_rfl) trivial ?_
            refine ge_nil fun a hF => hK31 _ _ ?_ a hF
            by_cases hc17 : z3 = 0
            · rw [if_pos hc17] at h
              refine we_known (t := 40) (b := (z3 == 0)) (v := true) (by kernel_rfl) (beq_iff_eq.2 hc17) ?_
              refine we_true (by kernel_rfl) ?_
              refine we_region [(0, 0)] rfl ?_
              refine ge_batch [0] (ans := []) (vs := [(4, .int .i64 0)]) (l := []) (by kernel_rfl) trivial ?_
              refine ge_nil fun a hF => hK7 _ _ ?_ a hF
              refine we_region [(0, 0), (1, 0)] rfl ?_
              refine ge_addn (d := 41) (ty := 3) (x := (.tmp 10)) (y := (.const (.int .i64 1))) (t := 3) (t2 := 3) (k := .i64) (m := i1) (by kernel_rfl) (by kernel_rfl) (by kernel_rfl) (by have h0 := hR0.small; omega) ?_
              refine ge_batch [1] (ans := []) (vs := [(10, .int .i64 ((i1 + 1 : Nat) : Int))]) (l := []) (by kernel_rfl) trivial ?_
              have hS17 := hS4.takeN 0
              obtain rfl := Option.some.inj h
              exact ge_nil fun a hF => hQ _ _ _ (Outs.again ⟨hS17, hF.weaken ⟨by kernel_rfl, by kernel_rfl, by kernel_rfl, by kernel_rfl, by kernel_rfl, by kernel_rfl, trivial⟩⟩)
            · rw [if_neg hc17] at h
              refine we_known (t := 40) (b := (z3 == 0)) (v := false) (by kernel_rfl) (beq_eq_false_iff_ne.2 hc17) ?_
              refine we_false (by kernel_rfl) ?_
              refine we_skip fun a hF => hK7 _ _ ?_ a hF
              refine we_region [(0, 0), (1, 0)] rfl ?_
              refine ge_addn (d := 41) (ty := 3) (x := (.tmp 10)) (y := (.const (.int .i64 1))) (t := 3) (t2 := 3) (k := .i64) (m := i1) (by kernel_rfl) (by kernel_rfl) (by kernel_rfl) (by have h0 := hR0.small; omega) ?_
              refine ge_batch [1] (ans := []) (vs := [(10, .int .i64 ((i1 + 1 : Nat) : Int))]) (l := []) (by kernel_rfl) trivial ?_
              have hS18 := hS4.takeN 0
              obtain rfl := Option.some.inj h
              exact ge_nil fun a hF => hQ _ _ _ (Outs.again ⟨hS18, hF.weaken ⟨by kernel_rfl, by kernel_rfl, by kernel_rfl, by kernel_rfl, by kernel_rfl, by kernel_rfl, trivial⟩⟩)
          · rw [if_neg hc16] at h
            refine we_known (t := 37) (b := decide (z6 > z1)) (v := false) (by kernel_rfl) (decide_eq_false hc16) ?_
            refine we_false (by kernel_rfl) ?_
            refine we_skip fun a hF => hK29 _ _ ?_ a hF
            refine we_seq fun K32 hK32 => ?_
            refine we_region [(0, 0), (1, 0)] rfl ?_
            refine ge_batch [0, 1] (ans := []) (vs := [(40, .bool (z3 == 0)), (39, .int .i64 z3)]) (l := []) (by kernel_rfl) trivial ?_
            refine ge_nil fun a hF => hK32 _ _ ?_ a hF
            by_cases hc18 : z3 = 0
            · rw [if_pos hc18] at h
              refine we_known (t := 40) (b := (z3 == 0)) (v := true) (by kernel_rfl) (beq_iff_eq.2 hc18) ?_
              refine we_true (by kernel_rfl) ?_
              refine we_region [(0, 0)] rfl ?_
              refine ge_batch [0] (ans := []) (vs := [(4, .int .i64 0)]) (l := []) (by kernel_rfl) trivial ?_
              refine ge_nil fun a hF => hK7 _ _ ?_ a hF
              refine we_region [(0, 0), (1, 0)] rfl ?_
              refine ge_addn (d := 41) (ty := 3) (x := (.tmp 10)) (y := (.const (.int .i64 1))) (t := 3) (t2 := 3) (k := .i64) (m := i1) (by kernel_rfl) (by kernel_rfl) (by kernel_rfl) (by have h0 := hR0.small; omega) ?_
              refine ge_batch [1] (ans := []) (vs := [(10, .int .i64 ((i1 + 1 : Nat) : Int))]) (l := []) (by kernel_rfl) trivial ?_
              have hS19 := hS4.takeN 0
              obtain rfl := Option.some.inj h
              exact ge_nil fun a hF => hQ _ _ _ (Outs.again ⟨hS19, hF.weaken ⟨by kernel_rfl, by kernel_rfl, by kernel_rfl, by kernel_rfl, by kernel_rfl, by kernel_rfl, trivial⟩⟩)
            · rw [if_neg hc18] at h
              refine we_known (t := 40) (b := (z3 == 0)) (v := false) (by kernel_rfl) (beq_eq_false_iff_ne.2 hc18) ?_
              refine we_false (by kernel_rfl) ?_
              refine we_skip fun a hF => hK7 _ _ ?_ a hF
              refine we_region [(0, 0), (1, 0)] rfl ?_
              refine ge_addn (d := 41) (ty := 3) (x := (.tmp 10)) (y := (.const (.int .i64 1))) (t := 3) (t2 := 3) (k := .i64) (m := i1) (by kernel_rfl) (by kernel_rfl) (by kernel_rfl) (by have h0 := hR0.small; omega) ?_
              refine ge_batch [1] (ans := []) (vs := [(10, .int .i64 ((i1 + 1 : Nat) : Int))]) (l := []) (by kernel_rfl) trivial ?_
              have hS20 := hS4.takeN 0
              obtain rfl := Option.some.inj h
              exact ge_nil fun a hF => hQ _ _ _ (Outs.again ⟨hS20, hF.weaken ⟨by kernel_rfl, by kernel_rfl, by kernel_rfl, by kernel_rfl, by kernel_rfl, by kernel_rfl, trivial⟩⟩)
    · rw [hq1] at h
      simp only [] at h
      refine we_keep (e' := [(3, .int .i64 z1), (4, .int .i64 z2), (5, .int .i64 z3), (7, .pointer (some ⟨b1, 0, none⟩)), (8, .slice A0 l0.length c0), (9, .int .i64 (l0.length : Int)), (10, .int .i64 (i1 : Int)), (11, .bool true), (12, .pointer (some ⟨blkOf A0, offOf A0 + i1 * 2, none⟩)), (13, .agg #[.int .i64 e1.Do, .int .i64 e1.N])]) ⟨by kernel_rfl, by kernel_rfl, by kernel_rfl, by kernel_rfl, by kernel_rfl, by kernel_rfl, by kernel_rfl, by kernel_rfl, by kernel_rfl, by kernel_rfl, trivial⟩ (punctualref_Stretch_p1 K w0 l0 A0 c0 hR0 hL0 z1 z2 z3 i1 hc1 e1 hx1 b1 _ hq1 _ hS3 _ ?_)
      rintro _ a w1 ⟨_, rfl, hb⟩
      obtain rfl := Option.some.inj h
      exact hQ _ _ _ (Outs.out nofun (Exits.on ⟨rfl, hb⟩))
  · rw [if_neg hc1] at h
    refine we_known (t := 11) (b := decide ((i1 : Int) < (l0.length : Int))) (v := false) (by kernel_rfl) (decide_eq_false hc1) ?_
    refine we_false (by kernel_rfl) ?_
    obtain rfl := Option.some.inj h
    exact we_exit fun a hF => hQ _ _ _ (Outs.out nofun (Exits.here ⟨hS, hF.weaken ⟨by kernel_rfl, trivial⟩⟩))
theorem punctualref_Stretch_ok (K : Nat) (l0 : List SAct) (A0 : Option Addr) (c0 : Nat) (w0 : World) (hR0 : RdL w0 A0 l0) (hL0 : l0.length ≤ c0) (r : Int) (h : punctualref_Stretch.f K l0 = some r) :
    Calls Tryd.prog 17 #[.slice A0 l0.length c0] w0 (punctualref_Stretch.Post w0 r) := by
  have hS := St.start w0
  unfold punctualref_Stretch.f at h
  refine calls_enter (n := 43) (args := [.slice A0 l0.length c0]) (fn := Tryd.f17) rfl rfl rfl rfl ?_
  show WE _ _ _ _ [(0, .slice A0 l0.length c0)] _
  refine we_seq fun K1 hK1 => ?_
  refine we_region [(0, 0)] rfl ?_
  refine ge_batch [0] (ans := []) (vs := [(2, .int .i64 0)]) (l := []) (by kernel_rfl) trivial ?_
  refine ge_nil fun a hF => hK1 _ _ ?_ a hF
  refine we_seq fun K2 hK2 => ?_
  refine we_region [(0, 0), (1, 0), (2, 0)] rfl ?_
  refine ge_batch [0, 1, 2] (ans := []) (vs := [(5, .int .i64 0), (4, .int .i64 0), (3, .int .i64 0)]) (l := []) (by kernel_rfl) trivial ?_
  refine ge_nil fun a hF => hK2 _ _ ?_ a hF
  refine we_seq fun K3 hK3 => ?_
  refine we_seq fun K4 hK4 => ?_
  refine we_region [(0, 0), (1, 0), (2, 0)] rfl ?_
  refine ge_batch [0, 1, 2] (ans := []) (vs := [(10, .int .i64 0), (9, .int .i64 (l0.length : Int)), (8, .slice A0 l0.length c0)]) (l := []) (by kernel_rfl) trivial ?_
  refine ge_nil fun a hF => hK4 _ _ ?_ a hF
  refine we_block ?_
  rcases hq2 : iter (punctualref_Stretch.r0 l0) K (0, 0, 0, 0) with _ | (z7 | rr2)
  · rw [hq2] at h; cases h
  · rw [hq2] at h
    simp only [] at h
    refine we_iter (A := punctualref_Stretch.A0 K w0 l0 A0 c0 hR0 hL0) (B := punctualref_Stretch.B0 K w0 l0 A0 c0 hR0 hL0) hq2 (fun a hF => ⟨hS, hF.weaken ⟨by kernel_rfl, by kernel_rfl, by kernel_rfl, by kernel_rfl, by kernel_rfl, by kernel_rfl, trivial⟩⟩) (fun s o hf a w hA Q hQ => punctualref_Stretch_r0 K w0 l0 A0 c0 hR0 hL0 s o hf a w hA Q hQ) ?_
    rintro _ a w4 _ ⟨rfl, hS21, hF⟩
    replace hS21 : St w0 w4 [] := hS21
    refine hK3 [(3, .int .i64 z7)] w4 ?_ a hF
    refine we_seq fun K33 hK33 => ?_
    refine we_region [(0, 0), (1, 0)] rfl ?_
    refine ge_batch [0, 1] (ans := []) (vs := [(2, .int .i64 z7), (42, .int .i64 z7)]) (l := []) (by kernel_rfl) trivial ?_
    refine ge_nil fun a hF => hK33 _ _ ?_ a hF
    obtain rfl := Option.some.inj h
    exact we_ret (post_ret (rs := [.tmp 2]) (ans := []) (vs := [.int .i64 z7]) (l := []) rfl (by kernel_rfl) trivial ⟨rfl, hS21⟩)
  · rw [hq2] at h
    simp only [] at h
    refine we_iter (A := punctualref_Stretch.A0 K w0 l0 A0 c0 hR0 hL0) (B := punctualref_Stretch.B0 K w0 l0 A0 c0 hR0 hL0) hq2 (fun a hF => ⟨hS, hF.weaken ⟨by kernel_rfl, by kernel_rfl, by kernel_rfl, by kernel_rfl, by kernel_rfl, by kernel_rfl, trivial⟩⟩) (fun s o hf a w hA Q hQ => punctualref_Stretch_r0 K w0 l0 A0 c0 hR0 hL0 s o hf a w hA Q hQ) ?_
    rintro _ a w1 _ ⟨rfl, hb⟩
    obtain rfl := Option.some.inj h
    exact hb

/-! punctual/punctualsame.Still[punctual/api.Act] -/
abbrev punctualsame_Still_api_Act.Post (w0 : World) (r : Bool) (e : Ending) (w : World) : Prop := e = .returned (.bool r) ∧ St w0 w []
def punctualsame_Still_api_Act.r0 (f0 : List SAct) (l1 : List SAct) (x2 : SAct) : Nat → Option (Nat ⊕ (Unit ⊕ Bool))
  | i1 =>
    if (i1 : Int) < (f0.length : Int) then
      match f0[i1]? with
      | none => none
      | some e1 =>
        if (i1 : Int) < (l1.length : Int) then
          match l1[i1]? with
          | none => none
          | some e2 =>
            if (SAct.eqb e1 e2) = true then
              if (i1 : Int) ≥ (l1.length : Int) then
                if (SAct.eqb e1 x2) = true then
                  some (.inl (i1 + 1))
                else
                  some (.inr (.inr false))
              else
                some (.inl (i1 + 1))
            else
              some (.inr (.inr false))
        else
          if (i1 : Int) ≥ (l1.length : Int) then
            if (SAct.eqb e1 x2) = true then
              some (.inl (i1 + 1))
            else
              some (.inr (.inr false))
          else
            some (.inl (i1 + 1))
    else
      some (.inr (.inl ()))
def punctualsame_Still_api_Act.f (K : Nat) (f0 : List SAct) (l1 : List SAct) (x2 : SAct) : Option Bool :=
  if (IntKind.i64.wrap ((l1.length : Int) + 3)) = (f0.length : Int) then
    match iter (punctualsame_Still_api_Act.r0 f0 l1 x2) K 0 with
    | none => none
    | some (.inl _) =>
      some true
    | some (.inr rr1) =>
      some rr1
  else
    none
abbrev punctualsame_Still_api_Act.A0 (K : Nat) (w0 : World) (f0 : List SAct) (A0 : Option Addr) (n0 : Nat) (c0 : Nat) (l1 : List SAct) (A1 : Option Addr) (c1 : Nat) (x2 : SAct) (hR0 : RdL w0 A0 f0) (hc0 : f0.length ≤ c0) (hR1 : RdL w0 A1 l1) (hL1 : l1.length ≤ c1) (b1 : Nat) (hc1 : (IntKind.i64.wrap ((l1.length : Int) + 3)) = (f0.length : Int)) : Nat → Act → World → Prop := fun (s : Nat) a w => St w0 w [Own.blk b1 (.cells #[.int .i64 x2.Do, .int .i64 x2.N] 39 (0, 0))] ∧ Frm 46 a [(1, .slice A1 l1.length c1), (5, .pointer (some ⟨b1, 0, none⟩)), (15, .slice A0 f0.length c0), (16, .int .i64 (f0.length : Int)), (17, .int .i64 (s : Int))]
abbrev punctualsame_Still_api_Act.B0 (K : Nat) (w0 : World) (f0 : List SAct) (A0 : Option Addr) (n0 : Nat) (c0 : Nat) (l1 : List SAct) (A1 : Option Addr) (c1 : Nat) (x2 : SAct) (hR0 : RdL w0 A0 f0) (hc0 : f0.length ≤ c0) (hR1 : RdL w0 A1 l1) (hL1 : l1.length ≤ c1) (b1 : Nat) (hc1 : (IntKind.i64.wrap ((l1.length : Int) + 3)) = (f0.length : Int)) : (Unit ⊕ Bool) → Exit → Act → World → Prop := Exits 0 (fun (s : Unit) a w => St w0 w [] ∧ Frm 46 a []) (Rets Tryd.prog Tryd.f19 (punctualsame_Still_api_Act.Post w0))
theorem punctualsame_Still_api_Act_r0 (K : Nat) (w0 : World) (f0 : List SAct) (A0 : Option Addr) (n0 : Nat) (c0 : Nat) (l1 : List SAct) (A1 : Option Addr) (c1 : Nat) (x2 : SAct) (hR0 : RdL w0 A0 f0) (hc0 : f0.length ≤ c0) (hR1 : RdL w0 A1 l1) (hL1 : l1.length ≤ c1) (b1 : Nat) (hc1 : (IntKind.i64.wrap ((l1.length : Int) + 3)) = (f0.length : Int)) (s : Nat) (o : Nat ⊕ (Unit ⊕ Bool)) (h : punctualsame_Still_api_Act.r0 f0 l1 x2 s = some o) (a : Act) (w : World) (hA : punctualsame_Still_api_Act.A0 K w0 f0 A0 n0 c0 l1 A1 c1 x2 hR0 hc0 hR1 hL1 b1 hc1 s a w) (Q : Exit → Act → World → Prop) (hQ : ∀ x a w, Outs (punctualsame_Still_api_Act.A0 K w0 f0 A0 n0 c0 l1 A1 c1 x2 hR0 hc0 hR1 hL1 b1 hc1) (punctualsame_Still_api_Act.B0 K w0 f0 A0 n0 c0 l1 A1 c1 x2 hR0 hc0 hR1 hL1 b1 hc1) o x a w → Q x a w) : (subF Tryd.f19 [1, 1, 0, 1, 0, 0]).wp Tryd.prog Q a w := by
  obtain ⟨i1, hs⟩ : ∃ z, z = s := ⟨s, rfl⟩
  subst hs
  obtain ⟨hS, hF⟩ := hA
  replace hS : St w0 w [Own.blk b1 (.cells #[.int .i64 x2.Do, .int .i64 x2.N] 39 (0, 0))] := hS
  simp only [punctualsame_Still_api_Act.r0] at h
  refine (?_ : WE Tryd.prog 46 (subF Tryd.f19 [1, 1, 0, 1, 0, 0]) Q [(1, .slice A1 l1.length c1), (5, .pointer (some ⟨b1, 0, none⟩)), (15, .slice A0 f0.length c0), (16, .int .i64 (f0.length : Int)), (17, .int .i64 (i1 : Int))] w) a hF
  clear hF a
  refine we_seq fun K5 hK5 => ?_
  refine we_region [(0, 0)] rfl ?_
  refine ge_batch [0] (ans := []) (vs := [(18, .bool (decide ((i1 : Int) < (f0.length : Int))))]) (l := []) (by kernel_rfl) trivial ?_
  refine ge_nil fun a hF => hK5 _ _ ?_ a hF
  refine we_seq fun K6 hK6 => ?_
  by_cases hc2 : (i1 : Int) < (f0.length : Int)
  · rw [if_pos hc2] at h
    refine we_known (t := 18) (b := decide ((i1 : Int) < (f0.length : Int))) (v := true) (by kernel_rfl) (decide_eq_true hc2) ?_
    refine we_true (by kernel_rfl) ?_
    refine we_skip fun a hF => hK6 _ _ ?_ a hF
    refine we_seq fun K7 hK7 => ?_
    refine we_block ?_
    refine we_seq fun K8 hK8 => ?_
    refine we_region [(0, 0), (1, 0), (2, 0), (3, 1), (4, 0), (5, 2)] rfl ?_
    refine ge_batch [0] (ans := []) (vs := [(19, .int .i64 (i1 : Int))]) (l := []) (by kernel_rfl) trivial ?_
    rcases hx2 : f0[i1]? with _ | e1
    · rw [hx2] at h; cases h
    rw [hx2] at h
    simp only [] at h
    refine ge_index (d := 20) (ty := 0) (t := 22) (el := 39) (sz := 2) (m := f0.length) (c := c0) (x := (.tmp 15)) (y := (.tmp 17)) (A := A0) (k' := .i64) (j := (i1 : Int)) (jn := i1) (b0 := blkOf A0) (o0 := offOf A0) (by kernel_rfl) (by kernel_rfl) (by kernel_rfl) (by kernel_rfl) (by kernel_rfl) ((hS.rd hR0).eqSome (pos_of_get hx2)) rfl (lt_of_get hx2) ?_
    refine ge_batch [2] (ans := [.val (.int .i64 e1.Do), .val (.int .i64 e1.N)]) (vs := [(21, .agg #[.int .i64 e1.Do, .int .i64 e1.N])]) (l := [.loaded ⟨blkOf A0, offOf A0 + i1 * 2, none⟩ (.int .i64 e1.Do), .loaded ⟨blkOf A0, offOf A0 + i1 * 2 + 1, none⟩ (.int .i64 e1.N)]) (by kernel_rfl) ⟨RdL.cell (j := 0) (hS.rd hR0) hx2 rfl, RdL.cell (j := 1) (hS.rd hR0) hx2 rfl, trivial⟩ ?_
    refine ge_new (d := some 9) (o := .cells #[.int .i64 0, .int .i64 0] 39) (v := fun b => .pointer (some ⟨b, 0, none⟩)) hS (fun b => by kernel_rfl) fun b2 w2 hx3 hS2 => ?_
    refine ge_batch [4] (ans := []) (vs := [(8, .int .i64 (i1 : Int))]) (l := []) (by kernel_rfl) trivial ?_
    refine ge_set (b := b2) (j := 0) (cs := #[.int .i64 0, .int .i64 0]) (t := 39) (vs := [.int .i64 e1.Do, .int .i64 e1.N]) hS2 (by kernel_rfl) rfl rfl fun w3 hS3 => ?_
    have hS4 := hS3.nc #[.int .i64 e1.Do, .int .i64 e1.N] rfl
    refine ge_nil fun a hF => hK8 _ _ ?_ a hF
    refine we_seq fun K9 hK9 => ?_
    refine we_draws (by kernel_rfl) [(0, 0), (1, 0), (2, 0), (3, 0), (4, 0), (5, 0), (6, 0), (7, 0), (8, 0), (9, 0), (10, 0), (11, 0), (12, 0), (13, 0), (14, 0), (15, 0), (16, 0), (17, 0), (18, 0), (19, 0), (20, 0), (21, 0), (22, 0)] (by kernel_rfl) ?_
    have hS5 := hS4.drew
    refine ge_batch [0, 1, 2, 3, 4] (ans := []) (vs := [(26, .bool (decide ((i1 : Int) < (l1.length : Int)))), (25, .bool (decide ((i1 : Int) < (l1.length : Int)))), (24, .int .i64 (l1.length : Int)), (23, .slice A1 l1.length c1), (22, .int .i64 (i1 : Int))]) (l := []) (by kernel_rfl) trivial ?_
    by_cases hc3 : (i1 : Int) < (l1.length : Int)
    · rw [if_pos hc3] at h
      refine ge_known (t := 26) (b := decide ((i1 : Int) < (l1.length : Int))) (c := true) (by kernel_rfl) (decide_eq_true hc3) ?_
      refine ge_batch [5, 6, 7] (ans := [.val (.int .i64 e1.Do), .val (.int .i64 e1.N)]) (vs := [(29, .int .i64 (i1 : Int)), (28, .slice A1 l1.length c1), (27, .agg #[.int .i64 e1.Do, .int .i64 e1.N])]) (l := [.loaded ⟨b2, 0, none⟩ (.int .i64 e1.Do), .loaded ⟨b2, 1, none⟩ (.int .i64 e1.N)]) (by kernel_rfl) ⟨hS5.cell 0 rfl rfl, hS5.cell 0 rfl rfl, trivial⟩ ?_
      rcases hx4 : l1[i1]? with _ | e2
      · rw [hx4] at h; cases h
      rw [hx4] at h
      simp only [] at h
      refine ge_index (d := 30) (ty := 0) (t := 22) (el := 39) (sz := 2) (m := l1.length) (c := c1) (x := (.tmp 28)) (y := (.tmp 29)) (A := A1) (k' := .i64) (j := (i1 : Int)) (jn := i1) (b0 := blkOf A1) (o0 := offOf A1) (by kernel_rfl) (by kernel_rfl) (by kernel_rfl) (by kernel_rfl) (by kernel_rfl) ((hS5.rd hR1).eqSome (pos_of_get hx4)) rfl (lt_of_get hx4) ?_
      refine ge_batch [9] (ans := [.val (.int .i64 e2.Do), .val (.int .i64 e2.N)]) (vs := [(31, .agg #[.int .i64 e2.Do, .int .i64 e2.N])]) (l := [.loaded ⟨blkOf A1, offOf A1 + i1 * 2, none⟩ (.int .i64 e2.Do), .loaded ⟨blkOf A1, offOf A1 + i1 * 2 + 1, none⟩ (.int .i64 e2.N)]) (by kernel_rfl) ⟨RdL.cell (j := 0) (hS5.rd hR1) hx4 rfl, RdL.cell (j := 1) (hS5.rd hR1) hx4 rfl, trivial⟩ ?_
      refine ge_eqs (d := 32) (ty := 4) (op := .neq) (x := (.tmp 27)) (y := (.tmp 31)) (t := 39) (t2 := 39) (xs := #[.int .i64 e1.Do, .int .i64 e1.N]) (ys := #[.int .i64 e2.Do, .int .i64 e2.N]) (r := (SAct.eqb e1 e2)) (v := !(SAct.eqb e1 e2)) (by kernel_rfl) (by kernel_rfl) (by kernel_rfl) (by kernel_rfl) (by kernel_rfl) rfl ?_
      refine ge_batch [11, 12] (ans := []) (vs := [(34, .bool (!(SAct.eqb e1 e2))), (33, .bool (!(SAct.eqb e1 e2)))]) (l := []) (by kernel_rfl) trivial ?_
      by_cases hc4 : (SAct.eqb e1 e2) = true
      · rw [if_pos hc4] at h
        refine ge_known (t := 34) (b := !(SAct.eqb e1 e2)) (c := false) (by kernel_rfl) (congrArg (fun z => !z) hc4) ?_
        refine ge_batch [13, 14, 15, 16, 17] (ans := []) (vs := [(39, .bool (decide ((i1 : Int) ≥ (l1.length : Int)))), (38, .bool (decide ((i1 : Int) ≥ (l1.length : Int)))), (37, .int .i64 (l1.length : Int)), (36, .slice A1 l1.length c1), (35, .int .i64 (i1 : Int))]) (l := []) (by kernel_rfl) trivial ?_
        by_cases hc5 : (i1 : Int) ≥ (l1.length : Int)
        · rw [if_pos hc5] at h
          refine ge_known (t := 39) (b := decide ((i1 : Int) ≥ (l1.length : Int))) (c := true) (by kernel_rfl) (decide_eq_true hc5) ?_
          refine ge_batch [18, 19] (ans := [.val (.int .i64 e1.Do), .val (.int .i64 e1.N), .val (.int .i64 x2.Do), .val (.int .i64 x2.N)]) (vs := [(41, .agg #[.int .i64 x2.Do, .int .i64 x2.N]), (40, .agg #[.int .i64 e1.Do, .int .i64 e1.N])]) (l := [.loaded ⟨b2, 0, none⟩ (.int .i64 e1.Do), .loaded ⟨b2, 1, none⟩ (.int .i64 e1.N), .loaded ⟨b1, 0, none⟩ (.int .i64 x2.Do), .loaded ⟨b1, 1, none⟩ (.int .i64 x2.N)]) (by kernel_rfl) ⟨hS5.cell 0 rfl rfl, hS5.cell 0 rfl rfl, hS5.cell 1 rfl rfl, hS5.cell 1 rfl rfl, trivial⟩ ?_
          refine ge_eqs (d := 42) (ty := 4) (op := .neq) (x := (.tmp 40)) (y := (.tmp 41)) (t := 39) (t2 := 39) (xs := #[.int .i64 e1.Do, .int .i64 e1.N]) (ys := #[.int .i64 x2.Do, .int .i64 x2.N]) (r := (SAct.eqb e1 x2)) (v := !(SAct.eqb e1 x2)) (by kernel_rfl) (by kernel_rfl) (by kernel_rfl) (by kernel_rfl) (by kernel_rfl) rfl ?_
          refine ge_batch [21, 22] (ans := []) (vs := [(44, .bool (!(SAct.eqb e1 x2))), (43, .bool (!(SAct.eqb e1 x2)))]) (l := []) (by kernel_rfl) trivial ?_
          refine ge_nil fun a hF => hK9 _ _ ?_ a hF
          by_cases hc6 : (SAct.eqb e1 x2) = true
          · rw [if_pos hc6] at h
            refine we_known (t := 44) (b := !(SAct.eqb e1 x2)) (v := false) (by kernel_rfl) (congrArg (fun z => !z) hc6) ?_
            refine we_false (by kernel_rfl) ?_
            refine we_skip fun a hF => hK7 _ _ ?_ a hF
            refine we_region [(0, 0), (1, 0)] rfl ?_
            refine ge_addn (d := 45) (ty := 3) (x := (.tmp 17)) (y := (.const (.int .i64 1))) (t := 3) (t2 := 3) (k := .i64) (m := i1) (by kernel_rfl) (by kernel_rfl) (by kernel_rfl) (by have h0 := hR0.small; omega) ?_
            refine ge_batch [1] (ans := []) (vs := [(17, .int .i64 ((i1 + 1 : Nat) : Int))]) (l := []) (by kernel_rfl) trivial ?_
            have hS6 := hS5.bring 1 rfl
            have hS7 := hS6.takeN 1
            obtain rfl := Option.some.inj h
            exact ge_nil fun a hF => hQ _ _ _ (Outs.again ⟨hS7, hF.weaken ⟨by kernel_rfl, by kernel_rfl, by kernel_rfl, by kernel_rfl, by kernel_rfl, trivial⟩⟩)
          · rw [if_neg hc6] at h
            refine we_known (t := 44) (b := !(SAct.eqb e1 x2)) (v := true) (by kernel_rfl) (congrArg (fun z => !z) (Bool.eq_false_iff.2 hc6)) ?_
            refine we_true (by kernel_rfl) ?_
            refine we_seq fun K10 hK10 => ?_
            refine we_region [(0, 0)] rfl ?_
            refine ge_batch [0] (ans := []) (vs := [(6, .bool false)]) (l := []) (by kernel_rfl) trivial ?_
            refine ge_nil fun a hF => hK10 _ _ ?_ a hF
            have hS8 := hS5.takeN 0
            obtain rfl := Option.some.inj h
            exact we_ret fun a hF => hQ _ _ _ (Outs.out nofun (Exits.on ⟨rfl, (post_ret (rs := [.tmp 6]) (ans := []) (vs := [.bool false]) (l := []) rfl (by kernel_rfl) trivial ⟨rfl, hS8⟩) a hF⟩))
        · rw [if_neg hc5] at h
          refine ge_known (t := 39) (b := decide ((i1 : Int) ≥ (l1.length : Int))) (c := false) (by kernel_rfl) (decide_eq_false hc5) ?_
          refine ge_batch [18, 19, 20, 21, 22] (ans := []) (vs := [(44, .bool false), (43, .bool false), (42, undef), (41, undef), (40, undef)]) (l := []) (by kernel_rfl) trivial ?_
          refine ge_nil fun a hF => hK9 _ _ ?_ a hF
          refine we_false (by kernel_rfl) ?_
          refine we_skip fun a hF => hK7 _ _ ?_ a hF
          refine we_region [(0, 0), (1, 0)] rfl ?_
          refine ge_addn (d := 45) (ty := 3) (x := (.tmp 17)) (y := (.const (.int .i64 1))) (t := 3) (t2 := 3) (k := .i64) (m := i1) (by kernel_rfl) (by kernel_rfl) (by kernel_rfl) (by have h0 := hR0.small; omega) ?_
          refine ge_batch [1] (ans := []) (vs := [(17, .int .i64 ((i1 + 1 : Nat) : Int))]) (l := []) (by kernel_rfl) trivial ?_
          have hS9 := hS5.bring 1 rfl
          have hS10 := hS9.takeN 1
          obtain rfl := Option.some.inj h
          exact ge_nil fun a hF => hQ _ _ _ (Outs.again ⟨hS10, hF.weaken ⟨by kernel_rfl, by kernel_rfl, by kernel_rfl, by kernel_rfl, by kernel_rfl, trivial⟩⟩)
      · rw [if_neg hc4] at h
        refine ge_known (t := 34) (b := !(SAct.eqb e1 e2)) (c := true) (by kernel_rfl) (congrArg (fun z => !z) (Bool.eq_false_iff.2 hc4)) ?_
        refine ge_batch [13, 14, 15, 16, 17, 18, 19, 20, 21, 22] (ans := []) (vs := [(44, .bool true), (43, undef), (42, undef), (41, undef), (40, undef), (39, undef), (38, undef), (37, undef), (36, undef), (35, undef)]) (l := []) (by kernel_rfl) trivial ?_
        refine ge_nil fun a hF => hK9 _ _ ?_ a hF
        refine we_true (by kernel_rfl) ?_
        refine we_seq fun K11 hK11 => ?_
        refine we_region [(0, 0)] rfl ?_
        refine ge_batch [0] (ans := []) (vs := [(6, .bool false)]) (l := []) (by kernel_rfl) trivial ?_
        refine ge_nil fun a hF => hK11 _ _ ?_ a hF
        have hS11 := hS5.takeN 0
        obtain rfl := Option.some.inj h
        exact we_ret fun a hF => hQ _ _ _ (Outs.out nofun (Exits.on ⟨rfl, (post_ret (rs := [.tmp 6]) (ans := []) (vs := [.bool false]) (l := []) rfl (by kernel_rfl) trivial ⟨rfl, hS11⟩) a hF⟩))
    · rw [if_neg hc3] at h
      refine ge_known (t := 26) (b := decide ((i1 : Int) < (l1.length : Int))) (c := false) (by kernel_rfl) (decide_eq_false hc3) ?_
      refine ge_batch [5, 6, 7, 8, 9, 10, 11, 12, 13, 14, 15, 16, 17] (ans := []) (vs := [(39, .bool (decide ((i1 : Int) ≥ (l1.length : Int)))), (38, .bool (decide ((i1 : Int) ≥ (l1.length : Int)))), (37, .int .i64 (l1.length : Int)), (36, .slice A1 l1.length c1), (35, .int .i64 (i1 : Int)), (34, .bool false), (33, .bool false), (32, undef), (31, undef), (30, undef), (29, undef), (28, undef), (27, undef)]) (l := []) (by kernel_rfl) trivial ?_
      by_cases hc7 : (i1 : Int) ≥ (l1.length : Int)
      · rw [if_pos hc7] at h
        refine ge_known (t := 39) (b := decide ((i1 : Int) ≥ (l1.length : Int))) (c := true) (by kernel_rfl) (decide_eq_true hc7) ?_
        refine ge_batch [18, 19] (ans := [.val (.int .i64 e1.Do), .val (.int .i64 e1.N), .val (.int .i64 x2.Do), .val (.int .i64 x2.N)]) (vs := [(41, .agg #[.int .i64 x2.Do, .int .i64 x2.N]), (40, .agg #[.int .i64 e1.Do, .int .i64 e1.N])]) (l := [.loaded ⟨b2, 0, none⟩ (.int .i64 e1.Do), .loaded ⟨b2, 1, none⟩ (.int .i64 e1.N), .loaded ⟨b1, 0, none⟩ (.int .i64 x2.Do), .loaded ⟨b1, 1, none⟩ (.int .i64 x2.N)]) (by kernel_rfl) ⟨hS5.cell 0 rfl rfl, hS5.cell 0 rfl rfl, hS5.cell 1 rfl rfl, hS5.cell 1 rfl rfl, trivial⟩ ?_
        refine ge_eqs (d := 42) (ty := 4) (op := .neq) (x := (.tmp 40)) (y := (.tmp 41)) (t := 39) (t2 := 39) (xs := #[.int .i64 e1.Do, .int .i64 e1.N]) (ys := #[.int .i64 x2.Do, .int .i64 x2.N]) (r := (SAct.eqb e1 x2)) (v := !(SAct.eqb e1 x2)) (by kernel_rfl) (by kernel_rfl) (by kernel_rfl) (by kernel_rfl) (by kernel_rfl) rfl ?_
        refine ge_batch [21, 22] (ans := []) (vs := [(44, .bool (!(SAct.eqb e1 x2))), (43, .bool (!(SAct.eqb e1 x2)))]) (l := []) (by kernel_rfl) trivial ?_
        refine ge_nil fun a hF => hK9 _ _ ?_ a hF
        by_cases hc8 : (SAct.eqb e1 x2) = true
        · rw [if_pos hc8] at h
          refine we_known (t := 44) (b := !(SAct.eqb e1 x2)) (v := false) (by kernel_rfl) (congrArg (fun z => !z) hc8) ?_
          refine we_false (by kernel_rfl) ?_
          refine we_skip fun a hF => hK7 _ _ ?_ a hF
          refine we_region [(0, 0), (1, 0)] rfl ?_
          refine ge_addn (d := 45) (ty := 3) (x := (.tmp 17)) (y := (.const (.int .i64 1))) (t := 3) (t2 := 3) (k := .i64) (m := i1) (by kernel_rfl) (by kernel_rfl) (by kernel_rfl) (by have h0 := hR0.small; omega) ?_
          refine ge_batch [1] (ans := []) (vs := [(17, .int .i64 ((i1 + 1 : Nat) : Int))]) (l := []) (by kernel_rfl) trivial ?_
          have hS12 := hS5.bring 1 rfl
          have hS13 := hS12.takeN 1
          obtain rfl := Option.some.inj h
          exact ge_nil fun a hF => hQ _ _ _ (Outs.again ⟨hS13, hF.weaken ⟨by kernel_rfl, by kernel_rfl, by kernel_rfl, by kernel_rfl, by kernel_rfl, trivial⟩⟩)
        · rw [if_neg hc8] at h
          refine we_known (t := 44) (b := !(SAct.eqb e1 x2)) (v := true) (by kernel_rfl) (congrArg (fun z => !z) (Bool.eq_false_iff.2 hc8)) ?_
          refine we_true (by kernel_rfl) ?_
          refine we_seq fun K12 hK12 => ?_
          refine we_region [(0, 0)] rfl ?_
          refine ge_batch [0] (ans := []) (vs := [(6, .bool false)]) (l := []) (by kernel_rfl) trivial ?_
          refine ge_nil fun a hF => hK12 _ _ ?_ a hF
          have hS14 := hS5.takeN 0
          obtain rfl := Option.some.inj h
          exact we_ret fun a hF => hQ _ _ _ (Outs.out nofun (Exits.on ⟨rfl, (post_ret (rs := [.tmp 6]) (ans := []) (vs := [.bool false]) (l := []) rfl (by kernel_rfl) trivial ⟨rfl, hS14⟩) a hF⟩))
      · rw [if_neg hc7] at h
        refine ge_known (t := 39) (b := decide ((i1 : Int) ≥ (l1.length : Int))) (c := false) (by kernel_rfl) (decide_eq_false hc7) ?_
        refine ge_batch [18, 19, 20, 21, 22] (ans := []) (vs := [(44, .bool false), (43, .bool false), (42, undef), (41, undef), (40, undef)]) (l := []) (by kernel_rfl) trivial ?_
        refine ge_nil fun a hF => hK9 _ _ ?_ a hF
        refine we_false (by kernel_rfl) ?_
        refine we_skip fun a hF => hK7 _ _ ?_ a hF
        refine we_region [(0, 0), (1, 0)] rfl ?_
        refine ge_addn (d := 45) (ty := 3) (x := (.tmp 17)) (y := (.const (.int .i64 1))) (t := 3) (t2 := 3) (k := .i64) (m := i1) (by kernel_rfl) (by kernel_rfl) (by kernel_rfl) (by have h0 := hR0.small; omega) ?_
        refine ge_batch [1] (ans := []) (vs := [(17, .int .i64 ((i1 + 1 : Nat) : Int))]) (l := []) (by kernel_rfl) trivial ?_
        have hS15 := hS5.bring 1 rfl
        have hS16 := hS15.takeN 1
        obtain rfl := Option.some.inj h
        exact ge_nil fun a hF => hQ _ _ _ (Outs.again ⟨hS16, hF.weaken ⟨by kernel_rfl, by kernel_rfl, by kernel_rfl, by kernel_rfl, by kernel_rfl, trivial⟩⟩)
  · rw [if_neg hc2] at h
    refine we_known (t := 18) (b := decide ((i1 : Int) < (f0.length : Int))) (v := false) (by kernel_rfl) (decide_eq_false hc2) ?_
    refine we_false (by kernel_rfl) ?_
    have hS17 := hS.takeN 0
    obtain rfl := Option.some.inj h
    exact we_exit fun a hF => hQ _ _ _ (Outs.out nofun (Exits.here ⟨hS17, hF.weaken trivial⟩))
theorem punctualsame_Still_api_Act_ok (K : Nat) (f0 : List SAct) (A0 : Option Addr) (n0 : Nat) (c0 : Nat) (l1 : List SAct) (A1 : Option Addr) (c1 : Nat) (x2 : SAct) (w0 : World) (hR0 : RdL w0 A0 f0) (hc0 : f0.length ≤ c0) (hR1 : RdL w0 A1 l1) (hL1 : l1.length ≤ c1) (r : Bool) (h : punctualsame_Still_api_Act.f K f0 l1 x2 = some r) :
    Calls Tryd.prog 19 #[.slice A0 n0 c0, .slice A1 l1.length c1, .agg #[.int .i64 x2.Do, .int .i64 x2.N]] w0 (punctualsame_Still_api_Act.Post w0 r) := by
  have hS := St.start w0
  unfold punctualsame_Still_api_Act.f at h
  refine calls_enter (n := 46) (args := [.slice A0 n0 c0, .slice A1 l1.length c1, .agg #[.int .i64 x2.Do, .int .i64 x2.N]]) (fn := Tryd.f19) rfl rfl rfl rfl ?_
  show WE _ _ _ _ [(0, .slice A0 n0 c0), (1, .slice A1 l1.length c1), (2, .agg #[.int .i64 x2.Do, .int .i64 x2.N])] _
  refine we_seq fun K1 hK1 => ?_
  refine we_region [(0, 1), (1, 0)] rfl ?_
  refine ge_new (d := some 5) (o := .cells #[.int .i64 x2.Do, .int .i64 x2.N] 39) (v := fun b => .pointer (some ⟨b, 0, none⟩)) hS (fun b => by kernel_rfl) fun b1 w1 hx1 hS1 => ?_
  refine ge_batch [1] (ans := []) (vs := [(6, .bool false)]) (l := []) (by kernel_rfl) trivial ?_
  refine ge_nil fun a hF => hK1 _ _ ?_ a hF
  refine we_seq fun K2 hK2 => ?_
  refine we_region [(0, 0), (1, 0), (2, 0), (3, 0), (4, 0), (5, 0)] rfl ?_
  refine ge_batch [0, 1, 2, 3] (ans := []) (vs := [(13, .int .i64 (IntKind.i64.wrap ((l1.length : Int) + 3))), (12, .int .i64 (l1.length : Int)), (11, .slice A1 l1.length c1), (10, .slice A0 n0 c0)]) (l := []) (by kernel_rfl) trivial ?_
  by_cases hc1 : (IntKind.i64.wrap ((l1.length : Int) + 3)) = (f0.length : Int)
  · rw [if_pos hc1] at h
    refine ge_sliceHi (d := 14) (ty := 22) (t := 22) (el := 39) (sz := 2) (m := n0) (c := c0) (hn := f0.length) (x := (.tmp 10)) (y := (.tmp 13)) (A := A0) (k' := .i64) (hi := (IntKind.i64.wrap ((l1.length : Int) + 3))) (by kernel_rfl) (by kernel_rfl) (by kernel_rfl) hc1 (by kernel_rfl) (by kernel_rfl) hc0 ?_
    refine ge_batch [5] (ans := []) (vs := [(7, .slice A0 f0.length c0)]) (l := []) (by kernel_rfl) trivial ?_
    refine ge_nil fun a hF => hK2 _ _ ?_ a hF
    refine we_seq fun K3 hK3 => ?_
    refine we_seq fun K4 hK4 => ?_
    refine we_region [(0, 0), (1, 0), (2, 0)] rfl ?_
    refine ge_batch [0, 1, 2] (ans := []) (vs := [(17, .int .i64 0), (16, .int .i64 (f0.length : Int)), (15, .slice A0 f0.length c0)]) (l := []) (by kernel_rfl) trivial ?_
    refine ge_nil fun a hF => hK4 _ _ ?_ a hF
    refine we_block ?_
    rcases hq1 : iter (punctualsame_Still_api_Act.r0 f0 l1 x2) K 0 with _ | (_ | rr1)
    · rw [hq1] at h; cases h
    · rw [hq1] at h
      simp only [] at h
      refine we_iter (A := punctualsame_Still_api_Act.A0 K w0 f0 A0 n0 c0 l1 A1 c1 x2 hR0 hc0 hR1 hL1 b1 hc1) (B := punctualsame_Still_api_Act.B0 K w0 f0 A0 n0 c0 l1 A1 c1 x2 hR0 hc0 hR1 hL1 b1 hc1) hq1 (fun a hF => ⟨hS1, hF.weaken ⟨by kernel_rfl, by kernel_rfl, by kernel_rfl, by kernel_rfl, by kernel_rfl, trivial⟩⟩) (fun s o hf a w hA Q hQ => punctualsame_Still_api_Act_r0 K w0 f0 A0 n0 c0 l1 A1 c1 x2 hR0 hc0 hR1 hL1 b1 hc1 s o hf a w hA Q hQ) ?_
      rintro _ a w4 _ ⟨rfl, hS18, hF⟩
      replace hS18 : St w0 w4 [] := hS18
      refine hK3 [] w4 ?_ a hF
      refine we_seq fun K13 hK13 => ?_
      refine we_region [(0, 0)] rfl ?_
      refine ge_batch [0] (ans := []) (vs := [(6, .bool true)]) (l := []) (by kernel_rfl) trivial ?_
      refine ge_nil fun a hF => hK13 _ _ ?_ a hF
      obtain rfl := Option.some.inj h
      exact we_ret (post_ret (rs := [.tmp 6]) (ans := []) (vs := [.bool true]) (l := []) rfl (by kernel_rfl) trivial ⟨rfl, hS18⟩)
    · rw [hq1] at h
      simp only [] at h
      refine we_iter (A := punctualsame_Still_api_Act.A0 K w0 f0 A0 n0 c0 l1 A1 c1 x2 hR0 hc0 hR1 hL1 b1 hc1) (B := punctualsame_Still_api_Act.B0 K w0 f0 A0 n0 c0 l1 A1 c1 x2 hR0 hc0 hR1 hL1 b1 hc1) hq1 (fun a hF => ⟨hS1, hF.weaken ⟨by kernel_rfl, by kernel_rfl, by kernel_rfl, by kernel_rfl, by kernel_rfl, trivial⟩⟩) (fun s o hf a w hA Q hQ => punctualsame_Still_api_Act_r0 K w0 f0 A0 n0 c0 l1 A1 c1 x2 hR0 hc0 hR1 hL1 b1 hc1 s o hf a w hA Q hQ) ?_
      rintro _ a w1 _ ⟨rfl, hb⟩
      obtain rfl := Option.some.inj h
      exact hb
  · rw [if_neg hc1] at h
    cases h

/-! punctual/punctualsame.Acts -/
abbrev punctualsame_Acts.Post (w0 : World) (Z : Zone) (r : List SLocked) (e : Ending) (w : World) : Prop := ∃ (v1 : Value) (hds1 : List HLocked) (ft : List Nat) (wf : World), e = .returned (v1) ∧ DRows (Zand Z wf) hds1 r ∧ St w0 w [Own.of v1 34 hds1, Own.frz ft wf]
def punctualsame_Acts.r0 (l0 : List SLocked) : (List SLocked) × Nat → Option (((List SLocked) × Nat) ⊕ ((List SLocked) ⊕ (List SLocked)))
  | (m1, i1) =>
    if (i1 : Int) < (l0.length : Int) then
      match l0[i1]? with
      | none => none
      | some e1 =>
        if 0 + e1.Acts.length ≤ 8796093022208 then
          if m1.length < 3518437208883 then
            some (.inl ((m1 ++ [e1]), (i1 + 1)))
          else
            none
        else
          none
    else
      some (.inr (.inl m1))
def punctualsame_Acts.f (K : Nat) (l0 : List SLocked) : Option (List SLocked) :=
  match iter (punctualsame_Acts.r0 l0) K (([] : List SLocked), 0) with
  | none => none
  | some (.inl m3) =>
    some m3
  | some (.inr rr1) =>
    some rr1
abbrev punctualsame_Acts.A0 (K : Nat) (w0 : World) (Z : Zone) (l0 : List SLocked) (A0 : Option Addr) (c0 : Nat) (hZ : ∀ w, Sub w0 w → Z w) (hR0 : RdZ Z A0 l0) (hL0 : l0.length ≤ c0) (ft1 : List Nat) (wf1 : World) : ((List SLocked) × Nat) → Act → World → Prop := fun (s : (List SLocked) × Nat) a w => ∃ (ft2 : List Nat) (wf2 : World) (v1 : Value) (hds1 : List HLocked), Sub wf1 wf2 ∧ DRows (Zand Z wf2) hds1 s.1 ∧ St w0 w [Own.of v1 34 hds1, Own.frz ft2 wf2] ∧ Frm 23 a [(3, v1), (6, .slice A0 l0.length c0), (7, .int .i64 (l0.length : Int)), (8, .int .i64 (s.2 : Int))]
abbrev punctualsame_Acts.B0 (K : Nat) (w0 : World) (Z : Zone) (l0 : List SLocked) (A0 : Option Addr) (c0 : Nat) (hZ : ∀ w, Sub w0 w → Z w) (hR0 : RdZ Z A0 l0) (hL0 : l0.length ≤ c0) (ft1 : List Nat) (wf1 : World) : ((List SLocked) ⊕ (List SLocked)) → Exit → Act → World → Prop := Exits 0 (fun (s : (List SLocked)) a w => ∃ (ft3 : List Nat) (wf3 : World) (v2 : Value) (hds2 : List HLocked), Sub wf1 wf3 ∧ DRows (Zand Z wf3) hds2 s ∧ St w0 w [Own.of v2 34 hds2, Own.frz ft3 wf3] ∧ Frm 23 a [(3, v2)]) (Rets Tryd.prog Tryd.f20 (punctualsame_Acts.Post w0 Z))
theorem punctualsame_Acts_r0 (K : Nat) (w0 : World) (Z : Zone) (l0 : List SLocked) (A0 : Option Addr) (c0 : Nat) (hZ : ∀ w, Sub w0 w → Z w) (hR0 : RdZ Z A0 l0) (hL0 : l0.length ≤ c0) (ft1 : List Nat) (wf1 : World) (s : (List SLocked) × Nat) (o : ((List SLocked) × Nat) ⊕ ((List SLocked) ⊕ (List SLocked))) (h : punctualsame_Acts.r0 l0 s = some o) (a : Act) (w : World) (hA : punctualsame_Acts.A0 K w0 Z l0 A0 c0 hZ hR0 hL0 ft1 wf1 s a w) (Q : Exit → Act → World → Prop) (hQ : ∀ x a w, Outs (punctualsame_Acts.A0 K w0 Z l0 A0 c0 hZ hR0 hL0 ft1 wf1) (punctualsame_Acts.B0 K w0 Z l0 A0 c0 hZ hR0 hL0 ft1 wf1) o x a w → Q x a w) : (subF Tryd.f20 [1, 1, 0, 1, 0, 0]).wp Tryd.prog Q a w := by
  obtain ⟨m1, i1⟩ := s
  obtain ⟨ft2, wf2, v1, hds1, hsb1, hd1, hS, hF⟩ := hA
  replace hS : St w0 w [Own.of v1 34 hds1, Own.frz ft2 wf2] := hS
  simp only [punctualsame_Acts.r0] at h
  refine (?_ : WE Tryd.prog 23 (subF Tryd.f20 [1, 1, 0, 1, 0, 0]) Q [(3, v1), (6, .slice A0 l0.length c0), (7, .int .i64 (l0.length : Int)), (8, .int .i64 (i1 : Int))] w) a hF
  clear hF a
  refine we_seq fun K5 hK5 => ?_
  refine we_region [(0, 0)] rfl ?_
  refine ge_batch [0] (ans := []) (vs := [(9, .bool (decide ((i1 : Int) < (l0.length : Int))))]) (l := []) (by kernel_rfl) trivial ?_
  refine ge_nil fun a hF => hK5 _ _ ?_ a hF
  refine we_seq fun K6 hK6 => ?_
  by_cases hc1 : (i1 : Int) < (l0.length : Int)
  · rw [if_pos hc1] at h
    refine we_known (t := 9) (b := decide ((i1 : Int) < (l0.length : Int))) (v := true) (by kernel_rfl) (decide_eq_true hc1) ?_
    refine we_true (by kernel_rfl) ?_
    refine we_skip fun a hF => hK6 _ _ ?_ a hF
    refine we_seq fun K7 hK7 => ?_
    refine we_block ?_
    refine we_seq fun K8 hK8 => ?_
    refine we_region [(0, 0), (1, 0), (2, 1), (3, 2)] rfl ?_
    rcases hx1 : l0[i1]? with _ | e1
    · rw [hx1] at h; cases h
    rw [hx1] at h
    simp only [] at h
    obtain ⟨An1, cn1, hCs1, hLn1, hRn1⟩ := SLocked.getZ hR0 hx1
    refine ge_index (d := 10) (ty := 0) (t := 23) (el := 34) (sz := 3) (m := l0.length) (c := c0) (x := (.tmp 6)) (y := (.tmp 8)) (A := A0) (k' := .i64) (j := (i1 : Int)) (jn := i1) (b0 := blkOf A0) (o0 := offOf A0) (by kernel_rfl) (by kernel_rfl) (by kernel_rfl) (by kernel_rfl) (by kernel_rfl) (hR0.eqSome (hZ _ hS.subw) (pos_of_get hx1)) rfl (lt_of_get hx1) ?_
    refine ge_batch [1] (ans := [.val (.int .i64 e1.At), .val (.int .i64 e1.P), .val (.slice An1 e1.Acts.length cn1)]) (vs := [(11, .agg #[.int .i64 e1.At, .int .i64 e1.P, .slice An1 e1.Acts.length cn1])]) (l := [.loaded ⟨blkOf A0, offOf A0 + i1 * 3, none⟩ (.int .i64 e1.At), .loaded ⟨blkOf A0, offOf A0 + i1 * 3 + 1, none⟩ (.int .i64 e1.P), .loaded ⟨blkOf A0, offOf A0 + i1 * 3 + 2, none⟩ (.slice An1 e1.Acts.length cn1)]) (by kernel_rfl) ⟨hCs1 _ (hZ _ hS.subw) 0 _ rfl, hCs1 _ (hZ _ hS.subw) 1 _ rfl, hCs1 _ (hZ _ hS.subw) 2 _ rfl, trivial⟩ ?_
    refine ge_new (d := some 5) (o := .cells #[.int .i64 0, .int .i64 0, .slice none 0 0] 34) (v := fun b => .pointer (some ⟨b, 0, none⟩)) hS (fun b => by kernel_rfl) fun b1 w1 hx2 hS5 => ?_
    refine ge_set (b := b1) (j := 0) (cs := #[.int .i64 0, .int .i64 0, .slice none 0 0]) (t := 34) (vs := [.int .i64 e1.At, .int .i64 e1.P, .slice An1 e1.Acts.length cn1]) hS5 (by kernel_rfl) rfl rfl fun w2 hS6 => ?_
    have hS7 := hS6.nc #[.int .i64 e1.At, .int .i64 e1.P, .slice An1 e1.Acts.length cn1] rfl
    refine ge_nil fun a hF => hK8 _ _ ?_ a hF
    refine we_seq fun K9 hK9 => ?_
    refine we_region [(0, 1), (1, 0), (2, 0), (3, 2), (4, 0), (5, 2)] rfl ?_
    refine ge_new (d := some 12) (o := .cells #[] 39) (v := fun b => .slice (some ⟨b, 0, none⟩) 0 0) hS7 (fun b => by kernel_rfl) fun b2 w3 hx3 hS8 => ?_
    refine ge_batch [1, 2] (ans := [.val (.slice An1 e1.Acts.length cn1)]) (vs := [(14, .slice An1 e1.Acts.length cn1), (13, .pointer (some ⟨b1, 2, none⟩))]) (l := [.loaded ⟨b1, 2, none⟩ (.slice An1 e1.Acts.length cn1)]) (by kernel_rfl) ⟨hS8.cell 1 rfl rfl, trivial⟩ ?_
    have hS9 := hS8.asRow (α := SAct) (c := 0) ([] : List SAct) (Nat.le_refl _) (by decide) rfl rfl
    by_cases hc2 : 0 + e1.Acts.length ≤ 8796093022208
    · rw [if_pos hc2] at h
      refine ge_appendL (α := SAct) (m := 0) (d := 15) (t := 22) (el := 39) (bytes := 16) (c1 := cn1) (A1 := An1) (x := (.tmp 12)) (y := (.tmp 14)) (ty := 22) (v := (.slice (some ⟨b2, 0, none⟩) 0 0)) (z := .agg #[.int .i64 0, .int .i64 0]) (l := ([] : List SAct)) (us := e1.Acts) (by kernel_rfl) (by kernel_rfl) (by kernel_rfl) (by kernel_rfl) (by kernel_rfl) rfl hS9 (hRn1 _ (hZ _ hS9.subw)) rfl (Nat.mul_le_of_le_div _ _ _ hc2) fun v3 w4 hS10 => ?_
      have hS11 : St w0 w4 [Own.of v3 39 e1.Acts, Own.blk b1 (.cells #[.int .i64 e1.At, .int .i64 e1.P, .slice An1 e1.Acts.length cn1] 34 (0, 0)), Own.of v1 34 hds1, Own.frz ft2 wf2] := hS10
      refine ge_batch [4] (ans := []) (vs := [(16, .pointer (some ⟨b1, 2, none⟩))]) (l := []) (by kernel_rfl) trivial ?_
      obtain ⟨Z1, cz1, rfl⟩ := hS11.open 0 rfl
      have hS12 := hS11.bring 1 rfl
      refine ge_set (b := b1) (j := 2) (cs := #[.int .i64 e1.At, .int .i64 e1.P, .slice An1 e1.Acts.length cn1]) (t := 34) (vs := [(.slice Z1 e1.Acts.length cz1)]) hS12 (by kernel_rfl) rfl rfl fun w5 hS13 => ?_
      have hS14 := hS13.nc #[.int .i64 e1.At, .int .i64 e1.P, (.slice Z1 e1.Acts.length cz1)] rfl
      refine ge_nil fun a hF => hK9 _ _ ?_ a hF
      refine we_region [(0, 0), (1, 0), (2, 1), (3, 2), (4, 0)] rfl ?_
      refine ge_batch [0, 1] (ans := [.val (.int .i64 e1.At), .val (.int .i64 e1.P), .val ((.slice Z1 e1.Acts.length cz1))]) (vs := [(18, .agg #[.int .i64 e1.At, .int .i64 e1.P, (.slice Z1 e1.Acts.length cz1)]), (17, v1)]) (l := [.loaded ⟨b1, 0, none⟩ (.int .i64 e1.At), .loaded ⟨b1, 1, none⟩ (.int .i64 e1.P), .loaded ⟨b1, 2, none⟩ ((.slice Z1 e1.Acts.length cz1))]) (by kernel_rfl) ⟨hS14.cell 0 rfl rfl, hS14.cell 0 rfl rfl, hS14.cell 0 rfl rfl, trivial⟩ ?_
      have hS15 := hS14.bring 3 rfl
      have hS16 := hS15.bring 2 rfl
      obtain ⟨ft4, wf4, hsb3, -, hRd1, hLd1, hS17⟩ := hS16.ffrz Z
      refine ge_new (d := some 19) (o := .cells #[.int .i64 e1.At, .int .i64 e1.P, .slice Z1 e1.Acts.length cz1] 34) (v := fun b => .slice (some ⟨b, 0, none⟩) 1 1) hS17 (fun b => by kernel_rfl) fun b3 w6 hx4 hS18 => ?_
      have hS19 := hS18.bring 3 rfl
      by_cases hc3 : m1.length < 3518437208883
      · rw [if_pos hc3] at h
        have hd3 : DRows (Zand Z wf4) (hds1 ++ [(⟨e1.At, e1.P, ⟨Z1, e1.Acts.length, cz1⟩⟩ : HLocked)]) (m1 ++ [e1]) := DRows.add (hd1.up (ZLe.up hsb3)) (SLocked.mkZ e1 hLd1 hRd1)
        refine ge_append (α := HLocked) (m := 0) (d := 20) (t := 23) (el := 34) (bytes := 40) (c1 := 1) (b1 := b3) (x := (.tmp 17)) (y := (.tmp 19)) (ty := 23) (v := v1) (z := .agg #[.int .i64 0, .int .i64 0, .slice none 0 0]) (l := hds1) (u := (⟨e1.At, e1.P, ⟨Z1, e1.Acts.length, cz1⟩⟩ : HLocked)) (by kernel_rfl) (by kernel_rfl) (by kernel_rfl) (by kernel_rfl) (by kernel_rfl) rfl hS19 rfl (by have h0 : hds1.length = m1.length := DRows.len (hd1.up (ZLe.up hsb3)); omega) fun v4 w7 hS20 => ?_
        refine ge_batch [4] (ans := []) (vs := [(3, v4)]) (l := []) (by kernel_rfl) trivial ?_
        refine ge_nil fun a hF => hK7 _ _ ?_ a hF
        refine we_region [(0, 0), (1, 0)] rfl ?_
        refine ge_addn (d := 21) (ty := 3) (x := (.tmp 8)) (y := (.const (.int .i64 1))) (t := 3) (t2 := 3) (k := .i64) (m := i1) (by kernel_rfl) (by kernel_rfl) (by kernel_rfl) (by have h0 := RdZ.small hR0 (hZ _ hS20.subw); omega) ?_
        refine ge_batch [1] (ans := []) (vs := [(8, .int .i64 ((i1 + 1 : Nat) : Int))]) (l := []) (by kernel_rfl) trivial ?_
        have hS21 := hS20.bring 1 rfl
        have hS22 := hS21.bring 1 rfl
        have hS23 := hS22.takeN 2
        obtain rfl := Option.some.inj h
        exact ge_nil fun a hF => hQ _ _ _ (Outs.again ⟨ft4, wf4, v4, (hds1 ++ [(⟨e1.At, e1.P, ⟨Z1, e1.Acts.length, cz1⟩⟩ : HLocked)]), (hsb1.trans hsb3), hd3, hS23, hF.weaken ⟨by kernel_rfl, by kernel_rfl, by kernel_rfl, by kernel_rfl, trivial⟩⟩)
      · rw [if_neg hc3] at h
        cases h
    · rw [if_neg hc2] at h
      cases h
  · rw [if_neg hc1] at h
    refine we_known (t := 9) (b := decide ((i1 : Int) < (l0.length : Int))) (v := false) (by kernel_rfl) (decide_eq_false hc1) ?_
    refine we_false (by kernel_rfl) ?_
    have hS24 := hS.bring 1 rfl
    have hS25 := hS24.bring 1 rfl
    obtain rfl := Option.some.inj h
    exact we_exit fun a hF => hQ _ _ _ (Outs.out nofun (Exits.here ⟨ft2, wf2, v1, hds1, hsb1, hd1, hS25, hF.weaken ⟨by kernel_rfl, trivial⟩⟩))
theorem punctualsame_Acts_ok (K : Nat) (Z : Zone) (l0 : List SLocked) (A0 : Option Addr) (c0 : Nat) (w0 : World) (hZ : ∀ w, Sub w0 w → Z w) (hR0 : RdZ Z A0 l0) (hL0 : l0.length ≤ c0) (r : List SLocked) (h : punctualsame_Acts.f K l0 = some r) :
    Calls Tryd.prog 20 #[.slice A0 l0.length c0] w0 (punctualsame_Acts.Post w0 Z r) := by
  have hS := St.start w0
  unfold punctualsame_Acts.f at h
  refine calls_enter (n := 23) (args := [.slice A0 l0.length c0]) (fn := Tryd.f20) rfl rfl rfl rfl ?_
  show WE _ _ _ _ [(0, .slice A0 l0.length c0)] _
  obtain ⟨ft1, wf1, hS1⟩ := hS.frz0
  refine we_seq fun K1 hK1 => ?_
  refine we_region [(0, 0)] rfl ?_
  refine ge_batch [0] (ans := []) (vs := [(2, .slice none 0 0)]) (l := []) (by kernel_rfl) trivial ?_
  refine ge_nil fun a hF => hK1 _ _ ?_ a hF
  refine we_seq fun K2 hK2 => ?_
  refine we_region [(0, 0)] rfl ?_
  refine ge_batch [0] (ans := []) (vs := [(3, .slice none 0 0)]) (l := []) (by kernel_rfl) trivial ?_
  refine ge_nil fun a hF => hK2 _ _ ?_ a hF
  refine we_seq fun K3 hK3 => ?_
  refine we_seq fun K4 hK4 => ?_
  refine we_region [(0, 0), (1, 0), (2, 0)] rfl ?_
  refine ge_batch [0, 1, 2] (ans := []) (vs := [(8, .int .i64 0), (7, .int .i64 (l0.length : Int)), (6, .slice A0 l0.length c0)]) (l := []) (by kernel_rfl) trivial ?_
  refine ge_nil fun a hF => hK4 _ _ ?_ a hF
  refine we_block ?_
  have hS2 := hS1.nil (α := HLocked) 34
  have hS3 := hS2.bring 1 rfl
  have hS4 := hS3.bring 1 rfl
  rcases hq1 : iter (punctualsame_Acts.r0 l0) K (([] : List SLocked), 0) with _ | (m3 | rr1)
  · rw [hq1] at h; cases h
  · rw [hq1] at h
    simp only [] at h
    refine we_iter (A := punctualsame_Acts.A0 K w0 Z l0 A0 c0 hZ hR0 hL0 ft1 wf1) (B := punctualsame_Acts.B0 K w0 Z l0 A0 c0 hZ hR0 hL0 ft1 wf1) hq1 (fun a hF => ⟨ft1, wf1, (.slice none 0 0), ([] : List HLocked), (Sub.refl _), (DRows.nil _), hS4, hF.weaken ⟨by kernel_rfl, by kernel_rfl, by kernel_rfl, by kernel_rfl, trivial⟩⟩) (fun s o hf a w hA Q hQ => punctualsame_Acts_r0 K w0 Z l0 A0 c0 hZ hR0 hL0 ft1 wf1 s o hf a w hA Q hQ) ?_
    rintro _ a w8 _ ⟨rfl, ft5, wf5, v5, hds3, hRz1, hRz2, hS26, hF⟩
    replace hS26 : St w0 w8 [Own.of v5 34 hds3, Own.frz ft5 wf5] := hS26
    refine hK3 [(3, v5)] w8 ?_ a hF
    refine we_seq fun K10 hK10 => ?_
    refine we_region [(0, 0), (1, 0)] rfl ?_
    refine ge_batch [0, 1] (ans := []) (vs := [(2, v5), (22, v5)]) (l := []) (by kernel_rfl) trivial ?_
    refine ge_nil fun a hF => hK10 _ _ ?_ a hF
    have hS27 := hS26.bring 1 rfl
    have hS28 := hS27.bring 1 rfl
    obtain rfl := Option.some.inj h
    exact we_ret (post_ret (rs := [.tmp 2]) (ans := []) (vs := [v5]) (l := []) rfl (by kernel_rfl) trivial ⟨v5, hds3, ft5, wf5, rfl, hRz2, hS28⟩)
  · rw [hq1] at h
    simp only [] at h
    refine we_iter (A := punctualsame_Acts.A0 K w0 Z l0 A0 c0 hZ hR0 hL0 ft1 wf1) (B := punctualsame_Acts.B0 K w0 Z l0 A0 c0 hZ hR0 hL0 ft1 wf1) hq1 (fun a hF => ⟨ft1, wf1, (.slice none 0 0), ([] : List HLocked), (Sub.refl _), (DRows.nil _), hS4, hF.weaken ⟨by kernel_rfl, by kernel_rfl, by kernel_rfl, by kernel_rfl, trivial⟩⟩) (fun s o hf a w hA Q hQ => punctualsame_Acts_r0 K w0 Z l0 A0 c0 hZ hR0 hL0 ft1 wf1 s o hf a w hA Q hQ) ?_
    rintro _ a w1 _ ⟨rfl, hb⟩
    obtain rfl := Option.some.inj h
    exact hb

/-! punctual/punctualref.CheckLocked -/
abbrev punctualref_CheckLocked.Post (w0 : World) (r : SFault) (e : Ending) (w : World) : Prop := e = .returned (.agg #[.int .i64 r.Code, .int .i64 r.At]) ∧ St w0 w []
def punctualref_CheckLocked.r0 (K : Nat) (l0 : List SLocked) : Nat → Option (Nat ⊕ (Unit ⊕ SFault))
  | i1 =>
    if (i1 : Int) < (l0.length : Int) then
      match l0[i1]? with
      | none => none
      | some e1 =>
        if e1.At < 0 then
          some (.inr (.inr (punctualref_F.f 3 (i1 : Int))))
        else
          if e1.At > 20000 then
            some (.inr (.inr (punctualref_F.f 3 (i1 : Int))))
          else
            if e1.P < 0 then
              some (.inr (.inr (punctualref_F.f 3 (i1 : Int))))
            else
              if e1.P > 1000 then
                some (.inr (.inr (punctualref_F.f 3 (i1 : Int))))
              else
                match punctualref_CheckActs.f K e1.Acts with
                | none => none
                | some r1 =>
                  if r1.Code = 0 then
                    some (.inl (i1 + 1))
                  else
                    some (.inr (.inr (punctualref_F.f r1.Code (i1 : Int))))
    else
      some (.inr (.inl ()))
def punctualref_CheckLocked.f (K : Nat) (l0 : List SLocked) : Option SFault :=
  if (l0.length : Int) > 100 then
    some (punctualref_F.f 2 0)
  else
    match iter (punctualref_CheckLocked.r0 K l0) K 0 with
    | none => none
    | some (.inl _) =>
      some (⟨0, 0⟩ : SFault)
    | some (.inr rr1) =>
      some rr1
abbrev punctualref_CheckLocked.A0 (K : Nat) (w0 : World) (Z : Zone) (l0 : List SLocked) (A0 : Option Addr) (c0 : Nat) (hZ : ∀ w, Sub w0 w → Z w) (hR0 : RdZ Z A0 l0) (hL0 : l0.length ≤ c0) (b1 : Nat) (hc1 : ¬ ((l0.length : Int) > 100)) : Nat → Act → World → Prop := fun (s : Nat) a w => St w0 w [Own.blk b1 (.cells #[.int .i64 0, .int .i64 0] 27 (0, 0))] ∧ Frm 49 a [(2, .pointer (some ⟨b1, 0, none⟩)), (10, .slice A0 l0.length c0), (11, .int .i64 (l0.length : Int)), (12, .int .i64 (s : Int))]
abbrev punctualref_CheckLocked.B0 (K : Nat) (w0 : World) (Z : Zone) (l0 : List SLocked) (A0 : Option Addr) (c0 : Nat) (hZ : ∀ w, Sub w0 w → Z w) (hR0 : RdZ Z A0 l0) (hL0 : l0.length ≤ c0) (b1 : Nat) (hc1 : ¬ ((l0.length : Int) > 100)) : (Unit ⊕ SFault) → Exit → Act → World → Prop := Exits 0 (fun (s : Unit) a w => St w0 w [Own.blk b1 (.cells #[.int .i64 0, .int .i64 0] 27 (0, 0))] ∧ Frm 49 a [(2, .pointer (some ⟨b1, 0, none⟩))]) (Rets Tryd.prog Tryd.f21 (punctualref_CheckLocked.Post w0))
theorem punctualref_CheckLocked_r0 (K : Nat) (w0 : World) (Z : Zone) (l0 : List SLocked) (A0 : Option Addr) (c0 : Nat) (hZ : ∀ w, Sub w0 w → Z w) (hR0 : RdZ Z A0 l0) (hL0 : l0.length ≤ c0) (b1 : Nat) (hc1 : ¬ ((l0.length : Int) > 100)) (s : Nat) (o : Nat ⊕ (Unit ⊕ SFault)) (h : punctualref_CheckLocked.r0 K l0 s = some o) (a : Act) (w : World) (hA : punctualref_CheckLocked.A0 K w0 Z l0 A0 c0 hZ hR0 hL0 b1 hc1 s a w) (Q : Exit → Act → World → Prop) (hQ : ∀ x a w, Outs (punctualref_CheckLocked.A0 K w0 Z l0 A0 c0 hZ hR0 hL0 b1 hc1) (punctualref_CheckLocked.B0 K w0 Z l0 A0 c0 hZ hR0 hL0 b1 hc1) o x a w → Q x a w) : (subF Tryd.f21 [1, 1, 0, 1, 0, 0]).wp Tryd.prog Q a w := by
  obtain ⟨i1, hs⟩ : ∃ z, z = s := ⟨s, rfl⟩
  subst hs
  obtain ⟨hS, hF⟩ := hA
  replace hS : St w0 w [Own.blk b1 (.cells #[.int .i64 0, .int .i64 0] 27 (0, 0))] := hS
  simp only [punctualref_CheckLocked.r0] at h
  refine (?_ : WE Tryd.prog 49 (subF Tryd.f21 [1, 1, 0, 1, 0, 0]) Q [(2, .pointer (some ⟨b1, 0, none⟩)), (10, .slice A0 l0.length c0), (11, .int .i64 (l0.length : Int)), (12, .int .i64 (i1 : Int))] w) a hF
  clear hF a
  refine we_seq fun K7 hK7 => ?_
  refine we_region [(0, 0)] rfl ?_
  refine ge_batch [0] (ans := []) (vs := [(13, .bool (decide ((i1 : Int) < (l0.length : Int))))]) (l := []) (by kernel_rfl) trivial ?_
  refine ge_nil fun a hF => hK7 _ _ ?_ a hF
  refine we_seq fun K8 hK8 => ?_
  by_cases hc2 : (i1 : Int) < (l0.length : Int)
  · rw [if_pos hc2] at h
    refine we_known (t := 13) (b := decide ((i1 : Int) < (l0.length : Int))) (v := true) (by kernel_rfl) (decide_eq_true hc2) ?_
    refine we_true (by kernel_rfl) ?_
    refine we_skip fun a hF => hK8 _ _ ?_ a hF
    refine we_seq fun K9 hK9 => ?_
    refine we_block ?_
    refine we_seq fun K10 hK10 => ?_
    refine we_region [(0, 0), (1, 0), (2, 0), (3, 1), (4, 0), (5, 2)] rfl ?_
    refine ge_batch [0] (ans := []) (vs := [(14, .int .i64 (i1 : Int))]) (l := []) (by kernel_rfl) trivial ?_
    rcases hx2 : l0[i1]? with _ | e1
    · rw [hx2] at h; cases h
    rw [hx2] at h
    simp only [] at h
    obtain ⟨An1, cn1, hCs1, hLn1, hRn1⟩ := SLocked.getZ hR0 hx2
    refine ge_index (d := 15) (ty := 0) (t := 23) (el := 34) (sz := 3) (m := l0.length) (c := c0) (x := (.tmp 10)) (y := (.tmp 12)) (A := A0) (k' := .i64) (j := (i1 : Int)) (jn := i1) (b0 := blkOf A0) (o0 := offOf A0) (by kernel_rfl) (by kernel_rfl) (by kernel_rfl) (by kernel_rfl) (by kernel_rfl) (hR0.eqSome (hZ _ hS.subw) (pos_of_get hx2)) rfl (lt_of_get hx2) ?_
    refine ge_batch [2] (ans := [.val (.int .i64 e1.At), .val (.int .i64 e1.P), .val (.slice An1 e1.Acts.length cn1)]) (vs := [(16, .agg #[.int .i64 e1.At, .int .i64 e1.P, .slice An1 e1.Acts.length cn1])]) (l := [.loaded ⟨blkOf A0, offOf A0 + i1 * 3, none⟩ (.int .i64 e1.At), .loaded ⟨blkOf A0, offOf A0 + i1 * 3 + 1, none⟩ (.int .i64 e1.P), .loaded ⟨blkOf A0, offOf A0 + i1 * 3 + 2, none⟩ (.slice An1 e1.Acts.length cn1)]) (by kernel_rfl) ⟨hCs1 _ (hZ _ hS.subw) 0 _ rfl, hCs1 _ (hZ _ hS.subw) 1 _ rfl, hCs1 _ (hZ _ hS.subw) 2 _ rfl, trivial⟩ ?_
    refine ge_new (d := some 4) (o := .cells #[.int .i64 0, .int .i64 0, .slice none 0 0] 34) (v := fun b => .pointer (some ⟨b, 0, none⟩)) hS (fun b => by kernel_rfl) fun b2 w4 hx3 hS7 => ?_
    refine ge_batch [4] (ans := []) (vs := [(3, .int .i64 (i1 : Int))]) (l := []) (by kernel_rfl) trivial ?_
    refine ge_set (b := b2) (j := 0) (cs := #[.int .i64 0, .int .i64 0, .slice none 0 0]) (t := 34) (vs := [.int .i64 e1.At, .int .i64 e1.P, .slice An1 e1.Acts.length cn1]) hS7 (by kernel_rfl) rfl rfl fun w5 hS8 => ?_
    have hS9 := hS8.nc #[.int .i64 e1.At, .int .i64 e1.P, .slice An1 e1.Acts.length cn1] rfl
    refine ge_nil fun a hF => hK10 _ _ ?_ a hF
    refine we_seq fun K11 hK11 => ?_
    refine we_seq fun K12 hK12 => ?_
    refine we_region [(0, 0), (1, 0), (2, 0), (3, 0), (4, 0), (5, 0), (6, 0), (7, 0), (8, 0), (9, 0), (10, 0), (11, 0), (12, 0), (13, 0), (14, 0), (15, 0), (16, 0), (17, 0)] rfl ?_
    refine ge_batch [0, 1, 2, 3] (ans := [.val (.int .i64 e1.At)]) (vs := [(20, .bool (decide (e1.At < 0))), (19, .bool (decide (e1.At < 0))), (18, .int .i64 e1.At), (17, .pointer (some ⟨b2, 0, none⟩))]) (l := [.loaded ⟨b2, 0, none⟩ (.int .i64 e1.At)]) (by kernel_rfl) ⟨hS9.cell 0 rfl rfl, trivial⟩ ?_
    by_cases hc3 : e1.At < 0
    · rw [if_pos hc3] at h
      refine ge_known (t := 20) (b := decide (e1.At < 0)) (c := true) (by kernel_rfl) (decide_eq_true hc3) ?_
      refine ge_batch [4, 5, 6, 7, 8, 9, 10, 11, 12, 13, 14, 15, 16, 17] (ans := []) (vs := [(34, .bool true), (33, undef), (32, undef), (31, undef), (30, .bool true), (29, .bool true), (28, undef), (27, undef), (26, undef), (25, .bool true), (24, .bool true), (23, undef), (22, undef), (21, undef)]) (l := []) (by kernel_rfl) trivial ?_
      refine ge_nil fun a hF => hK12 _ _ ?_ a hF
      refine we_true (by kernel_rfl) ?_
      refine we_seq fun K13 hK13 => ?_
      refine we_region [(0, 0), (1, 1), (2, 2)] rfl ?_
      refine ge_batch [0] (ans := []) (vs := [(35, .int .i64 (i1 : Int))]) (l := []) (by kernel_rfl) trivial ?_
      refine ge_call (d := some 36) (f := 61) (args := #[.int .i64 3, .int .i64 (i1 : Int)]) (by kernel_rfl) (punctualref_F_ok 3 (i1 : Int) _ _ rfl) ?_
      rintro _ w6 ⟨rfl, hS10⟩
      refine ⟨_, rfl, hS10.below, ?_⟩
      have hS11 := hS9.call hS10
      have hS12 := hS11.bring 1 rfl
      refine ge_set (b := b1) (j := 0) (cs := #[.int .i64 0, .int .i64 0]) (t := 27) (vs := [.int .i64 ((punctualref_F.f 3 (i1 : Int)).Code), .int .i64 ((punctualref_F.f 3 (i1 : Int)).At)]) hS12 (by kernel_rfl) rfl rfl fun w7 hS13 => ?_
      have hS14 := hS13.nc #[.int .i64 ((punctualref_F.f 3 (i1 : Int)).Code), .int .i64 ((punctualref_F.f 3 (i1 : Int)).At)] rfl
      refine ge_nil fun a hF => hK13 _ _ ?_ a hF
      have hS15 := hS14.takeN 0
      obtain rfl := Option.some.inj h
      exact we_ret fun a hF => hQ _ _ _ (Outs.out nofun (Exits.on ⟨rfl, (post_ret (rs := [.cell 2 27]) (ans := [.val (.int .i64 ((punctualref_F.f 3 (i1 : Int)).Code)), .val (.int .i64 ((punctualref_F.f 3 (i1 : Int)).At))]) (vs := [.agg #[.int .i64 ((punctualref_F.f 3 (i1 : Int)).Code), .int .i64 ((punctualref_F.f 3 (i1 : Int)).At)]]) (l := [.loaded ⟨b1, 0, none⟩ (.int .i64 ((punctualref_F.f 3 (i1 : Int)).Code)), .loaded ⟨b1, 1, none⟩ (.int .i64 ((punctualref_F.f 3 (i1 : Int)).At))]) rfl (by kernel_rfl) ⟨hS14.cell 0 rfl rfl, hS14.cell 0 rfl rfl, trivial⟩ ⟨rfl, hS15⟩) a hF⟩))
    · rw [if_neg hc3] at h
      refine ge_known (t := 20) (b := decide (e1.At < 0)) (c := false) (by kernel_rfl) (decide_eq_false hc3) ?_
      refine ge_batch [4, 5, 6, 7, 8] (ans := [.val (.int .i64 e1.At)]) (vs := [(25, .bool (decide (e1.At > 20000))), (24, .bool (decide (e1.At > 20000))), (23, .bool (decide (e1.At > 20000))), (22, .int .i64 e1.At), (21, .pointer (some ⟨b2, 0, none⟩))]) (l := [.loaded ⟨b2, 0, none⟩ (.int .i64 e1.At)]) (by kernel_rfl) ⟨hS9.cell 0 rfl rfl, trivial⟩ ?_
      by_cases hc4 : e1.At > 20000
      · rw [if_pos hc4] at h
        refine ge_known (t := 25) (b := decide (e1.At > 20000)) (c := true) (by kernel_rfl) (decide_eq_true hc4) ?_
        refine ge_batch [9, 10, 11, 12, 13, 14, 15, 16, 17] (ans := []) (vs := [(34, .bool true), (33, undef), (32, undef), (31, undef), (30, .bool true), (29, .bool true), (28, undef), (27, undef), (26, undef)]) (l := []) (by kernel_rfl) trivial ?_
        refine ge_nil fun a hF => hK12 _ _ ?_ a hF
        refine we_true (by kernel_rfl) ?_
        refine we_seq fun K14 hK14 => ?_
        refine we_region [(0, 0), (1, 1), (2, 2)] rfl ?_
        refine ge_batch [0] (ans := []) (vs := [(35, .int .i64 (i1 : Int))]) (l := []) (by kernel_rfl) trivial ?_
        refine ge_call (d := some 36) (f := 61) (args := #[.int .i64 3, .int .i64 (i1 : Int)]) (by kernel_rfl) (punctualref_F_ok 3 (i1 : Int) _ _ rfl) ?_
        rintro _ w8 ⟨rfl, hS16⟩
        refine ⟨_, rfl, hS16.below, ?_⟩
        have hS17 := hS9.call hS16
        have hS18 := hS17.bring 1 rfl
        refine ge_set (b := b1) (j := 0) (cs := #[.int .i64 0, .int .i64 0]) (t := 27) (vs := [.int .i64 ((punctualref_F.f 3 (i1 : Int)).Code), .int .i64 ((punctualref_F.f 3 (i1 : Int)).At)]) hS18 (by kernel_rfl) rfl rfl fun w9 hS19 => ?_
        have hS20 := hS19.nc #[.int .i64 ((punctualref_F.f 3 (i1 : Int)).Code), .int .i64 ((punctualref_F.f 3 (i1 : Int)).At)] rfl
        refine ge_nil fun a hF => hK14 _ _ ?_ a hF
        have hS21 := hS20.takeN 0
        obtain rfl := Option.some.inj h
        exact we_ret fun a hF => hQ _ _ _ (Outs.out nofun (Exits.on ⟨rfl, (post_ret (rs := [.cell 2 27]) (ans := [.val (.int .i64 ((punctualref_F.f 3 (i1 : Int)).Code)), .val (.int .i64 ((punctualref_F.f 3 (i1 : Int)).At))]) (vs := [.agg #[.int .i64 ((punctualref_F.f 3 (i1 : Int)).Code), .int .i64 ((punctualref_F.f 3 (i1 : Int)).At)]]) (l := [.loaded ⟨b1, 0, none⟩ (.int .i64 ((punctualref_F.f 3 (i1 : Int)).Code)), .loaded ⟨b1, 1, none⟩ (.int .i64 ((punctualref_F.f 3 (i1 : Int)).At))]) rfl (by kernel_rfl) ⟨hS20.cell 0 rfl rfl, hS20.cell 0 rfl rfl, trivial⟩ ⟨rfl, hS21⟩) a hF⟩))
      · rw [if_neg hc4] at h
        refine ge_known (t := 25) (b := decide (e1.At > 20000)) (c := false) (by kernel_rfl) (decide_eq_false hc4) ?_
        refine ge_batch [9, 10, 11, 12, 13] (ans := [.val (.int .i64 e1.P)]) (vs := [(30, .bool (decide (e1.P < 0))), (29, .bool (decide (e1.P < 0))), (28, .bool (decide (e1.P < 0))), (27, .int .i64 e1.P), (26, .pointer (some ⟨b2, 1, none⟩))]) (l := [.loaded ⟨b2, 1, none⟩ (.int .i64 e1.P)]) (by kernel_rfl) ⟨hS9.cell 0 rfl rfl, trivial⟩ ?_
        by_cases hc5 : e1.P < 0
        · rw [if_pos hc5] at h
          refine ge_known (t := 30) (b := decide (e1.P < 0)) (c := true) (by kernel_rfl) (decide_eq_true hc5) ?_
          refine ge_batch [14, 15, 16, 17] (ans := []) (vs := [(34, .bool true), (33, undef), (32, undef), (31, undef)]) (l := []) (by kernel_rfl) trivial ?_
          refine ge_nil fun a hF => hK12 _ _ ?_ a hF
          refine we_true (by kernel_rfl) ?_
          refine we_seq fun K15 hK15 => ?_
          refine we_region [(0, 0), (1, 1), (2, 2)] rfl ?_
          refine ge_batch [0] (ans := []) (vs := [(35, .int .i64 (i1 : Int))]) (l := []) (by kernel_rfl) trivial ?_
          refine ge_call (d := some 36) (f := 61) (args := #[.int .i64 3, .int .i64 (i1 : Int)]) (by kernel_rfl) (punctualref_F_ok 3 (i1 : Int) _ _ rfl) ?_
          rintro _ w10 ⟨rfl, hS22⟩
          refine ⟨_, rfl, hS22.below, ?_⟩
          have hS23 := hS9.call hS22
          have hS24 := hS23.bring 1 rfl
          refine ge_set (b := b1) (j := 0) (cs := #[.int .i64 0, .int .i64 0]) (t := 27) (vs := [.int .i64 ((punctualref_F.f 3 (i1 : Int)).Code), .int .i64 ((punctualref_F.f 3 (i1 : Int)).At)]) hS24 (by kernel_rfl) rfl rfl fun w11 hS25 => ?_
          have hS26 := hS25.nc #[.int .i64 ((punctualref_F.f 3 (i1 : Int)).Code), .int .i64 ((punctualref_F.f 3 (i1 : Int)).At)] rfl
          refine ge_nil fun a hF => hK15 _ _ ?_ a hF
          have hS27 := hS26.takeN 0
          obtain rfl := Option.some.inj h
          exact we_ret fun a hF => hQ _ _ _ (Outs.out nofun (Exits.on ⟨rfl, (post_ret (rs := [.cell 2 27]) (ans := [.val (.int .i64 ((punctualref_F.f 3 (i1 : Int)).Code)), .val (.int .i64 ((punctualref_F.f 3 (i1 : Int)).At))]) (vs := [.agg #[.int .i64 ((punctualref_F.f 3 (i1 : Int)).Code), .int .i64 ((punctualref_F.f 3 (i1 : Int)).At)]]) (l := [.loaded ⟨b1, 0, none⟩ (.int .i64 ((punctualref_F.f 3 (i1 : Int)).Code)), .loaded ⟨b1, 1, none⟩ (.int .i64 ((punctualref_F.f 3 (i1 : Int)).At))]) rfl (by kernel_rfl) ⟨hS26.cell 0 rfl rfl, hS26.cell 0 rfl rfl, trivial⟩ ⟨rfl, hS27⟩) a hF⟩))
        · rw [if_neg hc5] at h
          refine ge_known (t := 30) (b := decide (e1.P < 0)) (c := false) (by kernel_rfl) (decide_eq_false hc5) ?_
          refine ge_batch [14, 15, 16, 17] (ans := [.val (.int .i64 e1.P)]) (vs := [(34, .bool (decide (e1.P > 1000))), (33, .bool (decide (e1.P > 1000))), (32, .int .i64 e1.P), (31, .pointer (some ⟨b2, 1, none⟩))]) (l := [.loaded ⟨b2, 1, none⟩ (.int .i64 e1.P)]) (by kernel_rfl) ⟨hS9.cell 0 rfl rfl, trivial⟩ ?_
          refine ge_nil fun a hF => hK12 _ _ ?_ a hF
          by_cases hc6 : e1.P > 1000
          · rw [if_pos hc6] at h
            refine we_known (t := 34) (b := decide (e1.P > 1000)) (v := true) (by kernel_rfl) (decide_eq_true hc6) ?_
            refine we_true (by kernel_rfl) ?_
            refine we_seq fun K16 hK16 => ?_
            refine we_region [(0, 0), (1, 1), (2, 2)] rfl ?_
            refine ge_batch [0] (ans := []) (vs := [(35, .int .i64 (i1 : Int))]) (l := []) (by kernel_rfl) trivial ?_
            refine ge_call (d := some 36) (f := 61) (args := #[.int .i64 3, .int .i64 (i1 : Int)]) (by kernel_rfl) (punctualref_F_ok 3 (i1 : Int) _ _ rfl) ?_
            rintro _ w12 ⟨rfl, hS28⟩
            refine ⟨_, rfl, hS28.below, ?_⟩
            have hS29 := hS9.call hS28
            have hS30 := hS29.bring 1 rfl
            refine ge_set (b := b1) (j := 0) (cs := #[.int .i64 0, .int .i64 0]) (t := 27) (vs := [.int .i64 ((punctualref_F.f 3 (i1 : Int)).Code), .int .i64 ((punctualref_F.f 3 (i1 : Int)).At)]) hS30 (by kernel_rfl) rfl rfl fun w13 hS31 => ?_
            have hS32 := hS31.nc #[.int .i64 ((punctualref_F.f 3 (i1 : Int)).Code), .int .i64 ((punctualref_F.f 3 (i1 : Int)).At)] rfl
            refine ge_nil fun a hF => hK16 _ _ ?_ a hF
            have hS33 := hS32.takeN 0
            obtain rfl := Option.some.inj h
            exact we_ret fun a hF => hQ _ _ _ (Outs.out nofun (Exits.on ⟨rfl, (post_ret (rs := [.cell 2 27]) (ans := [.val (.int .i64 ((punctualref_F.f 3 (i1 : Int)).Code)), .val (.int .i64 ((punctualref_F.f 3 (i1 : Int)).At))]) (vs := [.agg #[.int .i64 ((punctualref_F.f 3 (i1 : Int)).Code), .int .i64 ((punctualref_F.f 3 (i1 : Int)).At)]]) (l := [.loaded ⟨b1, 0, none⟩ (.int .i64 ((punctualref_F.f 3 (i1 : Int)).Code)), .loaded ⟨b1, 1, none⟩ (.int .i64 ((punctualref_F.f 3 (i1 : Int)).At))]) rfl (by kernel_rfl) ⟨hS32.cell 0 rfl rfl, hS32.cell 0 rfl rfl, trivial⟩ ⟨rfl, hS33⟩) a hF⟩))
          · rw [if_neg hc6] at h
            refine we_known (t := 34) (b := decide (e1.P > 1000)) (v := false) (by kernel_rfl) (decide_eq_false hc6) ?_
            refine we_false (by kernel_rfl) ?_
            refine we_skip fun a hF => hK11 _ _ ?_ a hF
            refine we_seq fun K17 hK17 => ?_
            refine we_region [(0, 0), (1, 0), (2, 1), (3, 1), (4, 2)] rfl ?_
            rcases hq6 : punctualref_CheckActs.f K e1.Acts with _ | r1
            · rw [hq6] at h; cases h
            rw [hq6] at h
            simp only [] at h
            refine ge_batch [0, 1] (ans := [.val (.slice An1 e1.Acts.length cn1)]) (vs := [(38, .slice An1 e1.Acts.length cn1), (37, .pointer (some ⟨b2, 2, none⟩))]) (l := [.loaded ⟨b2, 2, none⟩ (.slice An1 e1.Acts.length cn1)]) (by kernel_rfl) ⟨hS9.cell 0 rfl rfl, trivial⟩ ?_
            refine ge_call (d := some 39) (f := 16) (args := #[.slice An1 e1.Acts.length cn1]) (by kernel_rfl) (punctualref_CheckActs_ok K e1.Acts An1 cn1 _ (hRn1 _ (hZ _ hS9.subw)) hLn1 _ hq6) ?_
            rintro _ w14 ⟨rfl, hS34⟩
            refine ⟨_, rfl, hS34.below, ?_⟩
            have hS35 := hS9.call hS34
            refine ge_new (d := some 5) (o := .cells #[.int .i64 0, .int .i64 0] 27) (v := fun b => .pointer (some ⟨b, 0, none⟩)) hS35 (fun b => by kernel_rfl) fun b3 w15 hx4 hS36 => ?_
            refine ge_set (b := b3) (j := 0) (cs := #[.int .i64 0, .int .i64 0]) (t := 27) (vs := [.int .i64 r1.Code, .int .i64 r1.At]) hS36 (by kernel_rfl) rfl rfl fun w16 hS37 => ?_
            have hS38 := hS37.nc #[.int .i64 r1.Code, .int .i64 r1.At] rfl
            refine ge_nil fun a hF => hK17 _ _ ?_ a hF
            refine we_seq fun K18 hK18 => ?_
            refine we_region [(0, 0), (1, 0), (2, 0)] rfl ?_
            refine ge_batch [0, 1, 2] (ans := [.val (.int .i64 r1.Code)]) (vs := [(42, .bool (r1.Code != 0)), (41, .int .i64 r1.Code), (40, .pointer (some ⟨b3, 0, none⟩))]) (l := [.loaded ⟨b3, 0, none⟩ (.int .i64 r1.Code)]) (by kernel_rfl) ⟨hS38.cell 0 rfl rfl, trivial⟩ ?_
            refine ge_nil fun a hF => hK18 _ _ ?_ a hF
            by_cases hc7 : r1.Code = 0
            · rw [if_pos hc7] at h
              refine we_known (t := 42) (b := (r1.Code != 0)) (v := false) (by kernel_rfl) (bne_eq_false_iff_eq.2 hc7) ?_
              refine we_false (by kernel_rfl) ?_
              refine we_skip fun a hF => hK9 _ _ ?_ a hF
              refine we_region [(0, 0), (1, 0)] rfl ?_
              refine ge_addn (d := 47) (ty := 3) (x := (.tmp 12)) (y := (.const (.int .i64 1))) (t := 3) (t2 := 3) (k := .i64) (m := i1) (by kernel_rfl) (by kernel_rfl) (by kernel_rfl) (by omega) ?_
              refine ge_batch [1] (ans := []) (vs := [(12, .int .i64 ((i1 + 1 : Nat) : Int))]) (l := []) (by kernel_rfl) trivial ?_
              have hS39 := hS38.bring 2 rfl
              have hS40 := hS39.takeN 1
              obtain rfl := Option.some.inj h
              exact ge_nil fun a hF => hQ _ _ _ (Outs.again ⟨hS40, hF.weaken ⟨by kernel_rfl, by kernel_rfl, by kernel_rfl, by kernel_rfl, trivial⟩⟩)
            · rw [if_neg hc7] at h
              refine we_known (t := 42) (b := (r1.Code != 0)) (v := true) (by kernel_rfl) (bne_iff_ne.2 hc7) ?_
              refine we_true (by kernel_rfl) ?_
              refine we_seq fun K19 hK19 => ?_
              refine we_region [(0, 0), (1, 0), (2, 0), (3, 1), (4, 2)] rfl ?_
              refine ge_batch [0, 1, 2] (ans := [.val (.int .i64 r1.Code)]) (vs := [(45, .int .i64 (i1 : Int)), (44, .int .i64 r1.Code), (43, .pointer (some ⟨b3, 0, none⟩))]) (l := [.loaded ⟨b3, 0, none⟩ (.int .i64 r1.Code)]) (by kernel_rfl) ⟨hS38.cell 0 rfl rfl, trivial⟩ ?_
              refine ge_call (d := some 46) (f := 61) (args := #[.int .i64 r1.Code, .int .i64 (i1 : Int)]) (by kernel_rfl) (punctualref_F_ok r1.Code (i1 : Int) _ _ rfl) ?_
              rintro _ w17 ⟨rfl, hS41⟩
              refine ⟨_, rfl, hS41.below, ?_⟩
              have hS42 := hS38.call hS41
              have hS43 := hS42.bring 2 rfl
              refine ge_set (b := b1) (j := 0) (cs := #[.int .i64 0, .int .i64 0]) (t := 27) (vs := [.int .i64 ((punctualref_F.f r1.Code (i1 : Int)).Code), .int .i64 ((punctualref_F.f r1.Code (i1 : Int)).At)]) hS43 (by kernel_rfl) rfl rfl fun w18 hS44 => ?_
              have hS45 := hS44.nc #[.int .i64 ((punctualref_F.f r1.Code (i1 : Int)).Code), .int .i64 ((punctualref_F.f r1.Code (i1 : Int)).At)] rfl
              refine ge_nil fun a hF => hK19 _ _ ?_ a hF
              have hS46 := hS45.takeN 0
              obtain rfl := Option.some.inj h
              exact we_ret fun a hF => hQ _ _ _ (Outs.out nofun (Exits.on ⟨rfl, (post_ret (rs := [.cell 2 27]) (ans := [.val (.int .i64 ((punctualref_F.f r1.Code (i1 : Int)).Code)), .val (.int .i64 ((punctualref_F.f r1.Code (i1 : Int)).At))]) (vs := [.agg #[.int .i64 ((punctualref_F.f r1.Code (i1 : Int)).Code), .int .i64 ((punctualref_F.f r1.Code (i1 : Int)).At)]]) (l := [.loaded ⟨b1, 0, none⟩ (.int .i64 ((punctualref_F.f r1.Code (i1 : Int)).Code)), .loaded ⟨b1, 1, none⟩ (.int .i64 ((punctualref_F.f r1.Code (i1 : Int)).At))]) rfl (by kernel_rfl) ⟨hS45.cell 0 rfl rfl, hS45.cell 0 rfl rfl, trivial⟩ ⟨rfl, hS46⟩) a hF⟩))
  · rw [if_neg hc2] at h
    refine we_known (t := 13) (b := decide ((i1 : Int) < (l0.length : Int))) (v := false) (by kernel_rfl) (decide_eq_false hc2) ?_
    refine we_false (by kernel_rfl) ?_
    obtain rfl := Option.some.inj h
    exact we_exit fun a hF => hQ _ _ _ (Outs.out nofun (Exits.here ⟨hS, hF.weaken ⟨by kernel_rfl, trivial⟩⟩))
theorem punctualref_CheckLocked_ok (K : Nat) (Z : Zone) (l0 : List SLocked) (A0 : Option Addr) (c0 : Nat) (w0 : World) (hZ : ∀ w, Sub w0 w → Z w) (hR0 : RdZ Z A0 l0) (hL0 : l0.length ≤ c0) (r : SFault) (h : punctualref_CheckLocked.f K l0 = some r) :
    Calls Tryd.prog 21 #[.slice A0 l0.length c0] w0 (punctualref_CheckLocked.Post w0 r) := by
  have hS := St.start w0
  unfold punctualref_CheckLocked.f at h
  refine calls_enter (n := 49) (args := [.slice A0 l0.length c0]) (fn := Tryd.f21) rfl rfl rfl rfl ?_
  show WE _ _ _ _ [(0, .slice A0 l0.length c0)] _
  refine we_seq fun K1 hK1 => ?_
  refine we_region [(0, 1)] rfl ?_
  refine ge_new (d := some 2) (o := .cells #[.int .i64 0, .int .i64 0] 27) (v := fun b => .pointer (some ⟨b, 0, none⟩)) hS (fun b => by kernel_rfl) fun b1 w1 hx1 hS1 => ?_
  refine ge_nil fun a hF => hK1 _ _ ?_ a hF
  refine we_seq fun K2 hK2 => ?_
  refine we_seq fun K3 hK3 => ?_
  refine we_region [(0, 0), (1, 0), (2, 0)] rfl ?_
  refine ge_batch [0, 1, 2] (ans := []) (vs := [(8, .bool (decide ((l0.length : Int) > 100))), (7, .int .i64 (l0.length : Int)), (6, .slice A0 l0.length c0)]) (l := []) (by kernel_rfl) trivial ?_
  refine ge_nil fun a hF => hK3 _ _ ?_ a hF
  by_cases hc1 : (l0.length : Int) > 100
  · rw [if_pos hc1] at h
    refine we_known (t := 8) (b := decide ((l0.length : Int) > 100)) (v := true) (by kernel_rfl) (decide_eq_true hc1) ?_
    refine we_true (by kernel_rfl) ?_
    refine we_seq fun K4 hK4 => ?_
    refine we_region [(0, 1), (1, 2)] rfl ?_
    refine ge_call (d := some 9) (f := 61) (args := #[.int .i64 2, .int .i64 0]) (by kernel_rfl) (punctualref_F_ok 2 0 _ _ rfl) ?_
    rintro _ w2 ⟨rfl, hS2⟩
    refine ⟨_, rfl, hS2.below, ?_⟩
    have hS3 := hS1.call hS2
    refine ge_set (b := b1) (j := 0) (cs := #[.int .i64 0, .int .i64 0]) (t := 27) (vs := [.int .i64 ((punctualref_F.f 2 0).Code), .int .i64 ((punctualref_F.f 2 0).At)]) hS3 (by kernel_rfl) rfl rfl fun w3 hS4 => ?_
    have hS5 := hS4.nc #[.int .i64 ((punctualref_F.f 2 0).Code), .int .i64 ((punctualref_F.f 2 0).At)] rfl
    refine ge_nil fun a hF => hK4 _ _ ?_ a hF
    have hS6 := hS5.takeN 0
    obtain rfl := Option.some.inj h
    exact we_ret (post_ret (rs := [.cell 2 27]) (ans := [.val (.int .i64 ((punctualref_F.f 2 0).Code)), .val (.int .i64 ((punctualref_F.f 2 0).At))]) (vs := [.agg #[.int .i64 ((punctualref_F.f 2 0).Code), .int .i64 ((punctualref_F.f 2 0).At)]]) (l := [.loaded ⟨b1, 0, none⟩ (.int .i64 ((punctualref_F.f 2 0).Code)), .loaded ⟨b1, 1, none⟩ (.int .i64 ((punctualref_F.f 2 0).At))]) rfl (by kernel_rfl) ⟨hS5.cell 0 rfl rfl, hS5.cell 0 rfl rfl, trivial⟩ ⟨rfl, hS6⟩)
  · rw [if_neg hc1] at h
    refine we_known (t := 8) (b := decide ((l0.length : Int) > 100)) (v := false) (by kernel_rfl) (decide_eq_false hc1) ?_
    refine we_false (by kernel_rfl) ?_
    refine we_skip fun a hF => hK2 _ _ ?_ a hF
    refine we_seq fun K5 hK5 => ?_
    refine we_seq fun K6 hK6 => ?_
    refine we_region [(0, 0), (1, 0), (2, 0)] rfl ?_
    refine ge_batch [0, 1, 2] (ans := []) (vs := [(12, .int .i64 0), (11, .int .i64 (l0.length : Int)), (10, .slice A0 l0.length c0)]) (l := []) (by kernel_rfl) trivial ?_
    refine ge_nil fun a hF => hK6 _ _ ?_ a hF
    refine we_block ?_
    rcases hq8 : iter (punctualref_CheckLocked.r0 K l0) K 0 with _ | (_ | rr1)
    · rw [hq8] at h; cases h
    · rw [hq8] at h
      simp only [] at h
      refine we_iter (A := punctualref_CheckLocked.A0 K w0 Z l0 A0 c0 hZ hR0 hL0 b1 hc1) (B := punctualref_CheckLocked.B0 K w0 Z l0 A0 c0 hZ hR0 hL0 b1 hc1) hq8 (fun a hF => ⟨hS1, hF.weaken ⟨by kernel_rfl, by kernel_rfl, by kernel_rfl, by kernel_rfl, trivial⟩⟩) (fun s o hf a w hA Q hQ => punctualref_CheckLocked_r0 K w0 Z l0 A0 c0 hZ hR0 hL0 b1 hc1 s o hf a w hA Q hQ) ?_
      rintro _ a w19 _ ⟨rfl, hS47, hF⟩
      replace hS47 : St w0 w19 [Own.blk b1 (.cells #[.int .i64 0, .int .i64 0] 27 (0, 0))] := hS47
      refine hK5 [(2, .pointer (some ⟨b1, 0, none⟩))] w19 ?_ a hF
      refine we_seq fun K20 hK20 => ?_
      refine we_region [(0, 0), (1, 2)] rfl ?_
      refine ge_batch [0] (ans := []) (vs := [(48, .agg #[.int .i64 0, .int .i64 0])]) (l := []) (by kernel_rfl) trivial ?_
      refine ge_set (b := b1) (j := 0) (cs := #[.int .i64 0, .int .i64 0]) (t := 27) (vs := [.int .i64 0, .int .i64 0]) hS47 (by kernel_rfl) rfl rfl fun w20 hS48 => ?_
      have hS49 := hS48.nc #[.int .i64 0, .int .i64 0] rfl
      refine ge_nil fun a hF => hK20 _ _ ?_ a hF
      have hS50 := hS49.takeN 0
      obtain rfl := Option.some.inj h
      exact we_ret (post_ret (rs := [.cell 2 27]) (ans := [.val (.int .i64 0), .val (.int .i64 0)]) (vs := [.agg #[.int .i64 0, .int .i64 0]]) (l := [.loaded ⟨b1, 0, none⟩ (.int .i64 0), .loaded ⟨b1, 1, none⟩ (.int .i64 0)]) rfl (by kernel_rfl) ⟨hS49.cell 0 rfl rfl, hS49.cell 0 rfl rfl, trivial⟩ ⟨rfl, hS50⟩)
    · rw [hq8] at h
      simp only [] at h
      refine we_iter (A := punctualref_CheckLocked.A0 K w0 Z l0 A0 c0 hZ hR0 hL0 b1 hc1) (B := punctualref_CheckLocked.B0 K w0 Z l0 A0 c0 hZ hR0 hL0 b1 hc1) hq8 (fun a hF => ⟨hS1, hF.weaken ⟨by kernel_rfl, by kernel_rfl, by kernel_rfl, by kernel_rfl, trivial⟩⟩) (fun s o hf a w hA Q hQ => punctualref_CheckLocked_r0 K w0 Z l0 A0 c0 hZ hR0 hL0 b1 hc1 s o hf a w hA Q hQ) ?_
      rintro _ a w1 _ ⟨rfl, hb⟩
      obtain rfl := Option.some.inj h
      exact hb

/-! punctual/punctualref.Tops -/
abbrev punctualref_Tops.Post (w0 : World) (r : List Int) (e : Ending) (w : World) : Prop := ∃ (v0 : Value), e = .returned (v0) ∧ St w0 w [Own.of v0 3 r]
def punctualref_Tops.r2 (z1 : Int) (e1 : SLocked) : Nat × (List Int) → Option ((Nat × (List Int)) ⊕ ((List Int) ⊕ (List Int)))
  | (i2, m5) =>
    if (i2 : Int) < (e1.Acts.length : Int) then
      match e1.Acts[i2]? with
      | none => none
      | some e2 =>
        if e2.Do = 2 then
          if e2.N = z1 then
            if 0 ≤ z1 then
              match m5[(z1).toNat]? with
              | none => none
              | some e3 =>
                if e1.P > e3 then
                  some (.inl ((i2 + 1), (m5.set ((z1).toNat) e1.P)))
                else
                  some (.inl ((i2 + 1), m5))
            else
              none
          else
            some (.inl ((i2 + 1), m5))
        else
          some (.inl ((i2 + 1), m5))
    else
      some (.inr (.inl m5))
def punctualref_Tops.r1 (K : Nat) (l0 : List SLocked) (z1 : Int) : Nat × (List Int) → Option ((Nat × (List Int)) ⊕ ((List Int) ⊕ (List Int)))
  | (i1, m3) =>
    if (i1 : Int) < (l0.length : Int) then
      match l0[i1]? with
      | none => none
      | some e1 =>
        match iter (punctualref_Tops.r2 z1 e1) K (0, m3) with
        | none => none
        | some (.inl m7) =>
          some (.inl ((i1 + 1), m7))
        | some (.inr rr1) =>
          some (.inr (.inr rr1))
    else
      some (.inr (.inl m3))
def punctualref_Tops.r0 (K : Nat) (l0 : List SLocked) : Int × (List Int) → Option ((Int × (List Int)) ⊕ ((List Int) ⊕ (List Int)))
  | (z1, m1) =>
    if z1 < (([(-1), (-1), (-1), (-1)] : List Int).length : Int) then
      match iter (punctualref_Tops.r1 K l0 z1) K (0, m1) with
      | none => none
      | some (.inl m8) =>
        some (.inl (IntKind.i64.wrap (z1 + 1), m8))
      | some (.inr rr2) =>
        some (.inr (.inr rr2))
    else
      some (.inr (.inl m1))
def punctualref_Tops.f (K : Nat) (l0 : List SLocked) : Option (List Int) :=
  match iter (punctualref_Tops.r0 K l0) K (0, ([(-1), (-1), (-1), (-1)] : List Int)) with
  | none => none
  | some (.inl m9) =>
    some m9
  | some (.inr rr3) =>
    some rr3
abbrev punctualref_Tops.A2 (K : Nat) (w0 : World) (Z : Zone) (l0 : List SLocked) (A0 : Option Addr) (c0 : Nat) (hZ : ∀ w, Sub w0 w → Z w) (hR0 : RdZ Z A0 l0) (hL0 : l0.length ≤ c0) (b1 : Nat) (z1 : Int) (m1 : List Int) (hc1 : z1 < (([(-1), (-1), (-1), (-1)] : List Int).length : Int)) (i1 : Nat) (m3 : List Int) (hc2 : (i1 : Int) < (l0.length : Int)) (e1 : SLocked) (hx2 : l0[i1]? = some e1) (An1 : Option Addr) (cn1 : Nat) (hCs1 : CellsAt Z A0 (i1 * 3) [.int .i64 e1.At, .int .i64 e1.P, .slice An1 e1.Acts.length cn1]) (hLn1 : e1.Acts.length ≤ cn1) (hRn1 : RdF Z An1 e1.Acts) (b2 : Nat) : (Nat × (List Int)) → Act → World → Prop := fun (s : Nat × (List Int)) a w => St w0 w [Own.blk b2 (.cells #[.int .i64 e1.At, .int .i64 e1.P, .slice An1 e1.Acts.length cn1] 34 (0, 0)), Own.of (.slice (some ⟨b1, 0, none⟩) s.2.length 4) 3 s.2] ∧ Frm 55 a [(0, .slice A0 l0.length c0), (3, (.slice (some ⟨b1, 0, none⟩) s.2.length 4)), (4, .int .i64 z1), (6, .pointer (some ⟨b2, 0, none⟩)), (11, .int .i64 (([(-1), (-1), (-1), (-1)] : List Int).length : Int)), (12, .int .i64 z1), (15, .slice A0 l0.length c0), (16, .int .i64 (l0.length : Int)), (17, .int .i64 (i1 : Int)), (22, .slice An1 e1.Acts.length cn1), (23, .int .i64 (e1.Acts.length : Int)), (24, .int .i64 (s.1 : Int))]
abbrev punctualref_Tops.B2 (K : Nat) (w0 : World) (Z : Zone) (l0 : List SLocked) (A0 : Option Addr) (c0 : Nat) (hZ : ∀ w, Sub w0 w → Z w) (hR0 : RdZ Z A0 l0) (hL0 : l0.length ≤ c0) (b1 : Nat) (z1 : Int) (m1 : List Int) (hc1 : z1 < (([(-1), (-1), (-1), (-1)] : List Int).length : Int)) (i1 : Nat) (m3 : List Int) (hc2 : (i1 : Int) < (l0.length : Int)) (e1 : SLocked) (hx2 : l0[i1]? = some e1) (An1 : Option Addr) (cn1 : Nat) (hCs1 : CellsAt Z A0 (i1 * 3) [.int .i64 e1.At, .int .i64 e1.P, .slice An1 e1.Acts.length cn1]) (hLn1 : e1.Acts.length ≤ cn1) (hRn1 : RdF Z An1 e1.Acts) (b2 : Nat) : ((List Int) ⊕ (List Int)) → Exit → Act → World → Prop := Exits 4 (fun (s : (List Int)) a w => St w0 w [Own.of (.slice (some ⟨b1, 0, none⟩) s.length 4) 3 s] ∧ Frm 55 a [(0, .slice A0 l0.length c0), (3, (.slice (some ⟨b1, 0, none⟩) s.length 4)), (4, .int .i64 z1), (11, .int .i64 (([(-1), (-1), (-1), (-1)] : List Int).length : Int)), (12, .int .i64 z1), (15, .slice A0 l0.length c0), (16, .int .i64 (l0.length : Int)), (17, .int .i64 (i1 : Int))]) (Rets Tryd.prog Tryd.f22 (punctualref_Tops.Post w0))
theorem punctualref_Tops_r2 (K : Nat) (w0 : World) (Z : Zone) (l0 : List SLocked) (A0 : Option Addr) (c0 : Nat) (hZ : ∀ w, Sub w0 w → Z w) (hR0 : RdZ Z A0 l0) (hL0 : l0.length ≤ c0) (b1 : Nat) (z1 : Int) (m1 : List Int) (hc1 : z1 < (([(-1), (-1), (-1), (-1)] : List Int).length : Int)) (i1 : Nat) (m3 : List Int) (hc2 : (i1 : Int) < (l0.length : Int)) (e1 : SLocked) (hx2 : l0[i1]? = some e1) (An1 : Option Addr) (cn1 : Nat) (hCs1 : CellsAt Z A0 (i1 * 3) [.int .i64 e1.At, .int .i64 e1.P, .slice An1 e1.Acts.length cn1]) (hLn1 : e1.Acts.length ≤ cn1) (hRn1 : RdF Z An1 e1.Acts) (b2 : Nat) (s : Nat × (List Int)) (o : (Nat × (List Int)) ⊕ ((List Int) ⊕ (List Int))) (h : punctualref_Tops.r2 z1 e1 s = some o) (a : Act) (w : World) (hA : punctualref_Tops.A2 K w0 Z l0 A0 c0 hZ hR0 hL0 b1 z1 m1 hc1 i1 m3 hc2 e1 hx2 An1 cn1 hCs1 hLn1 hRn1 b2 s a w) (Q : Exit → Act → World → Prop) (hQ : ∀ x a w, Outs (punctualref_Tops.A2 K w0 Z l0 A0 c0 hZ hR0 hL0 b1 z1 m1 hc1 i1 m3 hc2 e1 hx2 An1 cn1 hCs1 hLn1 hRn1 b2) (punctualref_Tops.B2 K w0 Z l0 A0 c0 hZ hR0 hL0 b1 z1 m1 hc1 i1 m3 hc2 e1 hx2 An1 cn1 hCs1 hLn1 hRn1 b2) o x a w → Q x a w) : (subF Tryd.f22 [1, 1, 0, 1, 0, 0, 1, 1, 0, 0, 1, 1, 0, 0, 1, 1, 0, 0, 1, 1, 0, 0]).wp Tryd.prog Q a w := by
  obtain ⟨i2, m5⟩ := s
  obtain ⟨hS, hF⟩ := hA
  replace hS : St w0 w [Own.blk b2 (.cells #[.int .i64 e1.At, .int .i64 e1.P, .slice An1 e1.Acts.length cn1] 34 (0, 0)), Own.of (.slice (some ⟨b1, 0, none⟩) m5.length 4) 3 m5] := hS
  simp only [punctualref_Tops.r2] at h
  refine (?_ : WE Tryd.prog 55 (subF Tryd.f22 [1, 1, 0, 1, 0, 0, 1, 1, 0, 0, 1, 1, 0, 0, 1, 1, 0, 0, 1, 1, 0, 0]) Q [(0, .slice A0 l0.length c0), (3, (.slice (some ⟨b1, 0, none⟩) m5.length 4)), (4, .int .i64 z1), (6, .pointer (some ⟨b2, 0, none⟩)), (11, .int .i64 (([(-1), (-1), (-1), (-1)] : List Int).length : Int)), (12, .int .i64 z1), (15, .slice A0 l0.length c0), (16, .int .i64 (l0.length : Int)), (17, .int .i64 (i1 : Int)), (22, .slice An1 e1.Acts.length cn1), (23, .int .i64 (e1.Acts.length : Int)), (24, .int .i64 (i2 : Int))] w) a hF
  clear hF a
  refine we_seq fun K15 hK15 => ?_
  refine we_region [(0, 0)] rfl ?_
  refine ge_batch [0] (ans := []) (vs := [(25, .bool (decide ((i2 : Int) < (e1.Acts.length : Int))))]) (l := []) (by kernel_rfl) trivial ?_
  refine ge_nil fun a hF => hK15 _ _ ?_ a hF
  refine we_seq fun K16 hK16 => ?_
  by_cases hc3 : (i2 : Int) < (e1.Acts.length : Int)
  · rw [if_pos hc3] at h
    refine we_known (t := 25) (b := decide ((i2 : Int) < (e1.Acts.length : Int))) (v := true) (by kernel_rfl) (decide_eq_true hc3) ?_
    refine we_true (by kernel_rfl) ?_
    refine we_skip fun a hF => hK16 _ _ ?_ a hF
    refine we_seq fun K17 hK17 => ?_
    refine we_block ?_
    refine we_seq fun K18 hK18 => ?_
    refine we_region [(0, 0), (1, 0), (2, 1), (3, 2)] rfl ?_
    rcases hx4 : e1.Acts[i2]? with _ | e2
    · rw [hx4] at h; cases h
    rw [hx4] at h
    simp only [] at h
    refine ge_index (d := 26) (ty := 0) (t := 22) (el := 39) (sz := 2) (m := e1.Acts.length) (c := cn1) (x := (.tmp 22)) (y := (.tmp 24)) (A := An1) (k' := .i64) (j := (i2 : Int)) (jn := i2) (b0 := blkOf An1) (o0 := offOf An1) (by kernel_rfl) (by kernel_rfl) (by kernel_rfl) (by kernel_rfl) (by kernel_rfl) ((hRn1 _ (hZ _ hS.subw)).eqSome (pos_of_get hx4)) rfl (lt_of_get hx4) ?_
    refine ge_batch [1] (ans := [.val (.int .i64 e2.Do), .val (.int .i64 e2.N)]) (vs := [(27, .agg #[.int .i64 e2.Do, .int .i64 e2.N])]) (l := [.loaded ⟨blkOf An1, offOf An1 + i2 * 2, none⟩ (.int .i64 e2.Do), .loaded ⟨blkOf An1, offOf An1 + i2 * 2 + 1, none⟩ (.int .i64 e2.N)]) (by kernel_rfl) ⟨RdL.cell (j := 0) (hRn1 _ (hZ _ hS.subw)) hx4 rfl, RdL.cell (j := 1) (hRn1 _ (hZ _ hS.subw)) hx4 rfl, trivial⟩ ?_
    refine ge_new (d := some 8) (o := .cells #[.int .i64 0, .int .i64 0] 39) (v := fun b => .pointer (some ⟨b, 0, none⟩)) hS (fun b => by kernel_rfl) fun b3 w4 hx5 hS9 => ?_
    refine ge_set (b := b3) (j := 0) (cs := #[.int .i64 0, .int .i64 0]) (t := 39) (vs := [.int .i64 e2.Do, .int .i64 e2.N]) hS9 (by kernel_rfl) rfl rfl fun w5 hS10 => ?_
    have hS11 := hS10.nc #[.int .i64 e2.Do, .int .i64 e2.N] rfl
    refine ge_nil fun a hF => hK18 _ _ ?_ a hF
    refine we_seq fun K19 hK19 => ?_
    refine we_draws (by kernel_rfl) [(0, 0), (1, 0), (2, 0), (3, 0), (4, 0), (5, 0), (6, 0), (7, 0), (8, 0), (9, 0), (10, 0), (11, 0), (12, 0), (13, 0), (14, 0), (15, 0), (16, 0), (17, 0)] (by kernel_rfl) ?_
    have hS12 := hS11.drew
    refine ge_batch [0, 1, 2, 3] (ans := [.val (.int .i64 e2.Do)]) (vs := [(31, .bool (e2.Do == 2)), (30, .bool (e2.Do == 2)), (29, .int .i64 e2.Do), (28, .pointer (some ⟨b3, 0, none⟩))]) (l := [.loaded ⟨b3, 0, none⟩ (.int .i64 e2.Do)]) (by kernel_rfl) ⟨hS12.cell 0 rfl rfl, trivial⟩ ?_
    by_cases hc4 : e2.Do = 2
    · rw [if_pos hc4] at h
      refine ge_known (t := 31) (b := (e2.Do == 2)) (c := true) (by kernel_rfl) (beq_iff_eq.2 hc4) ?_
      refine ge_batch [4, 5, 6, 7, 8, 9] (ans := [.val (.int .i64 e2.N)]) (vs := [(37, .bool (e2.N == z1)), (36, .bool (e2.N == z1)), (35, .bool (e2.N == z1)), (34, .int .i64 z1), (33, .int .i64 e2.N), (32, .pointer (some ⟨b3, 1, none⟩))]) (l := [.loaded ⟨b3, 1, none⟩ (.int .i64 e2.N)]) (by kernel_rfl) ⟨hS12.cell 0 rfl rfl, trivial⟩ ?_
      by_cases hc5 : e2.N = z1
      · rw [if_pos hc5] at h
        refine ge_known (t := 37) (b := (e2.N == z1)) (c := true) (by kernel_rfl) (beq_iff_eq.2 hc5) ?_
        refine ge_batch [10, 11, 12, 13] (ans := [.val (.int .i64 e1.P)]) (vs := [(41, .int .i64 z1), (40, (.slice (some ⟨b1, 0, none⟩) m5.length 4)), (39, .int .i64 e1.P), (38, .pointer (some ⟨b2, 1, none⟩))]) (l := [.loaded ⟨b2, 1, none⟩ (.int .i64 e1.P)]) (by kernel_rfl) ⟨hS12.cell 1 rfl rfl, trivial⟩ ?_
        by_cases hc6 : 0 ≤ z1
        · rw [if_pos hc6] at h
          rcases hx6 : m5[(z1).toNat]? with _ | e3
          · rw [hx6] at h; cases h
          rw [hx6] at h
          simp only [] at h
          refine ge_index (d := 42) (ty := 0) (t := 24) (el := 3) (sz := 1) (m := m5.length) (c := 4) (x := (.tmp 40)) (y := (.tmp 41)) (A := (some ⟨b1, 0, none⟩)) (k' := .i64) (j := z1) (jn := ((z1).toNat)) (b0 := blkOf (some ⟨b1, 0, none⟩)) (o0 := offOf (some ⟨b1, 0, none⟩)) (by kernel_rfl) (by kernel_rfl) (by kernel_rfl) (by kernel_rfl) (by kernel_rfl) ((hS12.rdAt 2 rfl).eqSome (pos_of_get hx6)) (Int.toNat_of_nonneg hc6).symm (lt_of_get hx6) ?_
          refine ge_batch [15, 16, 17] (ans := [.val (.int .i64 e3)]) (vs := [(45, .bool (decide (e1.P > e3))), (44, .bool (decide (e1.P > e3))), (43, .int .i64 e3)]) (l := [.loaded ⟨blkOf (some ⟨b1, 0, none⟩), offOf (some ⟨b1, 0, none⟩) + ((z1).toNat) * 1, none⟩ (.int .i64 e3)]) (by kernel_rfl) ⟨RdL.cell (j := 0) (hS12.rdAt 2 rfl) hx6 rfl, trivial⟩ ?_
          refine ge_nil fun a hF => hK19 _ _ ?_ a hF
          by_cases hc7 : e1.P > e3
          · rw [if_pos hc7] at h
            refine we_known (t := 45) (b := decide (e1.P > e3)) (v := true) (by kernel_rfl) (decide_eq_true hc7) ?_
            refine we_true (by kernel_rfl) ?_
            refine we_region [(0, 0), (1, 0), (2, 0), (3, 0), (4, 0), (5, 2)] rfl ?_
            refine ge_batch [0, 1, 2, 3] (ans := [.val (.int .i64 e1.P)]) (vs := [(49, .int .i64 e1.P), (48, .pointer (some ⟨b2, 1, none⟩)), (47, .int .i64 z1), (46, (.slice (some ⟨b1, 0, none⟩) m5.length 4))]) (l := [.loaded ⟨b2, 1, none⟩ (.int .i64 e1.P)]) (by kernel_rfl) ⟨hS12.cell 1 rfl rfl, trivial⟩ ?_
            refine ge_index (d := 50) (ty := 0) (t := 24) (el := 3) (sz := 1) (m := m5.length) (c := 4) (x := (.tmp 46)) (y := (.tmp 47)) (A := (some ⟨b1, 0, none⟩)) (k' := .i64) (j := z1) (jn := ((z1).toNat)) (b0 := blkOf (some ⟨b1, 0, none⟩)) (o0 := offOf (some ⟨b1, 0, none⟩)) (by kernel_rfl) (by kernel_rfl) (by kernel_rfl) (by kernel_rfl) (by kernel_rfl) ((hS12.rdAt 2 rfl).eqSome (pos_of_get hx6)) (Int.toNat_of_nonneg hc6).symm (lt_of_get hx6) ?_
            have hS13 := hS12.bring 2 rfl
            refine ge_seti (α := Int) (A := (some ⟨b1, 0, none⟩)) (nn := m5.length) (c := 4) (t := 3) (l := m5) (x := e3) (x' := e1.P) (jn := ((z1).toNat)) (j := 0) (vs := [.int .i64 e1.P]) (l' := [.stored ⟨blkOf (some ⟨b1, 0, none⟩), offOf (some ⟨b1, 0, none⟩) + ((z1).toNat) * 1, none⟩ (.int .i64 e1.P)]) hS13 (by kernel_rfl) (by kernel_rfl) hx6 rfl rfl rfl fun w6 hS14 => ?_
            have hE1 : m5.length = (m5.set ((z1).toNat) e1.P).length := hS14.lenAt 0 rfl
            have hS15 := hS14.reN
            refine ge_same (t := 3) (v := (.slice (some ⟨b1, 0, none⟩) m5.length 4)) (v' := (.slice (some ⟨b1, 0, none⟩) (m5.set ((z1).toNat) e1.P).length 4)) (by kernel_rfl) (by rw [hE1]) ?_
            refine ge_same (t := 40) (v := (.slice (some ⟨b1, 0, none⟩) m5.length 4)) (v' := (.slice (some ⟨b1, 0, none⟩) (m5.set ((z1).toNat) e1.P).length 4)) (by kernel_rfl) (by rw [hE1]) ?_
            refine ge_same (t := 46) (v := (.slice (some ⟨b1, 0, none⟩) m5.length 4)) (v' := (.slice (some ⟨b1, 0, none⟩) (m5.set ((z1).toNat) e1.P).length 4)) (by kernel_rfl) (by rw [hE1]) ?_
            refine ge_nil fun a hF => hK17 _ _ ?_ a hF
            refine we_region [(0, 0), (1, 0)] rfl ?_
            refine ge_addn (d := 51) (ty := 3) (x := (.tmp 24)) (y := (.const (.int .i64 1))) (t := 3) (t2 := 3) (k := .i64) (m := i2) (by kernel_rfl) (by kernel_rfl) (by kernel_rfl) (by have h0 := (hRn1 _ (hZ _ hS15.subw)).small; omega) ?_
            refine ge_batch [1] (ans := []) (vs := [(24, .int .i64 ((i2 + 1 : Nat) : Int))]) (l := []) (by kernel_rfl) trivial ?_
            have hS16 := hS15.bring 2 rfl
            have hS17 := hS16.takeN 2
            obtain rfl := Option.some.inj h
            exact ge_nil fun a hF => hQ _ _ _ (Outs.again ⟨hS17, hF.weaken ⟨by kernel_rfl, by kernel_rfl, by kernel_rfl, by kernel_rfl, by kernel_rfl, by kernel_rfl, by kernel_rfl, by kernel_rfl, by kernel_rfl, by kernel_rfl, by kernel_rfl, by kernel_rfl, trivial⟩⟩)
          · rw [if_neg hc7] at h
            refine we_known (t := 45) (b := decide (e1.P > e3)) (v := false) (by kernel_rfl) (decide_eq_false hc7) ?_
            refine we_false (by kernel_rfl) ?_
            refine we_skip fun a hF => hK17 _ _ ?_ a hF
            refine we_region [(0, 0), (1, 0)] rfl ?_
            refine ge_addn (d := 51) (ty := 3) (x := (.tmp 24)) (y := (.const (.int .i64 1))) (t := 3) (t2 := 3) (k := .i64) (m := i2) (by kernel_rfl) (by kernel_rfl) (by kernel_rfl) (by have h0 := (hRn1 _ (hZ _ hS12.subw)).small; omega) ?_
            refine ge_batch [1] (ans := []) (vs := [(24, .int .i64 ((i2 + 1 : Nat) : Int))]) (l := []) (by kernel_rfl) trivial ?_
            have hS18 := hS12.bring 2 rfl
            have hS19 := hS18.bring 2 rfl
            have hS20 := hS19.takeN 2
            obtain rfl := Option.some.inj h
            exact ge_nil fun a hF => hQ _ _ _ (Outs.again ⟨hS20, hF.weaken ⟨by kernel_rfl, by kernel_rfl, by kernel_rfl, by kernel_rfl, by kernel_rfl, by kernel_rfl, by kernel_rfl, by kernel_rfl, by kernel_rfl, by kernel_rfl, by kernel_rfl, by kernel_rfl, trivial⟩⟩)
        · rw [if_neg hc6] at h
          cases h
      · rw [if_neg hc5] at h
        refine ge_known (t := 37) (b := (e2.N == z1)) (c := false) (by kernel_rfl) (beq_eq_false_iff_ne.2 hc5) ?_
        refine ge_batch [10, 11, 12, 13, 14, 15, 16, 17] (ans := []) (vs := [(45, .bool false), (44, undef), (43, undef), (42, undef), (41, undef), (40, undef), (39, undef), (38, undef)]) (l := []) (by kernel_rfl) trivial ?_
        refine ge_nil fun a hF => hK19 _ _ ?_ a hF
        refine we_false (by kernel_rfl) ?_
        refine we_skip fun a hF => hK17 _ _ ?_ a hF
        refine we_region [(0, 0), (1, 0)] rfl ?_
        refine ge_addn (d := 51) (ty := 3) (x := (.tmp 24)) (y := (.const (.int .i64 1))) (t := 3) (t2 := 3) (k := .i64) (m := i2) (by kernel_rfl) (by kernel_rfl) (by kernel_rfl) (by have h0 := (hRn1 _ (hZ _ hS12.subw)).small; omega) ?_
        refine ge_batch [1] (ans := []) (vs := [(24, .int .i64 ((i2 + 1 : Nat) : Int))]) (l := []) (by kernel_rfl) trivial ?_
        have hS21 := hS12.bring 2 rfl
        have hS22 := hS21.bring 2 rfl
        have hS23 := hS22.takeN 2
        obtain rfl := Option.some.inj h
        exact ge_nil fun a hF => hQ _ _ _ (Outs.again ⟨hS23, hF.weaken ⟨by kernel_rfl, by kernel_rfl, by kernel_rfl, by kernel_rfl, by kernel_rfl, by kernel_rfl, by kernel_rfl, by kernel_rfl, by kernel_rfl, by kernel_rfl, by kernel_rfl, by kernel_rfl, trivial⟩⟩)
    · rw [if_neg hc4] at h
      refine ge_known (t := 31) (b := (e2.Do == 2)) (c := false) (by kernel_rfl) (beq_eq_false_iff_ne.2 hc4) ?_
      refine ge_batch [4, 5, 6, 7, 8, 9, 10, 11, 12, 13, 14, 15, 16, 17] (ans := []) (vs := [(45, .bool false), (44, undef), (43, undef), (42, undef), (41, undef), (40, undef), (39, undef), (38, undef), (37, .bool false), (36, .bool false), (35, undef), (34, undef), (33, undef), (32, undef)]) (l := []) (by kernel_rfl) trivial ?_
      refine ge_nil fun a hF => hK19 _ _ ?_ a hF
      refine we_false (by kernel_rfl) ?_
      refine we_skip fun a hF => hK17 _ _ ?_ a hF
      refine we_region [(0, 0), (1, 0)] rfl ?_
      refine ge_addn (d := 51) (ty := 3) (x := (.tmp 24)) (y := (.const (.int .i64 1))) (t := 3) (t2 := 3) (k := .i64) (m := i2) (by kernel_rfl) (by kernel_rfl) (by kernel_rfl) (by have h0 := (hRn1 _ (hZ _ hS12.subw)).small; omega) ?_
      refine ge_batch [1] (ans := []) (vs := [(24, .int .i64 ((i2 + 1 : Nat) : Int))]) (l := []) (by kernel_rfl) trivial ?_
      have hS24 := hS12.bring 2 rfl
      have hS25 := hS24.bring 2 rfl
      have hS26 := hS25.takeN 2
      obtain rfl := Option.some.inj h
      exact ge_nil fun a hF => hQ _ _ _ (Outs.again ⟨hS26, hF.weaken ⟨by kernel_rfl, by kernel_rfl, by kernel_rfl, by kernel_rfl, by kernel_rfl, by kernel_rfl, by kernel_rfl, by kernel_rfl, by kernel_rfl, by kernel_rfl, by kernel_rfl, by kernel_rfl, trivial⟩⟩)
  · rw [if_neg hc3] at h
    refine we_known (t := 25) (b := decide ((i2 : Int) < (e1.Acts.length : Int))) (v := false) (by kernel_rfl) (decide_eq_false hc3) ?_
    refine we_false (by kernel_rfl) ?_
    have hS27 := hS.bring 1 rfl
    have hS28 := hS27.takeN 1
    obtain rfl := Option.some.inj h
    exact we_exit fun a hF => hQ _ _ _ (Outs.out nofun (Exits.here ⟨hS28, hF.weaken ⟨by kernel_rfl, by kernel_rfl, by kernel_rfl, by kernel_rfl, by kernel_rfl, by kernel_rfl, by kernel_rfl, by kernel_rfl, trivial⟩⟩))
abbrev punctualref_Tops.A1 (K : Nat) (w0 : World) (Z : Zone) (l0 : List SLocked) (A0 : Option Addr) (c0 : Nat) (hZ : ∀ w, Sub w0 w → Z w) (hR0 : RdZ Z A0 l0) (hL0 : l0.length ≤ c0) (b1 : Nat) (z1 : Int) (m1 : List Int) (hc1 : z1 < (([(-1), (-1), (-1), (-1)] : List Int).length : Int)) : (Nat × (List Int)) → Act → World → Prop := fun (s : Nat × (List Int)) a w => St w0 w [Own.of (.slice (some ⟨b1, 0, none⟩) s.2.length 4) 3 s.2] ∧ Frm 55 a [(0, .slice A0 l0.length c0), (3, (.slice (some ⟨b1, 0, none⟩) s.2.length 4)), (4, .int .i64 z1), (11, .int .i64 (([(-1), (-1), (-1), (-1)] : List Int).length : Int)), (12, .int .i64 z1), (15, .slice A0 l0.length c0), (16, .int .i64 (l0.length : Int)), (17, .int .i64 (s.1 : Int))]
abbrev punctualref_Tops.B1 (K : Nat) (w0 : World) (Z : Zone) (l0 : List SLocked) (A0 : Option Addr) (c0 : Nat) (hZ : ∀ w, Sub w0 w → Z w) (hR0 : RdZ Z A0 l0) (hL0 : l0.length ≤ c0) (b1 : Nat) (z1 : Int) (m1 : List Int) (hc1 : z1 < (([(-1), (-1), (-1), (-1)] : List Int).length : Int)) : ((List Int) ⊕ (List Int)) → Exit → Act → World → Prop := Exits 2 (fun (s : (List Int)) a w => St w0 w [Own.of (.slice (some ⟨b1, 0, none⟩) s.length 4) 3 s] ∧ Frm 55 a [(0, .slice A0 l0.length c0), (3, (.slice (some ⟨b1, 0, none⟩) s.length 4)), (11, .int .i64 (([(-1), (-1), (-1), (-1)] : List Int).length : Int)), (12, .int .i64 z1)]) (Rets Tryd.prog Tryd.f22 (punctualref_Tops.Post w0))
theorem punctualref_Tops_r1 (K : Nat) (w0 : World) (Z : Zone) (l0 : List SLocked) (A0 : Option Addr) (c0 : Nat) (hZ : ∀ w, Sub w0 w → Z w) (hR0 : RdZ Z A0 l0) (hL0 : l0.length ≤ c0) (b1 : Nat) (z1 : Int) (m1 : List Int) (hc1 : z1 < (([(-1), (-1), (-1), (-1)] : List Int).length : Int)) (s : Nat × (List Int)) (o : (Nat × (List Int)) ⊕ ((List Int) ⊕ (List Int))) (h : punctualref_Tops.r1 K l0 z1 s = some o) (a : Act) (w : World) (hA : punctualref_Tops.A1 K w0 Z l0 A0 c0 hZ hR0 hL0 b1 z1 m1 hc1 s a w) (Q : Exit → Act → World → Prop) (hQ : ∀ x a w, Outs (punctualref_Tops.A1 K w0 Z l0 A0 c0 hZ hR0 hL0 b1 z1 m1 hc1) (punctualref_Tops.B1 K w0 Z l0 A0 c0 hZ hR0 hL0 b1 z1 m1 hc1) o x a w → Q x a w) : (subF Tryd.f22 [1, 1, 0, 1, 0, 0, 1, 1, 0, 0, 1, 1, 0, 0]).wp Tryd.prog Q a w := by
  obtain ⟨i1, m3⟩ := s
  obtain ⟨hS, hF⟩ := hA
  replace hS : St w0 w [Own.of (.slice (some ⟨b1, 0, none⟩) m3.length 4) 3 m3] := hS
  simp only [punctualref_Tops.r1] at h
  refine (?_ : WE Tryd.prog 55 (subF Tryd.f22 [1, 1, 0, 1, 0, 0, 1, 1, 0, 0, 1, 1, 0, 0]) Q [(0, .slice A0 l0.length c0), (3, (.slice (some ⟨b1, 0, none⟩) m3.length 4)), (4, .int .i64 z1), (11, .int .i64 (([(-1), (-1), (-1), (-1)] : List Int).length : Int)), (12, .int .i64 z1), (15, .slice A0 l0.length c0), (16, .int .i64 (l0.length : Int)), (17, .int .i64 (i1 : Int))] w) a hF
  clear hF a
  refine we_seq fun K10 hK10 => ?_
  refine we_region [(0, 0)] rfl ?_
  refine ge_batch [0] (ans := []) (vs := [(18, .bool (decide ((i1 : Int) < (l0.length : Int))))]) (l := []) (by kernel_rfl) trivial ?_
  refine ge_nil fun a hF => hK10 _ _ ?_ a hF
  refine we_seq fun K11 hK11 => ?_
  by_cases hc2 : (i1 : Int) < (l0.length : Int)
  · rw [if_pos hc2] at h
    refine we_known (t := 18) (b := decide ((i1 : Int) < (l0.length : Int))) (v := true) (by kernel_rfl) (decide_eq_true hc2) ?_
    refine we_true (by kernel_rfl) ?_
    refine we_skip fun a hF => hK11 _ _ ?_ a hF
    refine we_seq fun K12 hK12 => ?_
    refine we_block ?_
    refine we_seq fun K13 hK13 => ?_
    refine we_region [(0, 0), (1, 0), (2, 1), (3, 2)] rfl ?_
    rcases hx2 : l0[i1]? with _ | e1
    · rw [hx2] at h; cases h
    rw [hx2] at h
    simp only [] at h
    obtain ⟨An1, cn1, hCs1, hLn1, hRn1⟩ := SLocked.getZ hR0 hx2
    refine ge_index (d := 19) (ty := 0) (t := 23) (el := 34) (sz := 3) (m := l0.length) (c := c0) (x := (.tmp 15)) (y := (.tmp 17)) (A := A0) (k' := .i64) (j := (i1 : Int)) (jn := i1) (b0 := blkOf A0) (o0 := offOf A0) (by kernel_rfl) (by kernel_rfl) (by kernel_rfl) (by kernel_rfl) (by kernel_rfl) (hR0.eqSome (hZ _ hS.subw) (pos_of_get hx2)) rfl (lt_of_get hx2) ?_
    refine ge_batch [1] (ans := [.val (.int .i64 e1.At), .val (.int .i64 e1.P), .val (.slice An1 e1.Acts.length cn1)]) (vs := [(20, .agg #[.int .i64 e1.At, .int .i64 e1.P, .slice An1 e1.Acts.length cn1])]) (l := [.loaded ⟨blkOf A0, offOf A0 + i1 * 3, none⟩ (.int .i64 e1.At), .loaded ⟨blkOf A0, offOf A0 + i1 * 3 + 1, none⟩ (.int .i64 e1.P), .loaded ⟨blkOf A0, offOf A0 + i1 * 3 + 2, none⟩ (.slice An1 e1.Acts.length cn1)]) (by kernel_rfl) ⟨hCs1 _ (hZ _ hS.subw) 0 _ rfl, hCs1 _ (hZ _ hS.subw) 1 _ rfl, hCs1 _ (hZ _ hS.subw) 2 _ rfl, trivial⟩ ?_
    refine ge_new (d := some 6) (o := .cells #[.int .i64 0, .int .i64 0, .slice none 0 0] 34) (v := fun b => .pointer (some ⟨b, 0, none⟩)) hS (fun b => by kernel_rfl) fun b2 w2 hx3 hS4 => ?_
    refine ge_set (b := b2) (j := 0) (cs := #[.int .i64 0, .int .i64 0, .slice none 0 0]) (t := 34) (vs := [.int .i64 e1.At, .int .i64 e1.P, .slice An1 e1.Acts.length cn1]) hS4 (by kernel_rfl) rfl rfl fun w3 hS5 => ?_
    have hS6 := hS5.nc #[.int .i64 e1.At, .int .i64 e1.P, .slice An1 e1.Acts.length cn1] rfl
    refine ge_nil fun a hF => hK13 _ _ ?_ a hF
    refine we_seq fun K14 hK14 => ?_
    refine we_region [(0, 0), (1, 0), (2, 0), (3, 0)] rfl ?_
    refine ge_batch [0, 1, 2, 3] (ans := [.val (.slice An1 e1.Acts.length cn1)]) (vs := [(24, .int .i64 0), (23, .int .i64 (e1.Acts.length : Int)), (22, .slice An1 e1.Acts.length cn1), (21, .pointer (some ⟨b2, 2, none⟩))]) (l := [.loaded ⟨b2, 2, none⟩ (.slice An1 e1.Acts.length cn1)]) (by kernel_rfl) ⟨hS6.cell 0 rfl rfl, trivial⟩ ?_
    refine ge_nil fun a hF => hK14 _ _ ?_ a hF
    refine we_block ?_
    have hS7 := hS6.bring 1 rfl
    have hS8 := hS7.bring 1 rfl
    rcases hq1 : iter (punctualref_Tops.r2 z1 e1) K (0, m3) with _ | (m7 | rr1)
    · rw [hq1] at h; cases h
    · rw [hq1] at h
      simp only [] at h
      refine we_iter (A := punctualref_Tops.A2 K w0 Z l0 A0 c0 hZ hR0 hL0 b1 z1 m1 hc1 i1 m3 hc2 e1 hx2 An1 cn1 hCs1 hLn1 hRn1 b2) (B := punctualref_Tops.B2 K w0 Z l0 A0 c0 hZ hR0 hL0 b1 z1 m1 hc1 i1 m3 hc2 e1 hx2 An1 cn1 hCs1 hLn1 hRn1 b2) hq1 (fun a hF => ⟨hS8, hF.weaken ⟨by kernel_rfl, by kernel_rfl, by kernel_rfl, by kernel_rfl, by kernel_rfl, by kernel_rfl, by kernel_rfl, by kernel_rfl, by kernel_rfl, by kernel_rfl, by kernel_rfl, by kernel_rfl, trivial⟩⟩) (fun s o hf a w hA Q hQ => punctualref_Tops_r2 K w0 Z l0 A0 c0 hZ hR0 hL0 b1 z1 m1 hc1 i1 m3 hc2 e1 hx2 An1 cn1 hCs1 hLn1 hRn1 b2 s o hf a w hA Q hQ) ?_
      rintro _ a w7 _ ⟨rfl, hS29, hF⟩
      replace hS29 : St w0 w7 [Own.of (.slice (some ⟨b1, 0, none⟩) m7.length 4) 3 m7] := hS29
      refine hK12 [(0, .slice A0 l0.length c0), (3, (.slice (some ⟨b1, 0, none⟩) m7.length 4)), (4, .int .i64 z1), (11, .int .i64 (([(-1), (-1), (-1), (-1)] : List Int).length : Int)), (12, .int .i64 z1), (15, .slice A0 l0.length c0), (16, .int .i64 (l0.length : Int)), (17, .int .i64 (i1 : Int))] w7 ?_ a hF
      refine we_region [(0, 0), (1, 0)] rfl ?_
      refine ge_addn (d := 52) (ty := 3) (x := (.tmp 17)) (y := (.const (.int .i64 1))) (t := 3) (t2 := 3) (k := .i64) (m := i1) (by kernel_rfl) (by kernel_rfl) (by kernel_rfl) (by have h0 := RdZ.small hR0 (hZ _ hS29.subw); omega) ?_
      refine ge_batch [1] (ans := []) (vs := [(17, .int .i64 ((i1 + 1 : Nat) : Int))]) (l := []) (by kernel_rfl) trivial ?_
      obtain rfl := Option.some.inj h
      exact ge_nil fun a hF => hQ _ _ _ (Outs.again ⟨hS29, hF.weaken ⟨by kernel_rfl, by kernel_rfl, by kernel_rfl, by kernel_rfl, by kernel_rfl, by kernel_rfl, by kernel_rfl, by kernel_rfl, trivial⟩⟩)
    · rw [hq1] at h
      simp only [] at h
      refine we_iter (A := punctualref_Tops.A2 K w0 Z l0 A0 c0 hZ hR0 hL0 b1 z1 m1 hc1 i1 m3 hc2 e1 hx2 An1 cn1 hCs1 hLn1 hRn1 b2) (B := punctualref_Tops.B2 K w0 Z l0 A0 c0 hZ hR0 hL0 b1 z1 m1 hc1 i1 m3 hc2 e1 hx2 An1 cn1 hCs1 hLn1 hRn1 b2) hq1 (fun a hF => ⟨hS8, hF.weaken ⟨by kernel_rfl, by kernel_rfl, by kernel_rfl, by kernel_rfl, by kernel_rfl, by kernel_rfl, by kernel_rfl, by kernel_rfl, by kernel_rfl, by kernel_rfl, by kernel_rfl, by kernel_rfl, trivial⟩⟩) (fun s o hf a w hA Q hQ => punctualref_Tops_r2 K w0 Z l0 A0 c0 hZ hR0 hL0 b1 z1 m1 hc1 i1 m3 hc2 e1 hx2 An1 cn1 hCs1 hLn1 hRn1 b2 s o hf a w hA Q hQ) ?_
      rintro _ a w1 _ ⟨rfl, hb⟩
      obtain rfl := Option.some.inj h
      exact hQ _ _ _ (Outs.out nofun (Exits.on ⟨rfl, hb⟩))
  · rw [if_neg hc2] at h
    refine we_known (t := 18) (b := decide ((i1 : Int) < (l0.length : Int))) (v := false) (by kernel_rfl) (decide_eq_false hc2) ?_
    refine we_false (by kernel_rfl) ?_
    obtain rfl := Option.some.inj h
    exact we_exit fun a hF => hQ _ _ _ (Outs.out nofun (Exits.here ⟨hS, hF.weaken ⟨by kernel_rfl, by kernel_rfl, by kernel_rfl, by kernel_rfl, trivial⟩⟩))
abbrev punctualref_Tops.A0 (K : Nat) (w0 : World) (Z : Zone) (l0 : List SLocked) (A0 : Option Addr) (c0 : Nat) (hZ : ∀ w, Sub w0 w → Z w) (hR0 : RdZ Z A0 l0) (hL0 : l0.length ≤ c0) (b1 : Nat) : (Int × (List Int)) → Act → World → Prop := fun (s : Int × (List Int)) a w => St w0 w [Own.of (.slice (some ⟨b1, 0, none⟩) s.2.length 4) 3 s.2] ∧ Frm 55 a [(0, .slice A0 l0.length c0), (3, (.slice (some ⟨b1, 0, none⟩) s.2.length 4)), (11, .int .i64 (([(-1), (-1), (-1), (-1)] : List Int).length : Int)), (12, .int .i64 s.1)]
abbrev punctualref_Tops.B0 (K : Nat) (w0 : World) (Z : Zone) (l0 : List SLocked) (A0 : Option Addr) (c0 : Nat) (hZ : ∀ w, Sub w0 w → Z w) (hR0 : RdZ Z A0 l0) (hL0 : l0.length ≤ c0) (b1 : Nat) : ((List Int) ⊕ (List Int)) → Exit → Act → World → Prop := Exits 0 (fun (s : (List Int)) a w => St w0 w [Own.of (.slice (some ⟨b1, 0, none⟩) s.length 4) 3 s] ∧ Frm 55 a [(3, (.slice (some ⟨b1, 0, none⟩) s.length 4))]) (Rets Tryd.prog Tryd.f22 (punctualref_Tops.Post w0))
theorem punctualref_Tops_r0 (K : Nat) (w0 : World) (Z : Zone) (l0 : List SLocked) (A0 : Option Addr) (c0 : Nat) (hZ : ∀ w, Sub w0 w → Z w) (hR0 : RdZ Z A0 l0) (hL0 : l0.length ≤ c0) (b1 : Nat) (s : Int × (List Int)) (o : (Int × (List Int)) ⊕ ((List Int) ⊕ (List Int))) (h : punctualref_Tops.r0 K l0 s = some o) (a : Act) (w : World) (hA : punctualref_Tops.A0 K w0 Z l0 A0 c0 hZ hR0 hL0 b1 s a w) (Q : Exit → Act → World → Prop) (hQ : ∀ x a w, Outs (punctualref_Tops.A0 K w0 Z l0 A0 c0 hZ hR0 hL0 b1) (punctualref_Tops.B0 K w0 Z l0 A0 c0 hZ hR0 hL0 b1) o x a w → Q x a w) : (subF Tryd.f22 [1, 1, 0, 1, 0, 0]).wp Tryd.prog Q a w := by
  obtain ⟨z1, m1⟩ := s
  obtain ⟨hS, hF⟩ := hA
  replace hS : St w0 w [Own.of (.slice (some ⟨b1, 0, none⟩) m1.length 4) 3 m1] := hS
  simp only [punctualref_Tops.r0] at h
  refine (?_ : WE Tryd.prog 55 (subF Tryd.f22 [1, 1, 0, 1, 0, 0]) Q [(0, .slice A0 l0.length c0), (3, (.slice (some ⟨b1, 0, none⟩) m1.length 4)), (11, .int .i64 (([(-1), (-1), (-1), (-1)] : List Int).length : Int)), (12, .int .i64 z1)] w) a hF
  clear hF a
  refine we_seq fun K5 hK5 => ?_
  refine we_region [(0, 0)] rfl ?_
  refine ge_batch [0] (ans := []) (vs := [(13, .bool (decide (z1 < (([(-1), (-1), (-1), (-1)] : List Int).length : Int))))]) (l := []) (by kernel_rfl) trivial ?_
  refine ge_nil fun a hF => hK5 _ _ ?_ a hF
  refine we_seq fun K6 hK6 => ?_
  by_cases hc1 : z1 < (([(-1), (-1), (-1), (-1)] : List Int).length : Int)
  · rw [if_pos hc1] at h
    refine we_known (t := 13) (b := decide (z1 < (([(-1), (-1), (-1), (-1)] : List Int).length : Int))) (v := true) (by kernel_rfl) (decide_eq_true hc1) ?_
    refine we_true (by kernel_rfl) ?_
    refine we_skip fun a hF => hK6 _ _ ?_ a hF
    refine we_seq fun K7 hK7 => ?_
    refine we_block ?_
    refine we_seq fun K8 hK8 => ?_
    refine we_region [(0, 0), (1, 0)] rfl ?_
    refine ge_batch [0, 1] (ans := []) (vs := [(4, .int .i64 z1), (14, .int .i64 z1)]) (l := []) (by kernel_rfl) trivial ?_
    refine ge_nil fun a hF => hK8 _ _ ?_ a hF
    refine we_seq fun K9 hK9 => ?_
    refine we_region [(0, 0), (1, 0), (2, 0)] rfl ?_
    refine ge_batch [0, 1, 2] (ans := []) (vs := [(17, .int .i64 0), (16, .int .i64 (l0.length : Int)), (15, .slice A0 l0.length c0)]) (l := []) (by kernel_rfl) trivial ?_
    refine ge_nil fun a hF => hK9 _ _ ?_ a hF
    refine we_block ?_
    rcases hq2 : iter (punctualref_Tops.r1 K l0 z1) K (0, m1) with _ | (m8 | rr2)
    · rw [hq2] at h; cases h
    · rw [hq2] at h
      simp only [] at h
      refine we_iter (A := punctualref_Tops.A1 K w0 Z l0 A0 c0 hZ hR0 hL0 b1 z1 m1 hc1) (B := punctualref_Tops.B1 K w0 Z l0 A0 c0 hZ hR0 hL0 b1 z1 m1 hc1) hq2 (fun a hF => ⟨hS, hF.weaken ⟨by kernel_rfl, by kernel_rfl, by kernel_rfl, by kernel_rfl, by kernel_rfl, by kernel_rfl, by kernel_rfl, by kernel_rfl, trivial⟩⟩) (fun s o hf a w hA Q hQ => punctualref_Tops_r1 K w0 Z l0 A0 c0 hZ hR0 hL0 b1 z1 m1 hc1 s o hf a w hA Q hQ) ?_
      rintro _ a w8 _ ⟨rfl, hS30, hF⟩
      replace hS30 : St w0 w8 [Own.of (.slice (some ⟨b1, 0, none⟩) m8.length 4) 3 m8] := hS30
      refine hK7 [(0, .slice A0 l0.length c0), (3, (.slice (some ⟨b1, 0, none⟩) m8.length 4)), (11, .int .i64 (([(-1), (-1), (-1), (-1)] : List Int).length : Int)), (12, .int .i64 z1)] w8 ?_ a hF
      refine we_region [(0, 0), (1, 0)] rfl ?_
      refine ge_batch [0, 1] (ans := []) (vs := [(12, .int .i64 (IntKind.i64.wrap (z1 + 1))), (53, .int .i64 (IntKind.i64.wrap (z1 + 1)))]) (l := []) (by kernel_rfl) trivial ?_
      obtain rfl := Option.some.inj h
      exact ge_nil fun a hF => hQ _ _ _ (Outs.again ⟨hS30, hF.weaken ⟨by kernel_rfl, by kernel_rfl, by kernel_rfl, by kernel_rfl, trivial⟩⟩)
    · rw [hq2] at h
      simp only [] at h
      refine we_iter (A := punctualref_Tops.A1 K w0 Z l0 A0 c0 hZ hR0 hL0 b1 z1 m1 hc1) (B := punctualref_Tops.B1 K w0 Z l0 A0 c0 hZ hR0 hL0 b1 z1 m1 hc1) hq2 (fun a hF => ⟨hS, hF.weaken ⟨by kernel_rfl, by kernel_rfl, by kernel_rfl, by kernel_rfl, by kernel_rfl, by kernel_rfl, by kernel_rfl, by kernel_rfl, trivial⟩⟩) (fun s o hf a w hA Q hQ => punctualref_Tops_r1 K w0 Z l0 A0 c0 hZ hR0 hL0 b1 z1 m1 hc1 s o hf a w hA Q hQ) ?_
      rintro _ a w1 _ ⟨rfl, hb⟩
      obtain rfl := Option.some.inj h
      exact hQ _ _ _ (Outs.out nofun (Exits.on ⟨rfl, hb⟩))
  · rw [if_neg hc1] at h
    refine we_known (t := 13) (b := decide (z1 < (([(-1), (-1), (-1), (-1)] : List Int).length : Int))) (v := false) (by kernel_rfl) (decide_eq_false hc1) ?_
    refine we_false (by kernel_rfl) ?_
    obtain rfl := Option.some.inj h
    exact we_exit fun a hF => hQ _ _ _ (Outs.out nofun (Exits.here ⟨hS, hF.weaken ⟨by kernel_rfl, trivial⟩⟩))
theorem punctualref_Tops_ok (K : Nat) (Z : Zone) (l0 : List SLocked) (A0 : Option Addr) (c0 : Nat) (w0 : World) (hZ : ∀ w, Sub w0 w → Z w) (hR0 : RdZ Z A0 l0) (hL0 : l0.length ≤ c0) (r : List Int) (h : punctualref_Tops.f K l0 = some r) :
    Calls Tryd.prog 22 #[.slice A0 l0.length c0] w0 (punctualref_Tops.Post w0 r) := by
  have hS := St.start w0
  unfold punctualref_Tops.f at h
  refine calls_enter (n := 55) (args := [.slice A0 l0.length c0]) (fn := Tryd.f22) rfl rfl rfl rfl ?_
  show WE _ _ _ _ [(0, .slice A0 l0.length c0)] _
  refine we_seq fun K1 hK1 => ?_
  refine we_region [(0, 0)] rfl ?_
  refine ge_batch [0] (ans := []) (vs := [(2, .slice none 0 0)]) (l := []) (by kernel_rfl) trivial ?_
  refine ge_nil fun a hF => hK1 _ _ ?_ a hF
  refine we_seq fun K2 hK2 => ?_
  refine we_region [(0, 1), (1, 0)] rfl ?_
  refine ge_new (d := some 9) (o := .cells #[.int .i64 (-1), .int .i64 (-1), .int .i64 (-1), .int .i64 (-1)] 3) (v := fun b => .slice (some ⟨b, 0, none⟩) 4 4) hS (fun b => by kernel_rfl) fun b1 w1 hx1 hS1 => ?_
  have hS2 := hS1.asRow (α := Int) (c := 4) ([(-1), (-1), (-1), (-1)] : List Int) (Nat.le_refl _) (by decide) rfl rfl
  have hS3 : St w0 w1 [Own.of (.slice (some ⟨b1, 0, none⟩) ([(-1), (-1), (-1), (-1)] : List Int).length 4) 3 ([(-1), (-1), (-1), (-1)] : List Int)] := by exact hS2
  refine ge_same (t := 9) (v := .slice (some ⟨b1, 0, none⟩) 4 4) (v' := (.slice (some ⟨b1, 0, none⟩) ([(-1), (-1), (-1), (-1)] : List Int).length 4)) (by kernel_rfl) rfl ?_
  refine ge_batch [1] (ans := []) (vs := [(3, (.slice (some ⟨b1, 0, none⟩) ([(-1), (-1), (-1), (-1)] : List Int).length 4))]) (l := []) (by kernel_rfl) trivial ?_
  refine ge_nil fun a hF => hK2 _ _ ?_ a hF
  refine we_seq fun K3 hK3 => ?_
  refine we_seq fun K4 hK4 => ?_
  refine we_region [(0, 0), (1, 0), (2, 0)] rfl ?_
  refine ge_batch [0, 1, 2] (ans := []) (vs := [(12, .int .i64 0), (11, .int .i64 (([(-1), (-1), (-1), (-1)] : List Int).length : Int)), (10, (.slice (some ⟨b1, 0, none⟩) ([(-1), (-1), (-1), (-1)] : List Int).length 4))]) (l := []) (by kernel_rfl) trivial ?_
  refine ge_nil fun a hF => hK4 _ _ ?_ a hF
  refine we_block ?_
  rcases hq3 : iter (punctualref_Tops.r0 K l0) K (0, ([(-1), (-1), (-1), (-1)] : List Int)) with _ | (m9 | rr3)
  · rw [hq3] at h; cases h
  · rw [hq3] at h
    simp only [] at h
    refine we_iter (A := punctualref_Tops.A0 K w0 Z l0 A0 c0 hZ hR0 hL0 b1) (B := punctualref_Tops.B0 K w0 Z l0 A0 c0 hZ hR0 hL0 b1) hq3 (fun a hF => ⟨hS3, hF.weaken ⟨by kernel_rfl, by kernel_rfl, by kernel_rfl, by kernel_rfl, trivial⟩⟩) (fun s o hf a w hA Q hQ => punctualref_Tops_r0 K w0 Z l0 A0 c0 hZ hR0 hL0 b1 s o hf a w hA Q hQ) ?_
    rintro _ a w9 _ ⟨rfl, hS31, hF⟩
    replace hS31 : St w0 w9 [Own.of (.slice (some ⟨b1, 0, none⟩) m9.length 4) 3 m9] := hS31
    refine hK3 [(3, (.slice (some ⟨b1, 0, none⟩) m9.length 4))] w9 ?_ a hF
    refine we_seq fun K20 hK20 => ?_
    refine we_region [(0, 0), (1, 0)] rfl ?_
    refine ge_batch [0, 1] (ans := []) (vs := [(2, (.slice (some ⟨b1, 0, none⟩) m9.length 4)), (54, (.slice (some ⟨b1, 0, none⟩) m9.length 4))]) (l := []) (by kernel_rfl) trivial ?_
    refine ge_nil fun a hF => hK20 _ _ ?_ a hF
    obtain rfl := Option.some.inj h
    exact we_ret (post_ret (rs := [.tmp 2]) (ans := []) (vs := [(.slice (some ⟨b1, 0, none⟩) m9.length 4)]) (l := []) rfl (by kernel_rfl) trivial ⟨(.slice (some ⟨b1, 0, none⟩) m9.length 4), rfl, hS31⟩)
  · rw [hq3] at h
    simp only [] at h
    refine we_iter (A := punctualref_Tops.A0 K w0 Z l0 A0 c0 hZ hR0 hL0 b1) (B := punctualref_Tops.B0 K w0 Z l0 A0 c0 hZ hR0 hL0 b1) hq3 (fun a hF => ⟨hS3, hF.weaken ⟨by kernel_rfl, by kernel_rfl, by kernel_rfl, by kernel_rfl, trivial⟩⟩) (fun s o hf a w hA Q hQ => punctualref_Tops_r0 K w0 Z l0 A0 c0 hZ hR0 hL0 b1 s o hf a w hA Q hQ) ?_
    rintro _ a w1 _ ⟨rfl, hb⟩
    obtain rfl := Option.some.inj h
    exact hb

/-! punctual/punctualsame.Same[punctual/api.Act] -/
abbrev punctualsame_Same_api_Act.Post (w0 : World) (r : Bool) (e : Ending) (w : World) : Prop := e = .returned (.bool r) ∧ St w0 w []
def punctualsame_Same_api_Act.r0 (l0 : List SAct) (l1 : List SAct) : Nat → Option (Nat ⊕ (Unit ⊕ Bool))
  | i1 =>
    if (i1 : Int) < (l0.length : Int) then
      match l0[i1]? with
      | none => none
      | some e1 =>
        match l1[i1]? with
        | none => none
        | some e2 =>
          if (SAct.eqb e1 e2) = true then
            some (.inl (i1 + 1))
          else
            some (.inr (.inr false))
    else
      some (.inr (.inl ()))
def punctualsame_Same_api_Act.f (K : Nat) (l0 : List SAct) (l1 : List SAct) : Option Bool :=
  if (l0.length : Int) = (l1.length : Int) then
    match iter (punctualsame_Same_api_Act.r0 l0 l1) K 0 with
    | none => none
    | some (.inl _) =>
      some true
    | some (.inr rr1) =>
      some rr1
  else
    some false
abbrev punctualsame_Same_api_Act.A0 (K : Nat) (w0 : World) (l0 : List SAct) (A0 : Option Addr) (c0 : Nat) (l1 : List SAct) (A1 : Option Addr) (c1 : Nat) (hR0 : RdL w0 A0 l0) (hL0 : l0.length ≤ c0) (hR1 : RdL w0 A1 l1) (hL1 : l1.length ≤ c1) (hc1 : (l0.length : Int) = (l1.length : Int)) : Nat → Act → World → Prop := fun (s : Nat) a w => St w0 w [] ∧ Frm 26 a [(0, .slice A0 l0.length c0), (1, .slice A1 l1.length c1), (12, .int .i64 (l0.length : Int)), (13, .int .i64 (s : Int))]
abbrev punctualsame_Same_api_Act.B0 (K : Nat) (w0 : World) (l0 : List SAct) (A0 : Option Addr) (c0 : Nat) (l1 : List SAct) (A1 : Option Addr) (c1 : Nat) (hR0 : RdL w0 A0 l0) (hL0 : l0.length ≤ c0) (hR1 : RdL w0 A1 l1) (hL1 : l1.length ≤ c1) (hc1 : (l0.length : Int) = (l1.length : Int)) : (Unit ⊕ Bool) → Exit → Act → World → Prop := Exits 0 (fun (s : Unit) a w => St w0 w [] ∧ Frm 26 a []) (Rets Tryd.prog Tryd.f63 (punctualsame_Same_api_Act.Post w0))
theorem punctualsame_Same_api_Act_r0 (K : Nat) (w0 : World) (l0 : List SAct) (A0 : Option Addr) (c0 : Nat) (l1 : List SAct) (A1 : Option Addr) (c1 : Nat) (hR0 : RdL w0 A0 l0) (hL0 : l0.length ≤ c0) (hR1 : RdL w0 A1 l1) (hL1 : l1.length ≤ c1) (hc1 : (l0.length : Int) = (l1.length : Int)) (s : Nat) (o : Nat ⊕ (Unit ⊕ Bool)) (h : punctualsame_Same_api_Act.r0 l0 l1 s = some o) (a : Act) (w : World) (hA : punctualsame_Same_api_Act.A0 K w0 l0 A0 c0 l1 A1 c1 hR0 hL0 hR1 hL1 hc1 s a w) (Q : Exit → Act → World → Prop) (hQ : ∀ x a w, Outs (punctualsame_Same_api_Act.A0 K w0 l0 A0 c0 l1 A1 c1 hR0 hL0 hR1 hL1 hc1) (punctualsame_Same_api_Act.B0 K w0 l0 A0 c0 l1 A1 c1 hR0 hL0 hR1 hL1 hc1) o x a w → Q x a w) : (subF Tryd.f63 [1, 1, 0, 1, 0, 0]).wp Tryd.prog Q a w := by
  obtain ⟨i1, hs⟩ : ∃ z, z = s := ⟨s, rfl⟩
  subst hs
  obtain ⟨hS, hF⟩ := hA
  replace hS : St w0 w [] := hS
  simp only [punctualsame_Same_api_Act.r0] at h
  refine (?_ : WE Tryd.prog 26 (subF Tryd.f63 [1, 1, 0, 1, 0, 0]) Q [(0, .slice A0 l0.length c0), (1, .slice A1 l1.length c1), (12, .int .i64 (l0.length : Int)), (13, .int .i64 (i1 : Int))] w) a hF
  clear hF a
  refine we_seq fun K6 hK6 => ?_
  refine we_region [(0, 0)] rfl ?_
  refine ge_batch [0] (ans := []) (vs := [(14, .bool (decide ((i1 : Int) < (l0.length : Int))))]) (l := []) (by kernel_rfl) trivial ?_
  refine ge_nil fun a hF => hK6 _ _ ?_ a hF
  refine we_seq fun K7 hK7 => ?_
  by_cases hc2 : (i1 : Int) < (l0.length : Int)
  · rw [if_pos hc2] at h
    refine we_known (t := 14) (b := decide ((i1 : Int) < (l0.length : Int))) (v := true) (by kernel_rfl) (decide_eq_true hc2) ?_
    refine we_true (by kernel_rfl) ?_
    refine we_skip fun a hF => hK7 _ _ ?_ a hF
    refine we_seq fun K8 hK8 => ?_
    refine we_block ?_
    refine we_seq fun K9 hK9 => ?_
    refine we_region [(0, 0), (1, 0)] rfl ?_
    refine ge_batch [0, 1] (ans := []) (vs := [(5, .int .i64 (i1 : Int)), (15, .int .i64 (i1 : Int))]) (l := []) (by kernel_rfl) trivial ?_
    refine ge_nil fun a hF => hK9 _ _ ?_ a hF
    refine we_seq fun K10 hK10 => ?_
    refine we_draws (by kernel_rfl) [(0, 0), (1, 0), (2, 0), (3, 0), (4, 0), (5, 0), (6, 0), (7, 0), (8, 0)] (by kernel_rfl) ?_
    have hS1 := hS.drew
    refine ge_batch [0, 1] (ans := []) (vs := [(17, .int .i64 (i1 : Int)), (16, .slice A0 l0.length c0)]) (l := []) (by kernel_rfl) trivial ?_
    rcases hx1 : l0[i1]? with _ | e1
    · rw [hx1] at h; cases h
    rw [hx1] at h
    simp only [] at h
    refine ge_index (d := 18) (ty := 0) (t := 22) (el := 39) (sz := 2) (m := l0.length) (c := c0) (x := (.tmp 16)) (y := (.tmp 17)) (A := A0) (k' := .i64) (j := (i1 : Int)) (jn := i1) (b0 := blkOf A0) (o0 := offOf A0) (by kernel_rfl) (by kernel_rfl) (by kernel_rfl) (by kernel_rfl) (by kernel_rfl) ((hS1.rd hR0).eqSome (pos_of_get hx1)) rfl (lt_of_get hx1) ?_
    refine ge_batch [3, 4, 5] (ans := [.val (.int .i64 e1.Do), .val (.int .i64 e1.N)]) (vs := [(21, .int .i64 (i1 : Int)), (20, .slice A1 l1.length c1), (19, .agg #[.int .i64 e1.Do, .int .i64 e1.N])]) (l := [.loaded ⟨blkOf A0, offOf A0 + i1 * 2, none⟩ (.int .i64 e1.Do), .loaded ⟨blkOf A0, offOf A0 + i1 * 2 + 1, none⟩ (.int .i64 e1.N)]) (by kernel_rfl) ⟨RdL.cell (j := 0) (hS1.rd hR0) hx1 rfl, RdL.cell (j := 1) (hS1.rd hR0) hx1 rfl, trivial⟩ ?_
    rcases hx2 : l1[i1]? with _ | e2
    · rw [hx2] at h; cases h
    rw [hx2] at h
    simp only [] at h
    refine ge_index (d := 22) (ty := 0) (t := 22) (el := 39) (sz := 2) (m := l1.length) (c := c1) (x := (.tmp 20)) (y := (.tmp 21)) (A := A1) (k' := .i64) (j := (i1 : Int)) (jn := i1) (b0 := blkOf A1) (o0 := offOf A1) (by kernel_rfl) (by kernel_rfl) (by kernel_rfl) (by kernel_rfl) (by kernel_rfl) ((hS1.rd hR1).eqSome (pos_of_get hx2)) rfl (lt_of_get hx2) ?_
    refine ge_batch [7] (ans := [.val (.int .i64 e2.Do), .val (.int .i64 e2.N)]) (vs := [(23, .agg #[.int .i64 e2.Do, .int .i64 e2.N])]) (l := [.loaded ⟨blkOf A1, offOf A1 + i1 * 2, none⟩ (.int .i64 e2.Do), .loaded ⟨blkOf A1, offOf A1 + i1 * 2 + 1, none⟩ (.int .i64 e2.N)]) (by kernel_rfl) ⟨RdL.cell (j := 0) (hS1.rd hR1) hx2 rfl, RdL.cell (j := 1) (hS1.rd hR1) hx2 rfl, trivial⟩ ?_
    refine ge_eqs (d := 24) (ty := 4) (op := .neq) (x := (.tmp 19)) (y := (.tmp 23)) (t := 39) (t2 := 39) (xs := #[.int .i64 e1.Do, .int .i64 e1.N]) (ys := #[.int .i64 e2.Do, .int .i64 e2.N]) (r := (SAct.eqb e1 e2)) (v := !(SAct.eqb e1 e2)) (by kernel_rfl) (by kernel_rfl) (by kernel_rfl) (by kernel_rfl) (by kernel_rfl) rfl ?_
    refine ge_nil fun a hF => hK10 _ _ ?_ a hF
    by_cases hc3 : (SAct.eqb e1 e2) = true
    · rw [if_pos hc3] at h
      refine we_known (t := 24) (b := !(SAct.eqb e1 e2)) (v := false) (by kernel_rfl) (congrArg (fun z => !z) hc3) ?_
      refine we_false (by kernel_rfl) ?_
      refine we_skip fun a hF => hK8 _ _ ?_ a hF
      refine we_region [(0, 0), (1, 0)] rfl ?_
      refine ge_addn (d := 25) (ty := 3) (x := (.tmp 13)) (y := (.const (.int .i64 1))) (t := 3) (t2 := 3) (k := .i64) (m := i1) (by kernel_rfl) (by kernel_rfl) (by kernel_rfl) (by have h0 := hR0.small; omega) ?_
      refine ge_batch [1] (ans := []) (vs := [(13, .int .i64 ((i1 + 1 : Nat) : Int))]) (l := []) (by kernel_rfl) trivial ?_
      obtain rfl := Option.some.inj h
      exact ge_nil fun a hF => hQ _ _ _ (Outs.again ⟨hS1, hF.weaken ⟨by kernel_rfl, by kernel_rfl, by kernel_rfl, by kernel_rfl, trivial⟩⟩)
    · rw [if_neg hc3] at h
      refine we_known (t := 24) (b := !(SAct.eqb e1 e2)) (v := true) (by kernel_rfl) (congrArg (fun z => !z) (Bool.eq_false_iff.2 hc3)) ?_
      refine we_true (by kernel_rfl) ?_
      refine we_seq fun K11 hK11 => ?_
      refine we_region [(0, 0)] rfl ?_
      refine ge_batch [0] (ans := []) (vs := [(4, .bool false)]) (l := []) (by kernel_rfl) trivial ?_
      refine ge_nil fun a hF => hK11 _ _ ?_ a hF
      obtain rfl := Option.some.inj h
      exact we_ret fun a hF => hQ _ _ _ (Outs.out nofun (Exits.on ⟨rfl, (post_ret (rs := [.tmp 4]) (ans := []) (vs := [.bool false]) (l := []) rfl (by kernel_rfl) trivial ⟨rfl, hS1⟩) a hF⟩))
  · rw [if_neg hc2] at h
    refine we_known (t := 14) (b := decide ((i1 : Int) < (l0.length : Int))) (v := false) (by kernel_rfl) (decide_eq_false hc2) ?_
    refine we_false (by kernel_rfl) ?_
    obtain rfl := Option.some.inj h
    exact we_exit fun a hF => hQ _ _ _ (Outs.out nofun (Exits.here ⟨hS, hF.weaken trivial⟩))
theorem punctualsame_Same_api_Act_ok (K : Nat) (l0 : List SAct) (A0 : Option Addr) (c0 : Nat) (l1 : List SAct) (A1 : Option Addr) (c1 : Nat) (w0 : World) (hR0 : RdL w0 A0 l0) (hL0 : l0.length ≤ c0) (hR1 : RdL w0 A1 l1) (hL1 : l1.length ≤ c1) (r : Bool) (h : punctualsame_Same_api_Act.f K l0 l1 = some r) :
    Calls Tryd.prog 63 #[.slice A0 l0.length c0, .slice A1 l1.length c1] w0 (punctualsame_Same_api_Act.Post w0 r) := by
  have hS := St.start w0
  unfold punctualsame_Same_api_Act.f at h
  refine calls_enter (n := 26) (args := [.slice A0 l0.length c0, .slice A1 l1.length c1]) (fn := Tryd.f63) rfl rfl rfl rfl ?_
  show WE _ _ _ _ [(0, .slice A0 l0.length c0), (1, .slice A1 l1.length c1)] _
  refine we_seq fun K1 hK1 => ?_
  refine we_region [(0, 0)] rfl ?_
  refine ge_batch [0] (ans := []) (vs := [(4, .bool false)]) (l := []) (by kernel_rfl) trivial ?_
  refine ge_nil fun a hF => hK1 _ _ ?_ a hF
  refine we_seq fun K2 hK2 => ?_
  refine we_seq fun K3 hK3 => ?_
  refine we_region [(0, 0), (1, 0), (2, 0), (3, 0), (4, 0)] rfl ?_
  refine ge_batch [0, 1, 2, 3, 4] (ans := []) (vs := [(10, .bool ((l0.length : Int) != (l1.length : Int))), (9, .int .i64 (l1.length : Int)), (8, .slice A1 l1.length c1), (7, .int .i64 (l0.length : Int)), (6, .slice A0 l0.length c0)]) (l := []) (by kernel_rfl) trivial ?_
  refine ge_nil fun a hF => hK3 _ _ ?_ a hF
  by_cases hc1 : (l0.length : Int) = (l1.length : Int)
  · rw [if_pos hc1] at h
    refine we_known (t := 10) (b := ((l0.length : Int) != (l1.length : Int))) (v := false) (by kernel_rfl) (bne_eq_false_iff_eq.2 hc1) ?_
    refine we_false (by kernel_rfl) ?_
    refine we_skip fun a hF => hK2 _ _ ?_ a hF
    refine we_seq fun K4 hK4 => ?_
    refine we_seq fun K5 hK5 => ?_
    refine we_region [(0, 0), (1, 0), (2, 0)] rfl ?_
    refine ge_batch [0, 1, 2] (ans := []) (vs := [(13, .int .i64 0), (12, .int .i64 (l0.length : Int)), (11, .slice A0 l0.length c0)]) (l := []) (by kernel_rfl) trivial ?_
    refine ge_nil fun a hF => hK5 _ _ ?_ a hF
    refine we_block ?_
    rcases hq1 : iter (punctualsame_Same_api_Act.r0 l0 l1) K 0 with _ | (_ | rr1)
    · rw [hq1] at h; cases h
    · rw [hq1] at h
      simp only [] at h
      refine we_iter (A := punctualsame_Same_api_Act.A0 K w0 l0 A0 c0 l1 A1 c1 hR0 hL0 hR1 hL1 hc1) (B := punctualsame_Same_api_Act.B0 K w0 l0 A0 c0 l1 A1 c1 hR0 hL0 hR1 hL1 hc1) hq1 (fun a hF => ⟨hS, hF.weaken ⟨by kernel_rfl, by kernel_rfl, by kernel_rfl, by kernel_rfl, trivial⟩⟩) (fun s o hf a w hA Q hQ => punctualsame_Same_api_Act_r0 K w0 l0 A0 c0 l1 A1 c1 hR0 hL0 hR1 hL1 hc1 s o hf a w hA Q hQ) ?_
      rintro _ a w1 _ ⟨rfl, hS2, hF⟩
      replace hS2 : St w0 w1 [] := hS2
      refine hK4 [] w1 ?_ a hF
      refine we_seq fun K12 hK12 => ?_
      refine we_region [(0, 0)] rfl ?_
      refine ge_batch [0] (ans := []) (vs := [(4, .bool true)]) (l := []) (by kernel_rfl) trivial ?_
      refine ge_nil fun a hF => hK12 _ _ ?_ a hF
      obtain rfl := Option.some.inj h
      exact we_ret (post_ret (rs := [.tmp 4]) (ans := []) (vs := [.bool true]) (l := []) rfl (by kernel_rfl) trivial ⟨rfl, hS2⟩)
    · rw [hq1] at h
      simp only [] at h
      refine we_iter (A := punctualsame_Same_api_Act.A0 K w0 l0 A0 c0 l1 A1 c1 hR0 hL0 hR1 hL1 hc1) (B := punctualsame_Same_api_Act.B0 K w0 l0 A0 c0 l1 A1 c1 hR0 hL0 hR1 hL1 hc1) hq1 (fun a hF => ⟨hS, hF.weaken ⟨by kernel_rfl, by kernel_rfl, by kernel_rfl, by kernel_rfl, trivial⟩⟩) (fun s o hf a w hA Q hQ => punctualsame_Same_api_Act_r0 K w0 l0 A0 c0 l1 A1 c1 hR0 hL0 hR1 hL1 hc1 s o hf a w hA Q hQ) ?_
      rintro _ a w1 _ ⟨rfl, hb⟩
      obtain rfl := Option.some.inj h
      exact hb
  · rw [if_neg hc1] at h
    refine we_known (t := 10) (b := ((l0.length : Int) != (l1.length : Int))) (v := true) (by kernel_rfl) (bne_iff_ne.2 hc1) ?_
    refine we_true (by kernel_rfl) ?_
    refine we_seq fun K13 hK13 => ?_
    refine we_region [(0, 0)] rfl ?_
    refine ge_batch [0] (ans := []) (vs := [(4, .bool false)]) (l := []) (by kernel_rfl) trivial ?_
    refine ge_nil fun a hF => hK13 _ _ ?_ a hF
    obtain rfl := Option.some.inj h
    exact we_ret (post_ret (rs := [.tmp 4]) (ans := []) (vs := [.bool false]) (l := []) rfl (by kernel_rfl) trivial ⟨rfl, hS⟩)
end Go.Proofs.YtccfilmiboepjaaDoor.GV
