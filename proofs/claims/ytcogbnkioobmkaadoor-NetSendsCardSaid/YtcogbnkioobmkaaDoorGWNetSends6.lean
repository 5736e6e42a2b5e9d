/- Walks of single functions, written by a program of this work. -/
import Derived.Test.YtcogbnkioobmkaaDoorGWNetSends5
namespace Go.Proofs.YtcogbnkioobmkaaDoor.GV
open Go Go.RowKit
set_option linter.unusedVariables false
set_option linter.unusedSimpArgs false
set_option maxRecDepth 100000

/-! punctual/punctuallaw.NetSends -/
abbrev NetSends.Post (w0 : World) (r : Bool) (e : Ending) (w : World) : Prop := e = .returned (.bool r) ∧ St w0 w []
def NetSends.p0 (l0 : List SFrame) (l1 : List SCome) (l2 : List Int) (x3 : Int) : Option (Unit ⊕ Bool) :=
    if (few.f (l0.length : Int)) = true then
      if (few.f (l1.length : Int)) = true then
        if (few.f (l2.length : Int)) = true then
          if (small.f (l1.length : Int) x3) = true then
            some (.inl ())
          else
            some (.inr true)
        else
          some (.inr true)
      else
        some (.inr true)
    else
      some (.inr true)
def NetSends.f (K : Nat) (l0 : List SFrame) (l1 : List SCome) (l2 : List Int) (x3 : Int) : Option Bool :=
  match bus.f K with
  | none => none
  | some r1 =>
    if r1 = true then
      match NetSends.p0 l0 l1 l2 x3 with
      | none => none
      | some (.inl _) =>
        match punctualsame_Lend_api_Frame.f l0 (⟨(-9), 0, 0, 0⟩ : SFrame) with
        | none => none
        | some _ =>
          match punctualsame_Lend_api_Come.f l1 (⟨(-9), 0⟩ : SCome) with
          | none => none
          | some _ =>
            match punctualsame_Lend_int.f l2 (-9) with
            | none => none
            | some _ =>
              match net_Send.f K l0 l1 l2 x3 with
              | none => none
              | some r5 =>
                match punctualref_SendOf.f K l0 l1 l2 x3 with
                | none => none
                | some r6 =>
                  if (SFault.eqb r5.2 r6.2) = true then
                    match punctualsame_Played.f K r5.1.Runs r5.1.Ends r6.1.Runs r6.1.Ends with
                    | none => none
                    | some r7 =>
                      if r7 = true then
                        match punctualsame_Still_api_Frame.f K (l0 ++ [(⟨(-9), 0, 0, 0⟩ : SFrame), (⟨(-9), 0, 0, 0⟩ : SFrame), (⟨(-9), 0, 0, 0⟩ : SFrame)]) l0 (⟨(-9), 0, 0, 0⟩ : SFrame) with
                        | none => none
                        | some r8 =>
                          if r8 = true then
                            match punctualsame_Still_api_Come.f K (l1 ++ [(⟨(-9), 0⟩ : SCome), (⟨(-9), 0⟩ : SCome), (⟨(-9), 0⟩ : SCome)]) l1 (⟨(-9), 0⟩ : SCome) with
                            | none => none
                            | some r9 =>
                              if r9 = true then
                                match punctualsame_Still_int.f K (l2 ++ [(-9), (-9), (-9)]) l2 (-9) with
                                | none => none
                                | some r10 =>
                                  some r10
                              else
                                some false
                          else
                            some false
                      else
                        some false
                  else
                    some false
      | some (.inr rr1) =>
        some rr1
    else
      some false
abbrev NetSends.A0 (K : Nat) (w0 : World) (l0 : List SFrame) (A0 : Option Addr) (c0 : Nat) (l1 : List SCome) (A1 : Option Addr) (c1 : Nat) (l2 : List Int) (A2 : Option Addr) (c2 : Nat) (x3 : Int) (hR0 : RdL w0 A0 l0) (hL0 : l0.length ≤ c0) (hR1 : RdL w0 A1 l1) (hL1 : l1.length ≤ c1) (hR2 : RdL w0 A2 l2) (hL2 : l2.length ≤ c2) (hG0 : Glob w0 0 [.int .i64 (-9), .int .i64 0, .int .i64 0, .int .i64 0]) (hG1 : Glob w0 1 [.int .i64 (-9), .int .i64 0]) (r1 : Bool) (hc1 : r1 = true) : Unit → Act → World → Prop := fun (s : Unit) a w => St w0 w [] ∧ Frm 90 a [(0, .slice A0 l0.length c0), (1, .slice A1 l1.length c1), (2, .slice A2 l2.length c2), (3, .int .i64 x3)]
abbrev NetSends.B0 (K : Nat) (w0 : World) (l0 : List SFrame) (A0 : Option Addr) (c0 : Nat) (l1 : List SCome) (A1 : Option Addr) (c1 : Nat) (l2 : List Int) (A2 : Option Addr) (c2 : Nat) (x3 : Int) (hR0 : RdL w0 A0 l0) (hL0 : l0.length ≤ c0) (hR1 : RdL w0 A1 l1) (hL1 : l1.length ≤ c1) (hR2 : RdL w0 A2 l2) (hL2 : l2.length ≤ c2) (hG0 : Glob w0 0 [.int .i64 (-9), .int .i64 0, .int .i64 0, .int .i64 0]) (hG1 : Glob w0 1 [.int .i64 (-9), .int .i64 0]) (r1 : Bool) (hc1 : r1 = true) : Bool → Exit → Act → World → Prop := Rets Tryd.prog Tryd.f3 (NetSends.Post w0)
theorem NetSends_p0 (K : Nat) (w0 : World) (l0 : List SFrame) (A0 : Option Addr) (c0 : Nat) (l1 : List SCome) (A1 : Option Addr) (c1 : Nat) (l2 : List Int) (A2 : Option Addr) (c2 : Nat) (x3 : Int) (hR0 : RdL w0 A0 l0) (hL0 : l0.length ≤ c0) (hR1 : RdL w0 A1 l1) (hL1 : l1.length ≤ c1) (hR2 : RdL w0 A2 l2) (hL2 : l2.length ≤ c2) (hG0 : Glob w0 0 [.int .i64 (-9), .int .i64 0, .int .i64 0, .int .i64 0]) (hG1 : Glob w0 1 [.int .i64 (-9), .int .i64 0]) (r1 : Bool) (hc1 : r1 = true) (o : Unit ⊕ Bool) (h : NetSends.p0 l0 l1 l2 x3 = some o) (w : World) (hS : St w0 w []) (Q : Exit → Act → World → Prop) (hQ : ∀ x a w, Outs (NetSends.A0 K w0 l0 A0 c0 l1 A1 c1 l2 A2 c2 x3 hR0 hL0 hR1 hL1 hR2 hL2 hG0 hG1 r1 hc1) (NetSends.B0 K w0 l0 A0 c0 l1 A1 c1 l2 A2 c2 x3 hR0 hL0 hR1 hL1 hR2 hL2 hG0 hG1 r1 hc1) o x a w → Q x a w) : WE Tryd.prog 90 (subF Tryd.f3 [1, 1, 0]) Q [(0, .slice A0 l0.length c0), (1, .slice A1 l1.length c1), (2, .slice A2 l2.length c2), (3, .int .i64 x3), (8, .bool false), (16, .bool r1), (17, .bool false)] w := by
  simp only [NetSends.p0] at h
  refine we_seq fun K5 hK5 => ?_
  refine we_region [(0, 0), (1, 0), (2, 1), (3, 0), (4, 0), (5, 0), (6, 0), (7, 1), (8, 0), (9, 0), (10, 0), (11, 0), (12, 0), (13, 1), (14, 0), (15, 0), (16, 0), (17, 0), (18, 0), (19, 0), (20, 1), (21, 0), (22, 0)] rfl ?_
  refine ge_batch [0, 1] (ans := []) (vs := [(19, .int .i64 (l0.length : Int)), (18, .slice A0 l0.length c0)]) (l := []) (by kernel_rfl) trivial ?_
  refine ge_call (d := some 20) (f := 11) (args := #[.int .i64 (l0.length : Int)]) (by kernel_rfl) (few_ok (l0.length : Int) _ _ rfl) ?_
  rintro _ w2 ⟨rfl, hS3⟩
  refine ⟨_, rfl, hS3.below, ?_⟩
  have hS4 := hS.call hS3
  refine ge_batch [3, 4] (ans := []) (vs := [(22, .bool (!(few.f (l0.length : Int)))), (21, .bool (!(few.f (l0.length : Int))))]) (l := []) (by kernel_rfl) trivial ?_
  by_cases hc2 : (few.f (l0.length : Int)) = true
  · rw [if_pos hc2] at h
    refine ge_known (t := 22) (b := !(few.f (l0.length : Int))) (c := false) (by kernel_rfl) (congrArg (fun z => !z) hc2) ?_
    refine ge_batch [5, 6] (ans := []) (vs := [(24, .int .i64 (l1.length : Int)), (23, .slice A1 l1.length c1)]) (l := []) (by kernel_rfl) trivial ?_
    refine ge_call (d := some 25) (f := 11) (args := #[.int .i64 (l1.length : Int)]) (by kernel_rfl) (few_ok (l1.length : Int) _ _ rfl) ?_
    rintro _ w3 ⟨rfl, hS5⟩
    refine ⟨_, rfl, hS5.below, ?_⟩
    have hS6 := hS4.call hS5
    refine ge_batch [8, 9, 10] (ans := []) (vs := [(28, .bool (!(few.f (l1.length : Int)))), (27, .bool (!(few.f (l1.length : Int)))), (26, .bool (!(few.f (l1.length : Int))))]) (l := []) (by kernel_rfl) trivial ?_
    by_cases hc3 : (few.f (l1.length : Int)) = true
    · rw [if_pos hc3] at h
      refine ge_known (t := 28) (b := !(few.f (l1.length : Int))) (c := false) (by kernel_rfl) (congrArg (fun z => !z) hc3) ?_
      refine ge_batch [11, 12] (ans := []) (vs := [(30, .int .i64 (l2.length : Int)), (29, .slice A2 l2.length c2)]) (l := []) (by kernel_rfl) trivial ?_
      refine ge_call (d := some 31) (f := 11) (args := #[.int .i64 (l2.length : Int)]) (by kernel_rfl) (few_ok (l2.length : Int) _ _ rfl) ?_
      rintro _ w4 ⟨rfl, hS7⟩
      refine ⟨_, rfl, hS7.below, ?_⟩
      have hS8 := hS6.call hS7
      refine ge_batch [14, 15, 16] (ans := []) (vs := [(34, .bool (!(few.f (l2.length : Int)))), (33, .bool (!(few.f (l2.length : Int)))), (32, .bool (!(few.f (l2.length : Int))))]) (l := []) (by kernel_rfl) trivial ?_
      by_cases hc4 : (few.f (l2.length : Int)) = true
      · rw [if_pos hc4] at h
        refine ge_known (t := 34) (b := !(few.f (l2.length : Int))) (c := false) (by kernel_rfl) (congrArg (fun z => !z) hc4) ?_
        refine ge_batch [17, 18, 19] (ans := []) (vs := [(37, .int .i64 x3), (36, .int .i64 (l1.length : Int)), (35, .slice A1 l1.length c1)]) (l := []) (by kernel_rfl) trivial ?_
        refine ge_call (d := some 38) (f := 12) (args := #[.int .i64 (l1.length : Int), .int .i64 x3]) (by kernel_rfl) (small_ok (l1.length : Int) x3 _ _ rfl) ?_
        rintro _ w5 ⟨rfl, hS9⟩
        refine ⟨_, rfl, hS9.below, ?_⟩
        have hS10 := hS8.call hS9
        refine ge_batch [21, 22] (ans := []) (vs := [(40, .bool (!(small.f (l1.length : Int) x3))), (39, .bool (!(small.f (l1.length : Int) x3)))]) (l := []) (by kernel_rfl) trivial ?_
        refine ge_nil fun a hF => hK5 _ _ ?_ a hF
        by_cases hc5 : (small.f (l1.length : Int) x3) = true
        · rw [if_pos hc5] at h
          refine we_known (t := 40) (b := !(small.f (l1.length : Int) x3)) (v := false) (by kernel_rfl) (congrArg (fun z => !z) hc5) ?_
          refine we_false (by kernel_rfl) ?_
          obtain rfl := Option.some.inj h
          exact we_skip fun a hF => hQ _ _ _ (Outs.again ⟨hS10, hF.weaken ⟨by kernel_rfl, by kernel_rfl, by kernel_rfl, by kernel_rfl, trivial⟩⟩)
        · rw [if_neg hc5] at h
          refine we_known (t := 40) (b := !(small.f (l1.length : Int) x3)) (v := true) (by kernel_rfl) (congrArg (fun z => !z) (Bool.eq_false_iff.2 hc5)) ?_
          refine we_true (by kernel_rfl) ?_
          refine we_seq fun K6 hK6 => ?_
          refine we_region [(0, 0)] rfl ?_
          refine ge_batch [0] (ans := []) (vs := [(8, .bool true)]) (l := []) (by kernel_rfl) trivial ?_
          refine ge_nil fun a hF => hK6 _ _ ?_ a hF
          obtain rfl := Option.some.inj h
          exact we_ret fun a hF => hQ _ _ _ (Outs.out nofun ⟨rfl, (post_ret (rs := [.tmp 8]) (ans := []) (vs := [.bool true]) (l := []) rfl (by kernel_rfl) trivial ⟨rfl, hS10⟩) a hF⟩)
      · rw [if_neg hc4] at h
        refine ge_known (t := 34) (b := !(few.f (l2.length : Int))) (c := true) (by kernel_rfl) (congrArg (fun z => !z) (Bool.eq_false_iff.2 hc4)) ?_
        refine ge_batch [17, 18, 19] (ans := []) (vs := [(37, undef), (36, undef), (35, undef)]) (l := []) (by kernel_rfl) trivial ?_
        refine ge_off rfl rfl rfl (by kernel_rfl) ?_
        refine ge_batch [21, 22] (ans := []) (vs := [(40, .bool true), (39, undef)]) (l := []) (by kernel_rfl) trivial ?_
        refine ge_nil fun a hF => hK5 _ _ ?_ a hF
        refine we_true (by kernel_rfl) ?_
        refine we_seq fun K7 hK7 => ?_
        refine we_region [(0, 0)] rfl ?_
        refine ge_batch [0] (ans := []) (vs := [(8, .bool true)]) (l := []) (by kernel_rfl) trivial ?_
        refine ge_nil fun a hF => hK7 _ _ ?_ a hF
        obtain rfl := Option.some.inj h
        exact we_ret fun a hF => hQ _ _ _ (Outs.out nofun ⟨rfl, (post_ret (rs := [.tmp 8]) (ans := []) (vs := [.bool true]) (l := []) rfl (by kernel_rfl) trivial ⟨rfl, hS8⟩) a hF⟩)
    · rw [if_neg hc3] at h
      refine ge_known (t := 28) (b := !(few.f (l1.length : Int))) (c := true) (by kernel_rfl) (congrArg (fun z => !z) (Bool.eq_false_iff.2 hc3)) ?_
      refine ge_batch [11, 12] (ans := []) (vs := [(30, undef), (29, undef)]) (l := []) (by kernel_rfl) trivial ?_
      refine ge_off rfl rfl rfl (by kernel_rfl) ?_
      refine ge_batch [14, 15, 16, 17, 18, 19] (ans := []) (vs := [(37, undef), (36, undef), (35, undef), (34, .bool true), (33, .bool true), (32, undef)]) (l := []) (by kernel_rfl) trivial ?_
      refine ge_off rfl rfl rfl (by kernel_rfl) ?_
      refine ge_batch [21, 22] (ans := []) (vs := [(40, .bool true), (39, undef)]) (l := []) (by kernel_rfl) trivial ?_
      refine ge_nil fun a hF => hK5 _ _ ?_ a hF
      refine we_true (by kernel_rfl) ?_
      refine we_seq fun K8 hK8 => ?_
      refine we_region [(0, 0)] rfl ?_
      refine ge_batch [0] (ans := []) (vs := [(8, .bool true)]) (l := []) (by kernel_rfl) trivial ?_
      refine ge_nil fun a hF => hK8 _ _ ?_ a hF
      obtain rfl := Option.some.inj h
      exact we_ret fun a hF => hQ _ _ _ (Outs.out nofun ⟨rfl, (post_ret (rs := [.tmp 8]) (ans := []) (vs := [.bool true]) (l := []) rfl (by kernel_rfl) trivial ⟨rfl, hS6⟩) a hF⟩)
  · rw [if_neg hc2] at h
    refine ge_known (t := 22) (b := !(few.f (l0.length : Int))) (c := true) (by kernel_rfl) (congrArg (fun z => !z) (Bool.eq_false_iff.2 hc2)) ?_
    refine ge_batch [5, 6] (ans := []) (vs := [(24, undef), (23, undef)]) (l := []) (by kernel_rfl) trivial ?_
    refine ge_off rfl rfl rfl (by kernel_rfl) ?_
    refine ge_batch [8, 9, 10, 11, 12] (ans := []) (vs := [(30, undef), (29, undef), (28, .bool true), (27, .bool true), (26, undef)]) (l := []) (by kernel_rfl) trivial ?_
    refine ge_off rfl rfl rfl (by kernel_rfl) ?_
    refine ge_batch [14, 15, 16, 17, 18, 19] (ans := []) (vs := [(37, undef), (36, undef), (35, undef), (34, .bool true), (33, .bool true), (32, undef)]) (l := []) (by kernel_rfl) trivial ?_
    refine ge_off rfl rfl rfl (by kernel_rfl) ?_
    refine ge_batch [21, 22] (ans := []) (vs := [(40, .bool true), (39, undef)]) (l := []) (by kernel_rfl) trivial ?_
    refine ge_nil fun a hF => hK5 _ _ ?_ a hF
    refine we_true (by kernel_rfl) ?_
    refine we_seq fun K9 hK9 => ?_
    refine we_region [(0, 0)] rfl ?_
    refine ge_batch [0] (ans := []) (vs := [(8, .bool true)]) (l := []) (by kernel_rfl) trivial ?_
    refine ge_nil fun a hF => hK9 _ _ ?_ a hF
    obtain rfl := Option.some.inj h
    exact we_ret fun a hF => hQ _ _ _ (Outs.out nofun ⟨rfl, (post_ret (rs := [.tmp 8]) (ans := []) (vs := [.bool true]) (l := []) rfl (by kernel_rfl) trivial ⟨rfl, hS4⟩) a hF⟩)
theorem NetSends_ok (K : Nat) (l0 : List SFrame) (A0 : Option Addr) (c0 : Nat) (l1 : List SCome) (A1 : Option Addr) (c1 : Nat) (l2 : List Int) (A2 : Option Addr) (c2 : Nat) (x3 : Int) (w0 : World) (hR0 : RdL w0 A0 l0) (hL0 : l0.length ≤ c0) (hR1 : RdL w0 A1 l1) (hL1 : l1.length ≤ c1) (hR2 : RdL w0 A2 l2) (hL2 : l2.length ≤ c2) (hG0 : Glob w0 0 [.int .i64 (-9), .int .i64 0, .int .i64 0, .int .i64 0]) (hG1 : Glob w0 1 [.int .i64 (-9), .int .i64 0]) (r : Bool) (h : NetSends.f K l0 l1 l2 x3 = some r) :
    Calls Tryd.prog 3 #[.slice A0 l0.length c0, .slice A1 l1.length c1, .slice A2 l2.length c2, .int .i64 x3] w0 (NetSends.Post w0 r) := by
  have hS := St.start w0
  unfold NetSends.f at h
  refine calls_enter (n := 90) (args := [.slice A0 l0.length c0, .slice A1 l1.length c1, .slice A2 l2.length c2, .int .i64 x3]) (fn := Tryd.f3) rfl rfl rfl rfl ?_
  show WE _ _ _ _ [(0, .slice A0 l0.length c0), (1, .slice A1 l1.length c1), (2, .slice A2 l2.length c2), (3, .int .i64 x3)] _
  refine we_seq fun K1 hK1 => ?_
  refine we_region [(0, 0)] rfl ?_
  refine ge_batch [0] (ans := []) (vs := [(8, .bool false)]) (l := []) (by kernel_rfl) trivial ?_
  refine ge_nil fun a hF => hK1 _ _ ?_ a hF
  refine we_seq fun K2 hK2 => ?_
  refine we_seq fun K3 hK3 => ?_
  refine we_region [(0, 1), (1, 0)] rfl ?_
  rcases hq1 : bus.f K with _ | r1
  · rw [hq1] at h; cases h
  rw [hq1] at h
  simp only [] at h
  refine ge_call (d := some 16) (f := 10) (args := #[]) (by kernel_rfl) (bus_ok K _ _ hq1) ?_
  rintro _ w1 ⟨rfl, hS1⟩
  refine ⟨_, rfl, hS1.below, ?_⟩
  have hS2 := hS.call hS1
  refine ge_batch [1] (ans := []) (vs := [(17, .bool (!r1))]) (l := []) (by kernel_rfl) trivial ?_
  refine ge_nil fun a hF => hK3 _ _ ?_ a hF
  by_cases hc1 : r1 = true
  · rw [if_pos hc1] at h
    refine we_known (t := 17) (b := !r1) (v := false) (by kernel_rfl) (congrArg (fun z => !z) hc1) ?_
    refine we_false (by kernel_rfl) ?_
    refine we_skip fun a hF => hK2 _ _ ?_ a hF
    refine we_seq fun K4 hK4 => ?_
    rcases hq6 : NetSends.p0 l0 l1 l2 x3 with _ | (_ | rr1)
    · rw [hq6] at h; cases h
    · rw [hq6] at h
      simp only [] at h
      refine we_keep (e' := [(0, .slice A0 l0.length c0), (1, .slice A1 l1.length c1), (2, .slice A2 l2.length c2), (3, .int .i64 x3), (8, .bool false), (16, .bool r1), (17, .bool false)]) ⟨by kernel_rfl, by kernel_rfl, by kernel_rfl, by kernel_rfl, by kernel_rfl, by kernel_rfl, by kernel_rfl, trivial⟩ (NetSends_p0 K w0 l0 A0 c0 l1 A1 c1 l2 A2 c2 x3 hR0 hL0 hR1 hL1 hR2 hL2 hG0 hG1 r1 hc1 _ hq6 _ hS2 _ ?_)
      rintro _ a w6 ⟨rfl, hS11, hF⟩
      replace hS11 : St w0 w6 [] := hS11
      refine hK4 [(0, .slice A0 l0.length c0), (1, .slice A1 l1.length c1), (2, .slice A2 l2.length c2), (3, .int .i64 x3)] w6 ?_ a hF
      refine we_seq fun K10 hK10 => ?_
      refine we_draws (by kernel_rfl) [(0, 0), (1, 0), (3, 0), (4, 0), (6, 0), (2, 1), (5, 1), (7, 1), (8, 0), (9, 0), (10, 0)] (by kernel_rfl) ?_
      have hS12 := hS11.drew
      refine ge_batch [0, 1, 3, 4, 6] (ans := [.val (.int .i64 (-9)), .val (.int .i64 0), .val (.int .i64 0), .val (.int .i64 0), .val (.int .i64 (-9)), .val (.int .i64 0)]) (vs := [(47, .slice A2 l2.length c2), (45, .agg #[.int .i64 (-9), .int .i64 0]), (44, .slice A1 l1.length c1), (42, .agg #[.int .i64 (-9), .int .i64 0, .int .i64 0, .int .i64 0]), (41, .slice A0 l0.length c0)]) (l := [.loaded ⟨0, 0, none⟩ (.int .i64 (-9)), .loaded ⟨0, 1, none⟩ (.int .i64 0), .loaded ⟨0, 2, none⟩ (.int .i64 0), .loaded ⟨0, 3, none⟩ (.int .i64 0), .loaded ⟨1, 0, none⟩ (.int .i64 (-9)), .loaded ⟨1, 1, none⟩ (.int .i64 0)]) (by kernel_rfl) ⟨hS12.glob hG0 rfl, hS12.glob hG0 rfl, hS12.glob hG0 rfl, hS12.glob hG0 rfl, hS12.glob hG1 rfl, hS12.glob hG1 rfl, trivial⟩ ?_
      rcases hq7 : punctualsame_Lend_api_Frame.f l0 (⟨(-9), 0, 0, 0⟩ : SFrame) with _ | r2
      · rw [hq7] at h; cases h
      rw [hq7] at h
      simp only [] at h
      obtain rfl := punctualsame_Lend_api_Frame_full _ _ hq7
      refine ge_call (d := some 43) (f := 13) (args := #[.slice A0 l0.length c0, .agg #[.int .i64 (-9), .int .i64 0, .int .i64 0, .int .i64 0]]) (by kernel_rfl) (punctualsame_Lend_api_Frame_ok l0 A0 c0 (⟨(-9), 0, 0, 0⟩ : SFrame) _ (hS12.rd hR0) hL0 _ hq7) ?_
      rintro _ w7 ⟨Z1, cz1, rfl, hcp1, hS13⟩
      refine ⟨_, rfl, hS13.below, ?_⟩
      have hS14 := hS12.call hS13
      rcases hq8 : punctualsame_Lend_api_Come.f l1 (⟨(-9), 0⟩ : SCome) with _ | r3
      · rw [hq8] at h; cases h
      rw [hq8] at h
      simp only [] at h
      obtain rfl := punctualsame_Lend_api_Come_full _ _ hq8
      refine ge_call (d := some 46) (f := 14) (args := #[.slice A1 l1.length c1, .agg #[.int .i64 (-9), .int .i64 0]]) (by kernel_rfl) (punctualsame_Lend_api_Come_ok l1 A1 c1 (⟨(-9), 0⟩ : SCome) _ (hS14.rd hR1) hL1 _ hq8) ?_
      rintro _ w8 ⟨Z2, cz2, rfl, hcp2, hS15⟩
      refine ⟨_, rfl, hS15.below, ?_⟩
      have hS16 := hS14.call hS15
      rcases hq9 : punctualsame_Lend_int.f l2 (-9) with _ | r4
      · rw [hq9] at h; cases h
      rw [hq9] at h
      simp only [] at h
      obtain rfl := punctualsame_Lend_int_full _ _ hq9
      refine ge_call (d := some 48) (f := 15) (args := #[.slice A2 l2.length c2, .int .i64 (-9)]) (by kernel_rfl) (punctualsame_Lend_int_ok l2 A2 c2 (-9) _ (hS16.rd hR2) hL2 _ hq9) ?_
      rintro _ w9 ⟨Z3, cz3, rfl, hcp3, hS17⟩
      refine ⟨_, rfl, hS17.below, ?_⟩
      have hS18 := hS16.call hS17
      refine ge_batch [8, 9, 10] (ans := []) (vs := [(11, .slice Z3 l2.length cz3), (10, .slice Z2 l1.length cz2), (9, .slice Z1 l0.length cz1)]) (l := []) (by kernel_rfl) trivial ?_
      refine ge_nil fun a hF => hK10 _ _ ?_ a hF
      refine we_seq fun K11 hK11 => ?_
      refine we_region [(0, 0), (1, 0), (2, 0), (3, 0), (4, 1), (5, 0), (6, 0), (7, 0), (8, 1), (9, 1), (10, 2), (11, 2)] rfl ?_
      rcases hq10 : net_Send.f K l0 l1 l2 x3 with _ | r5
      · rw [hq10] at h; cases h
      rw [hq10] at h
      simp only [] at h
      refine ge_batch [0, 1, 2, 3] (ans := []) (vs := [(53, .int .i64 x3), (52, .slice Z3 l2.length cz3), (51, .slice Z2 l1.length cz2), (50, .slice Z1 l0.length cz1)]) (l := []) (by kernel_rfl) trivial ?_
      refine ge_call (d := some 54) (f := 16) (args := #[.slice Z1 l0.length cz1, .slice Z2 l1.length cz2, .slice Z3 l2.length cz3, .int .i64 x3]) (by kernel_rfl) (net_Send_ok K l0 Z1 cz1 l1 Z2 cz2 l2 Z3 cz3 x3 _ ((hS18.rdAt 2 rfl).pre) (by have h0 := hcp1; simp only [List.length_append, List.length_cons, List.length_nil] at h0; omega) ((hS18.rdAt 1 rfl).pre) (by have h0 := hcp2; simp only [List.length_append, List.length_cons, List.length_nil] at h0; omega) ((hS18.rdAt 0 rfl).pre) (by have h0 := hcp3; simp only [List.length_append, List.length_cons, List.length_nil] at h0; omega) _ hq10) ?_
      rintro _ w10 ⟨v1, v2, rfl, hS19⟩
      refine ⟨_, rfl, hS19.below, ?_⟩
      have hS20 := hS18.call hS19
      refine ge_batch [5, 6, 7] (ans := []) (vs := [(56, .agg #[.int .i64 r5.2.Code, .int .i64 r5.2.At]), (55, .agg #[v1, v2]), (49, .tuple #[.agg #[v1, v2], .agg #[.int .i64 r5.2.Code, .int .i64 r5.2.At]])]) (l := []) (by kernel_rfl) trivial ?_
      refine ge_new (d := some 12) (o := .cells #[.slice none 0 0, .slice none 0 0] 36) (v := fun b => .pointer (some ⟨b, 0, none⟩)) hS20 (fun b => by kernel_rfl) fun b1 w11 hx1 hS21 => ?_
      refine ge_new (d := some 13) (o := .cells #[.int .i64 0, .int .i64 0] 39) (v := fun b => .pointer (some ⟨b, 0, none⟩)) hS21 (fun b => by kernel_rfl) fun b2 w12 hx2 hS22 => ?_
      obtain ⟨Z4, cz4, rfl⟩ := hS22.open 2 rfl
      obtain ⟨Z5, cz5, rfl⟩ := hS22.open 3 rfl
      have hS23 := hS22.bring 1 rfl
      refine ge_set (b := b1) (j := 0) (cs := #[.slice none 0 0, .slice none 0 0]) (t := 36) (vs := [(.slice Z4 r5.1.Runs.length cz4), (.slice Z5 r5.1.Ends.length cz5)]) hS23 (by kernel_rfl) rfl rfl fun w13 hS24 => ?_
      have hS25 : St w0 w13 [Own.blk b1 (.cells #[(.slice Z4 r5.1.Runs.length cz4), (.slice Z5 r5.1.Ends.length cz5)] 36 (0, 0)), Own.blk b2 (.cells #[.int .i64 0, .int .i64 0] 39 (0, 0)), Own.of (.slice Z4 r5.1.Runs.length cz4) 3 r5.1.Runs, Own.of (.slice Z5 r5.1.Ends.length cz5) 3 r5.1.Ends, Own.of (.slice Z3 (l2 ++ [(-9), (-9), (-9)]).length cz3) 3 (l2 ++ [(-9), (-9), (-9)]), Own.of (.slice Z2 (l1 ++ [(⟨(-9), 0⟩ : SCome), (⟨(-9), 0⟩ : SCome), (⟨(-9), 0⟩ : SCome)]).length cz2) 33 (l1 ++ [(⟨(-9), 0⟩ : SCome), (⟨(-9), 0⟩ : SCome), (⟨(-9), 0⟩ : SCome)]), Own.of (.slice Z1 (l0 ++ [(⟨(-9), 0, 0, 0⟩ : SFrame), (⟨(-9), 0, 0, 0⟩ : SFrame), (⟨(-9), 0, 0, 0⟩ : SFrame)]).length cz1) 30 (l0 ++ [(⟨(-9), 0, 0, 0⟩ : SFrame), (⟨(-9), 0, 0, 0⟩ : SFrame), (⟨(-9), 0, 0, 0⟩ : SFrame)])] := hS24
      have hS26 := hS25.bring 1 rfl
      refine ge_set (b := b2) (j := 0) (cs := #[.int .i64 0, .int .i64 0]) (t := 39) (vs := [.int .i64 r5.2.Code, .int .i64 r5.2.At]) hS26 (by kernel_rfl) rfl rfl fun w14 hS27 => ?_
      have hS28 : St w0 w14 [Own.blk b2 (.cells #[.int .i64 r5.2.Code, .int .i64 r5.2.At] 39 (0, 0)), Own.blk b1 (.cells #[(.slice Z4 r5.1.Runs.length cz4), (.slice Z5 r5.1.Ends.length cz5)] 36 (0, 0)), Own.of (.slice Z4 r5.1.Runs.length cz4) 3 r5.1.Runs, Own.of (.slice Z5 r5.1.Ends.length cz5) 3 r5.1.Ends, Own.of (.slice Z3 (l2 ++ [(-9), (-9), (-9)]).length cz3) 3 (l2 ++ [(-9), (-9), (-9)]), Own.of (.slice Z2 (l1 ++ [(⟨(-9), 0⟩ : SCome), (⟨(-9), 0⟩ : SCome), (⟨(-9), 0⟩ : SCome)]).length cz2) 33 (l1 ++ [(⟨(-9), 0⟩ : SCome), (⟨(-9), 0⟩ : SCome), (⟨(-9), 0⟩ : SCome)]), Own.of (.slice Z1 (l0 ++ [(⟨(-9), 0, 0, 0⟩ : SFrame), (⟨(-9), 0, 0, 0⟩ : SFrame), (⟨(-9), 0, 0, 0⟩ : SFrame)]).length cz1) 30 (l0 ++ [(⟨(-9), 0, 0, 0⟩ : SFrame), (⟨(-9), 0, 0, 0⟩ : SFrame), (⟨(-9), 0, 0, 0⟩ : SFrame)])] := hS27
      refine ge_nil fun a hF => hK11 _ _ ?_ a hF
      refine we_seq fun K12 hK12 => ?_
      refine we_region [(0, 0), (1, 0), (2, 0), (3, 0), (4, 1), (5, 0), (6, 0), (7, 0), (8, 1), (9, 1), (10, 2), (11, 2)] rfl ?_
      rcases hq11 : punctualref_SendOf.f K l0 l1 l2 x3 with _ | r6
      · rw [hq11] at h; cases h
      rw [hq11] at h
      simp only [] at h
      refine ge_batch [0, 1, 2, 3] (ans := []) (vs := [(61, .int .i64 x3), (60, .slice A2 l2.length c2), (59, .slice A1 l1.length c1), (58, .slice A0 l0.length c0)]) (l := []) (by kernel_rfl) trivial ?_
      refine ge_call (d := some 62) (f := 17) (args := #[.slice A0 l0.length c0, .slice A1 l1.length c1, .slice A2 l2.length c2, .int .i64 x3]) (by kernel_rfl) (punctualref_SendOf_ok K l0 A0 c0 l1 A1 c1 l2 A2 c2 x3 _ (hS28.rd hR0) hL0 (hS28.rd hR1) hL1 (hS28.rd hR2) hL2 _ hq11) ?_
      rintro _ w15 ⟨v3, v4, rfl, hS29⟩
      refine ⟨_, rfl, hS29.below, ?_⟩
      have hS30 := hS28.call hS29
      refine ge_batch [5, 6, 7] (ans := []) (vs := [(64, .agg #[.int .i64 r6.2.Code, .int .i64 r6.2.At]), (63, .agg #[v3, v4]), (57, .tuple #[.agg #[v3, v4], .agg #[.int .i64 r6.2.Code, .int .i64 r6.2.At]])]) (l := []) (by kernel_rfl) trivial ?_
      refine ge_new (d := some 14) (o := .cells #[.slice none 0 0, .slice none 0 0] 36) (v := fun b => .pointer (some ⟨b, 0, none⟩)) hS30 (fun b => by kernel_rfl) fun b3 w16 hx3 hS31 => ?_
      refine ge_new (d := some 15) (o := .cells #[.int .i64 0, .int .i64 0] 39) (v := fun b => .pointer (some ⟨b, 0, none⟩)) hS31 (fun b => by kernel_rfl) fun b4 w17 hx4 hS32 => ?_
      obtain ⟨Z6, cz6, rfl⟩ := hS32.open 2 rfl
      obtain ⟨Z7, cz7, rfl⟩ := hS32.open 3 rfl
      have hS33 := hS32.bring 1 rfl
      refine ge_set (b := b3) (j := 0) (cs := #[.slice none 0 0, .slice none 0 0]) (t := 36) (vs := [(.slice Z6 r6.1.Runs.length cz6), (.slice Z7 r6.1.Ends.length cz7)]) hS33 (by kernel_rfl) rfl rfl fun w18 hS34 => ?_
      have hS35 : St w0 w18 [Own.blk b3 (.cells #[(.slice Z6 r6.1.Runs.length cz6), (.slice Z7 r6.1.Ends.length cz7)] 36 (0, 0)), Own.blk b4 (.cells #[.int .i64 0, .int .i64 0] 39 (0, 0)), Own.of (.slice Z6 r6.1.Runs.length cz6) 3 r6.1.Runs, Own.of (.slice Z7 r6.1.Ends.length cz7) 3 r6.1.Ends, Own.blk b2 (.cells #[.int .i64 r5.2.Code, .int .i64 r5.2.At] 39 (0, 0)), Own.blk b1 (.cells #[(.slice Z4 r5.1.Runs.length cz4), (.slice Z5 r5.1.Ends.length cz5)] 36 (0, 0)), Own.of (.slice Z4 r5.1.Runs.length cz4) 3 r5.1.Runs, Own.of (.slice Z5 r5.1.Ends.length cz5) 3 r5.1.Ends, Own.of (.slice Z3 (l2 ++ [(-9), (-9), (-9)]).length cz3) 3 (l2 ++ [(-9), (-9), (-9)]), Own.of (.slice Z2 (l1 ++ [(⟨(-9), 0⟩ : SCome), (⟨(-9), 0⟩ : SCome), (⟨(-9), 0⟩ : SCome)]).length cz2) 33 (l1 ++ [(⟨(-9), 0⟩ : SCome), (⟨(-9), 0⟩ : SCome), (⟨(-9), 0⟩ : SCome)]), Own.of (.slice Z1 (l0 ++ [(⟨(-9), 0, 0, 0⟩ : SFrame), (⟨(-9), 0, 0, 0⟩ : SFrame), (⟨(-9), 0, 0, 0⟩ : SFrame)]).length cz1) 30 (l0 ++ [(⟨(-9), 0, 0, 0⟩ : SFrame), (⟨(-9), 0, 0, 0⟩ : SFrame), (⟨(-9), 0, 0, 0⟩ : SFrame)])] := hS34
      have hS36 := hS35.bring 1 rfl
      refine ge_set (b := b4) (j := 0) (cs := #[.int .i64 0, .int .i64 0]) (t := 39) (vs := [.int .i64 r6.2.Code, .int .i64 r6.2.At]) hS36 (by kernel_rfl) rfl rfl fun w19 hS37 => ?_
      have hS38 : St w0 w19 [Own.blk b4 (.cells #[.int .i64 r6.2.Code, .int .i64 r6.2.At] 39 (0, 0)), Own.blk b3 (.cells #[(.slice Z6 r6.1.Runs.length cz6), (.slice Z7 r6.1.Ends.length cz7)] 36 (0, 0)), Own.of (.slice Z6 r6.1.Runs.length cz6) 3 r6.1.Runs, Own.of (.slice Z7 r6.1.Ends.length cz7) 3 r6.1.Ends, Own.blk b2 (.cells #[.int .i64 r5.2.Code, .int .i64 r5.2.At] 39 (0, 0)), Own.blk b1 (.cells #[(.slice Z4 r5.1.Runs.length cz4), (.slice Z5 r5.1.Ends.length cz5)] 36 (0, 0)), Own.of (.slice Z4 r5.1.Runs.length cz4) 3 r5.1.Runs, Own.of (.slice Z5 r5.1.Ends.length cz5) 3 r5.1.Ends, Own.of (.slice Z3 (l2 ++ [(-9), (-9), (-9)]).length cz3) 3 (l2 ++ [(-9), (-9), (-9)]), Own.of (.slice Z2 (l1 ++ [(⟨(-9), 0⟩ : SCome), (⟨(-9), 0⟩ : SCome), (⟨(-9), 0⟩ : SCome)]).length cz2) 33 (l1 ++ [(⟨(-9), 0⟩ : SCome), (⟨(-9), 0⟩ : SCome), (⟨(-9), 0⟩ : SCome)]), Own.of (.slice Z1 (l0 ++ [(⟨(-9), 0, 0, 0⟩ : SFrame), (⟨(-9), 0, 0, 0⟩ : SFrame), (⟨(-9), 0, 0, 0⟩ : SFrame)]).length cz1) 30 (l0 ++ [(⟨(-9), 0, 0, 0⟩ : SFrame), (⟨(-9), 0, 0, 0⟩ : SFrame), (⟨(-9), 0, 0, 0⟩ : SFrame)])] := hS37
      refine ge_nil fun a hF => hK12 _ _ ?_ a hF
      refine we_seq fun K13 hK13 => ?_
      refine we_region [(0, 0), (1, 0), (2, 0), (3, 0), (4, 0), (5, 0), (6, 1), (7, 0), (8, 0), (9, 0), (10, 0), (11, 0), (12, 1), (13, 0), (14, 0), (15, 0), (16, 0), (17, 0), (18, 1), (19, 0), (20, 0), (21, 0), (22, 0), (23, 1), (24, 0), (25, 0)] rfl ?_
      refine ge_batch [0, 1] (ans := [.val (.int .i64 r5.2.Code), .val (.int .i64 r5.2.At), .val (.int .i64 r6.2.Code), .val (.int .i64 r6.2.At)]) (vs := [(66, .agg #[.int .i64 r6.2.Code, .int .i64 r6.2.At]), (65, .agg #[.int .i64 r5.2.Code, .int .i64 r5.2.At])]) (l := [.loaded ⟨b2, 0, none⟩ (.int .i64 r5.2.Code), .loaded ⟨b2, 1, none⟩ (.int .i64 r5.2.At), .loaded ⟨b4, 0, none⟩ (.int .i64 r6.2.Code), .loaded ⟨b4, 1, none⟩ (.int .i64 r6.2.At)]) (by kernel_rfl) ⟨hS38.cell 4 rfl rfl, hS38.cell 4 rfl rfl, hS38.cell 0 rfl rfl, hS38.cell 0 rfl rfl, trivial⟩ ?_
      refine ge_eqs (d := 67) (ty := 4) (op := .eql) (x := (.tmp 65)) (y := (.tmp 66)) (t := 39) (t2 := 39) (xs := #[.int .i64 r5.2.Code, .int .i64 r5.2.At]) (ys := #[.int .i64 r6.2.Code, .int .i64 r6.2.At]) (r := (SFault.eqb r5.2 r6.2)) (v := (SFault.eqb r5.2 r6.2)) (by kernel_rfl) (by kernel_rfl) (by kernel_rfl) (by kernel_rfl) (by kernel_rfl) rfl ?_
      refine ge_batch [3] (ans := []) (vs := [(68, .bool (SFault.eqb r5.2 r6.2))]) (l := []) (by kernel_rfl) trivial ?_
      by_cases hc6 : (SFault.eqb r5.2 r6.2) = true
      · rw [if_pos hc6] at h
        refine ge_known (t := 68) (b := (SFault.eqb r5.2 r6.2)) (c := true) (by kernel_rfl) hc6 ?_
        rcases hq12 : punctualsame_Played.f K r5.1.Runs r5.1.Ends r6.1.Runs r6.1.Ends with _ | r7
        · rw [hq12] at h; cases h
        rw [hq12] at h
        simp only [] at h
        refine ge_batch [4, 5] (ans := [.val ((.slice Z4 r5.1.Runs.length cz4)), .val ((.slice Z5 r5.1.Ends.length cz5)), .val ((.slice Z6 r6.1.Runs.length cz6)), .val ((.slice Z7 r6.1.Ends.length cz7))]) (vs := [(70, .agg #[(.slice Z6 r6.1.Runs.length cz6), (.slice Z7 r6.1.Ends.length cz7)]), (69, .agg #[(.slice Z4 r5.1.Runs.length cz4), (.slice Z5 r5.1.Ends.length cz5)])]) (l := [.loaded ⟨b1, 0, none⟩ ((.slice Z4 r5.1.Runs.length cz4)), .loaded ⟨b1, 1, none⟩ ((.slice Z5 r5.1.Ends.length cz5)), .loaded ⟨b3, 0, none⟩ ((.slice Z6 r6.1.Runs.length cz6)), .loaded ⟨b3, 1, none⟩ ((.slice Z7 r6.1.Ends.length cz7))]) (by kernel_rfl) ⟨hS38.cell 5 rfl rfl, hS38.cell 5 rfl rfl, hS38.cell 1 rfl rfl, hS38.cell 1 rfl rfl, trivial⟩ ?_
        refine ge_call (d := some 71) (f := 18) (args := #[.agg #[(.slice Z4 r5.1.Runs.length cz4), (.slice Z5 r5.1.Ends.length cz5)], .agg #[(.slice Z6 r6.1.Runs.length cz6), (.slice Z7 r6.1.Ends.length cz7)]]) (by kernel_rfl) (punctualsame_Played_ok K r5.1.Runs Z4 cz4 r5.1.Ends Z5 cz5 r6.1.Runs Z6 cz6 r6.1.Ends Z7 cz7 _ (hS38.rdAt 6 rfl) (hS38.capAt 6 rfl) (hS38.rdAt 7 rfl) (hS38.capAt 7 rfl) (hS38.rdAt 2 rfl) (hS38.capAt 2 rfl) (hS38.rdAt 3 rfl) (hS38.capAt 3 rfl) _ hq12) ?_
        rintro _ w20 ⟨rfl, hS39⟩
        refine ⟨_, rfl, hS39.below, ?_⟩
        have hS40 := hS38.call hS39
        refine ge_batch [7, 8] (ans := []) (vs := [(73, .bool r7), (72, .bool r7)]) (l := []) (by kernel_rfl) trivial ?_
        by_cases hc7 : r7 = true
        · rw [if_pos hc7] at h
          refine ge_known (t := 73) (b := r7) (c := true) (by kernel_rfl) hc7 ?_
          refine ge_batch [9, 10, 11] (ans := [.val (.int .i64 (-9)), .val (.int .i64 0), .val (.int .i64 0), .val (.int .i64 0)]) (vs := [(76, .agg #[.int .i64 (-9), .int .i64 0, .int .i64 0, .int .i64 0]), (75, .slice A0 l0.length c0), (74, .slice Z1 l0.length cz1)]) (l := [.loaded ⟨0, 0, none⟩ (.int .i64 (-9)), .loaded ⟨0, 1, none⟩ (.int .i64 0), .loaded ⟨0, 2, none⟩ (.int .i64 0), .loaded ⟨0, 3, none⟩ (.int .i64 0)]) (by kernel_rfl) ⟨hS40.glob hG0 rfl, hS40.glob hG0 rfl, hS40.glob hG0 rfl, hS40.glob hG0 rfl, trivial⟩ ?_
          rcases hq13 : punctualsame_Still_api_Frame.f K (l0 ++ [(⟨(-9), 0, 0, 0⟩ : SFrame), (⟨(-9), 0, 0, 0⟩ : SFrame), (⟨(-9), 0, 0, 0⟩ : SFrame)]) l0 (⟨(-9), 0, 0, 0⟩ : SFrame) with _ | r8
          · rw [hq13] at h; cases h
          rw [hq13] at h
          simp only [] at h
          refine ge_call (d := some 77) (f := 19) (args := #[.slice Z1 l0.length cz1, .slice A0 l0.length c0, .agg #[.int .i64 (-9), .int .i64 0, .int .i64 0, .int .i64 0]]) (by kernel_rfl) (punctualsame_Still_api_Frame_ok K (l0 ++ [(⟨(-9), 0, 0, 0⟩ : SFrame), (⟨(-9), 0, 0, 0⟩ : SFrame), (⟨(-9), 0, 0, 0⟩ : SFrame)]) Z1 l0.length cz1 l0 A0 c0 (⟨(-9), 0, 0, 0⟩ : SFrame) _ (hS40.rdAt 10 rfl) hcp1 (hS40.rd hR0) hL0 _ hq13) ?_
          rintro _ w21 ⟨rfl, hS41⟩
          refine ⟨_, rfl, hS41.below, ?_⟩
          have hS42 := hS40.call hS41
          refine ge_batch [13, 14] (ans := []) (vs := [(79, .bool r8), (78, .bool r8)]) (l := []) (by kernel_rfl) trivial ?_
          by_cases hc8 : r8 = true
          · rw [if_pos hc8] at h
            refine ge_known (t := 79) (b := r8) (c := true) (by kernel_rfl) hc8 ?_
            refine ge_batch [15, 16, 17] (ans := [.val (.int .i64 (-9)), .val (.int .i64 0)]) (vs := [(82, .agg #[.int .i64 (-9), .int .i64 0]), (81, .slice A1 l1.length c1), (80, .slice Z2 l1.length cz2)]) (l := [.loaded ⟨1, 0, none⟩ (.int .i64 (-9)), .loaded ⟨1, 1, none⟩ (.int .i64 0)]) (by kernel_rfl) ⟨hS42.glob hG1 rfl, hS42.glob hG1 rfl, trivial⟩ ?_
            rcases hq14 : punctualsame_Still_api_Come.f K (l1 ++ [(⟨(-9), 0⟩ : SCome), (⟨(-9), 0⟩ : SCome), (⟨(-9), 0⟩ : SCome)]) l1 (⟨(-9), 0⟩ : SCome) with _ | r9
            · rw [hq14] at h; cases h
            rw [hq14] at h
            simp only [] at h
            refine ge_call (d := some 83) (f := 20) (args := #[.slice Z2 l1.length cz2, .slice A1 l1.length c1, .agg #[.int .i64 (-9), .int .i64 0]]) (by kernel_rfl) (punctualsame_Still_api_Come_ok K (l1 ++ [(⟨(-9), 0⟩ : SCome), (⟨(-9), 0⟩ : SCome), (⟨(-9), 0⟩ : SCome)]) Z2 l1.length cz2 l1 A1 c1 (⟨(-9), 0⟩ : SCome) _ (hS42.rdAt 9 rfl) hcp2 (hS42.rd hR1) hL1 _ hq14) ?_
            rintro _ w22 ⟨rfl, hS43⟩
            refine ⟨_, rfl, hS43.below, ?_⟩
            have hS44 := hS42.call hS43
            refine ge_batch [19, 20] (ans := []) (vs := [(85, .bool r9), (84, .bool r9)]) (l := []) (by kernel_rfl) trivial ?_
            by_cases hc9 : r9 = true
            · rw [if_pos hc9] at h
              refine ge_known (t := 85) (b := r9) (c := true) (by kernel_rfl) hc9 ?_
              refine ge_batch [21, 22] (ans := []) (vs := [(87, .slice A2 l2.length c2), (86, .slice Z3 l2.length cz3)]) (l := []) (by kernel_rfl) trivial ?_
              rcases hq15 : punctualsame_Still_int.f K (l2 ++ [(-9), (-9), (-9)]) l2 (-9) with _ | r10
              · rw [hq15] at h; cases h
              rw [hq15] at h
              simp only [] at h
              refine ge_call (d := some 88) (f := 21) (args := #[.slice Z3 l2.length cz3, .slice A2 l2.length c2, .int .i64 (-9)]) (by kernel_rfl) (punctualsame_Still_int_ok K (l2 ++ [(-9), (-9), (-9)]) Z3 l2.length cz3 l2 A2 c2 (-9) _ (hS44.rdAt 8 rfl) hcp3 (hS44.rd hR2) hL2 _ hq15) ?_
              rintro _ w23 ⟨rfl, hS45⟩
              refine ⟨_, rfl, hS45.below, ?_⟩
              have hS46 := hS44.call hS45
              refine ge_batch [24, 25] (ans := []) (vs := [(8, .bool r10), (89, .bool r10)]) (l := []) (by kernel_rfl) trivial ?_
              refine ge_nil fun a hF => hK13 _ _ ?_ a hF
              have hS47 := hS46.takeN 0
              obtain rfl := Option.some.inj h
              exact we_ret (post_ret (rs := [.tmp 8]) (ans := []) (vs := [.bool r10]) (l := []) rfl (by kernel_rfl) trivial ⟨rfl, hS47⟩)
            · rw [if_neg hc9] at h
              refine ge_known (t := 85) (b := r9) (c := false) (by kernel_rfl) (Bool.eq_false_iff.2 hc9) ?_
              refine ge_batch [21, 22] (ans := []) (vs := [(87, undef), (86, undef)]) (l := []) (by kernel_rfl) trivial ?_
              refine ge_off rfl rfl rfl (by kernel_rfl) ?_
              refine ge_batch [24, 25] (ans := []) (vs := [(8, .bool false), (89, .bool false)]) (l := []) (by kernel_rfl) trivial ?_
              refine ge_nil fun a hF => hK13 _ _ ?_ a hF
              have hS48 := hS44.takeN 0
              obtain rfl := Option.some.inj h
              exact we_ret (post_ret (rs := [.tmp 8]) (ans := []) (vs := [.bool false]) (l := []) rfl (by kernel_rfl) trivial ⟨rfl, hS48⟩)
          · rw [if_neg hc8] at h
            refine ge_known (t := 79) (b := r8) (c := false) (by kernel_rfl) (Bool.eq_false_iff.2 hc8) ?_
            refine ge_batch [15, 16, 17] (ans := []) (vs := [(82, undef), (81, undef), (80, undef)]) (l := []) (by kernel_rfl) trivial ?_
            refine ge_off rfl rfl rfl (by kernel_rfl) ?_
            refine ge_batch [19, 20, 21, 22] (ans := []) (vs := [(87, undef), (86, undef), (85, .bool false), (84, .bool false)]) (l := []) (by kernel_rfl) trivial ?_
            refine ge_off rfl rfl rfl (by kernel_rfl) ?_
            refine ge_batch [24, 25] (ans := []) (vs := [(8, .bool false), (89, .bool false)]) (l := []) (by kernel_rfl) trivial ?_
            refine ge_nil fun a hF => hK13 _ _ ?_ a hF
            have hS49 := hS42.takeN 0
            obtain rfl := Option.some.inj h
            exact we_ret (post_ret (rs := [.tmp 8]) (ans := []) (vs := [.bool false]) (l := []) rfl (by kernel_rfl) trivial ⟨rfl, hS49⟩)
        · rw [if_neg hc7] at h
          refine ge_known (t := 73) (b := r7) (c := false) (by kernel_rfl) (Bool.eq_false_iff.2 hc7) ?_
          refine ge_batch [9, 10, 11] (ans := []) (vs := [(76, undef), (75, undef), (74, undef)]) (l := []) (by kernel_rfl) trivial ?_
          refine ge_off rfl rfl rfl (by kernel_rfl) ?_
          refine ge_batch [13, 14, 15, 16, 17] (ans := []) (vs := [(82, undef), (81, undef), (80, undef), (79, .bool false), (78, .bool false)]) (l := []) (by kernel_rfl) trivial ?_
          refine ge_off rfl rfl rfl (by kernel_rfl) ?_
          refine ge_batch [19, 20, 21, 22] (ans := []) (vs := [(87, undef), (86, undef), (85, .bool false), (84, .bool false)]) (l := []) (by kernel_rfl) trivial ?_
          refine ge_off rfl rfl rfl (by kernel_rfl) ?_
          refine ge_batch [24, 25] (ans := []) (vs := [(8, .bool false), (89, .bool false)]) (l := []) (by kernel_rfl) trivial ?_
          refine ge_nil fun a hF => hK13 _ _ ?_ a hF
          have hS50 := hS40.takeN 0
          obtain rfl := Option.some.inj h
          exact we_ret (post_ret (rs := [.tmp 8]) (ans := []) (vs := [.bool false]) (l := []) rfl (by kernel_rfl) trivial ⟨rfl, hS50⟩)
      · rw [if_neg hc6] at h
        refine ge_known (t := 68) (b := (SFault.eqb r5.2 r6.2)) (c := false) (by kernel_rfl) (Bool.eq_false_iff.2 hc6) ?_
        refine ge_batch [4, 5] (ans := []) (vs := [(70, undef), (69, undef)]) (l := []) (by kernel_rfl) trivial ?_
        refine ge_off rfl rfl rfl (by kernel_rfl) ?_
        refine ge_batch [7, 8, 9, 10, 11] (ans := []) (vs := [(76, undef), (75, undef), (74, undef), (73, .bool false), (72, .bool false)]) (l := []) (by kernel_rfl) trivial ?_
        refine ge_off rfl rfl rfl (by kernel_rfl) ?_
        refine ge_batch [13, 14, 15, 16, 17] (ans := []) (vs := [(82, undef), (81, undef), (80, undef), (79, .bool false), (78, .bool false)]) (l := []) (by kernel_rfl) trivial ?_
        refine ge_off rfl rfl rfl (by kernel_rfl) ?_
        refine ge_batch [19, 20, 21, 22] (ans := []) (vs := [(87, undef), (86, undef), (85, .bool false), (84, .bool false)]) (l := []) (by kernel_rfl) trivial ?_
        refine ge_off rfl rfl rfl (by kernel_rfl) ?_
        refine ge_batch [24, 25] (ans := []) (vs := [(8, .bool false), (89, .bool false)]) (l := []) (by kernel_rfl) trivial ?_
        refine ge_nil fun a hF => hK13 _ _ ?_ a hF
        have hS51 := hS38.takeN 0
        obtain rfl := Option.some.inj h
        exact we_ret (post_ret (rs := [.tmp 8]) (ans := []) (vs := [.bool false]) (l := []) rfl (by kernel_rfl) trivial ⟨rfl, hS51⟩)
    · rw [hq6] at h
      simp only [] at h
      refine we_keep (e' := [(0, .slice A0 l0.length c0), (1, .slice A1 l1.length c1), (2, .slice A2 l2.length c2), (3, .int .i64 x3), (8, .bool false), (16, .bool r1), (17, .bool false)]) ⟨by kernel_rfl, by kernel_rfl, by kernel_rfl, by kernel_rfl, by kernel_rfl, by kernel_rfl, by kernel_rfl, trivial⟩ (NetSends_p0 K w0 l0 A0 c0 l1 A1 c1 l2 A2 c2 x3 hR0 hL0 hR1 hL1 hR2 hL2 hG0 hG1 r1 hc1 _ hq6 _ hS2 _ ?_)
      rintro _ a w1 ⟨_, rfl, hb⟩
      obtain rfl := Option.some.inj h
      exact hb
  · rw [if_neg hc1] at h
    refine we_known (t := 17) (b := !r1) (v := true) (by kernel_rfl) (congrArg (fun z => !z) (Bool.eq_false_iff.2 hc1)) ?_
    refine we_true (by kernel_rfl) ?_
    refine we_seq fun K14 hK14 => ?_
    refine we_region [(0, 0)] rfl ?_
    refine ge_batch [0] (ans := []) (vs := [(8, .bool false)]) (l := []) (by kernel_rfl) trivial ?_
    refine ge_nil fun a hF => hK14 _ _ ?_ a hF
    obtain rfl := Option.some.inj h
    exact we_ret (post_ret (rs := [.tmp 8]) (ans := []) (vs := [.bool false]) (l := []) rfl (by kernel_rfl) trivial ⟨rfl, hS2⟩)
end Go.Proofs.YtcogbnkioobmkaaDoor.GV
