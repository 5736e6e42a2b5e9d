/- Walks of single functions, written by a program of this work. -/
import Derived.Test.YtnckikjcjgmdlaaGWCompileMakes2
namespace Go.Proofs.Ytnckikjcjgmdlaa.GV
open Go Go.RowKit
set_option linter.unusedVariables false
set_option linter.unusedSimpArgs false
set_option maxRecDepth 100000

/-! (*punctual/compile.maker).unless -/
abbrev compile_maker_unless.Post (w0:World) (Z:Zone) (bp0:Nat) (lp0_0:List SIns) (Ap0_0:OA) (cp0_0:Nat) (sp0_1 x1_0 x1_1_0 x1_1_1:Int) (l1_1_2:List SExpr) (A1_1_2:OA) (c1_1_2:Nat) (x1_2_0 x1_2_1:Int) (l1_2_2:List SExpr) (A1_2_2:OA) (c1_2_2:Nat) (LT:List Own) (r:Int×(List SIns)) (e:Ending) (w:World):Prop:=∃ (nbp0_0:Value),e=.returned (vI r.1)∧St w0 w [bk bp0 #[nbp0_0,vI sp0_1] 123,Own.of nbp0_0 29 r.2,Own.all LT]
def compile_maker_unless.f (K : Nat) (lp0_0 : List SIns) (sp0_1 : Int) (x1_0 : Int) (x1_1_0 : Int) (x1_1_1 : Int) (l1_1_2 : List SExpr) (x1_2_0 : Int) (x1_2_1 : Int) (l1_2_2 : List SExpr) : Option (Int × (List SIns)) :=
 match compile_maker_value.f K lp0_0 sp0_1 x1_1_0 x1_1_1 l1_1_2 with
 | none=>none
 | some r1 =>
  match compile_maker_value.f K r1 sp0_1 x1_2_0 x1_2_1 l1_2_2 with
  | none=>none
  | some r2 =>
   if x1_0=2 then
    match compile_maker_put.f r2 sp0_1 8 0 0 with
    | none=>none
    | some r3 =>
     if x1_0=3 then
      match compile_maker_put.f r3.2 sp0_1 1 0 0 with
      | none=>none
      | some r4 =>
       match compile_maker_put.f r4.2 sp0_1 8 0 0 with
       | none=>none
       | some r5 =>
        match compile_maker_put.f r5.2 sp0_1 12 0 0 with
        | none=>none
        | some r6 =>
         some (r6.1,r6.2)
     else
      if x1_0=4 then
       match compile_maker_put.f r3.2 sp0_1 1 0 0 with
       | none=>none
       | some r7 =>
        match compile_maker_put.f r7.2 sp0_1 8 0 0 with
        | none=>none
        | some r8 =>
         match compile_maker_put.f r8.2 sp0_1 12 0 0 with
         | none=>none
         | some r9 =>
          some (r9.1,r9.2)
      else
       match compile_maker_put.f r3.2 sp0_1 12 0 0 with
       | none=>none
       | some r10 =>
        some (r10.1,r10.2)
   else
    if x1_0=3 then
     match compile_maker_put.f r2 sp0_1 8 0 0 with
     | none=>none
     | some r11 =>
      match compile_maker_put.f r11.2 sp0_1 1 0 0 with
      | none=>none
      | some r12 =>
       match compile_maker_put.f r12.2 sp0_1 8 0 0 with
       | none=>none
       | some r13 =>
        match compile_maker_put.f r13.2 sp0_1 12 0 0 with
        | none=>none
        | some r14 =>
         some (r14.1,r14.2)
    else
     match compile_maker_put.f r2 sp0_1 7 0 0 with
     | none=>none
     | some r15 =>
      if x1_0=4 then
       match compile_maker_put.f r15.2 sp0_1 1 0 0 with
       | none=>none
       | some r16 =>
        match compile_maker_put.f r16.2 sp0_1 8 0 0 with
        | none=>none
        | some r17 =>
         match compile_maker_put.f r17.2 sp0_1 12 0 0 with
         | none=>none
         | some r18 =>
          some (r18.1,r18.2)
      else
       match compile_maker_put.f r15.2 sp0_1 12 0 0 with
       | none=>none
       | some r19 =>
        some (r19.1,r19.2)
theorem compile_maker_unless_ok (K:Nat) (Z:Zone) (bp0:Nat) (lp0_0:List SIns) (Ap0_0:OA) (cp0_0:Nat) (sp0_1 x1_0 x1_1_0 x1_1_1:Int) (l1_1_2:List SExpr) (A1_1_2:OA) (c1_1_2:Nat) (x1_2_0 x1_2_1:Int) (l1_2_2:List SExpr) (A1_2_2:OA) (c1_2_2:Nat) (w0 wE:World) (LT:List Own) (hS:St w0 wE [bk bp0 #[(.slice Ap0_0 lp0_0.length cp0_0),vI sp0_1] 123,ro Ap0_0 cp0_0 29 lp0_0,Own.all LT]) (hZ:∀ w L,St w0 w (Own.all LT::L)→∀ w',Sub w w'→Z w') (hR1_1_2:RdZ Z A1_1_2 l1_1_2) (hL1_1_2:l1_1_2.length≤c1_1_2) (hR1_2_2:RdZ Z A1_2_2 l1_2_2) (hL1_2_2:l1_2_2.length≤c1_2_2) (r:Int×(List SIns)) (h:compile_maker_unless.f K lp0_0 sp0_1 x1_0 x1_1_0 x1_1_1 l1_1_2 x1_2_0 x1_2_1 l1_2_2=some r) :
  Calls Try.prog 110 #[pP bp0 0,.agg #[vI x1_0,vI x1_1_0,vI x1_1_1,.slice A1_1_2 l1_1_2.length c1_1_2,vI x1_2_0,vI x1_2_1,.slice A1_2_2 l1_2_2.length c1_2_2]] wE (compile_maker_unless.Post w0 Z bp0 lp0_0 Ap0_0 cp0_0 sp0_1 x1_0 x1_1_0 x1_1_1 l1_1_2 A1_1_2 c1_1_2 x1_2_0 x1_2_1 l1_2_2 A1_2_2 c1_2_2 LT r):=by
 unfold compile_maker_unless.f at h
 refine calls_enter (n:=39) (args:=[pP bp0 0,.agg #[vI x1_0,vI x1_1_0,vI x1_1_1,.slice A1_1_2 l1_1_2.length c1_1_2,vI x1_2_0,vI x1_2_1,.slice A1_2_2 l1_2_2.length c1_2_2]]) (fn:=Try.f110) rfl rfl rfl rfl ?_
 show WE _ _ _ _ [(0,pP bp0 0),(1,.agg #[vI x1_0,vI x1_1_0,vI x1_1_1,.slice A1_1_2 l1_1_2.length c1_1_2,vI x1_2_0,vI x1_2_1,.slice A1_2_2 l1_2_2.length c1_2_2])] _
 refine ws fun K1 hK1=>wr [(0,1),(1,0)]<|gw (some 3) (.cells #[vI x1_0,vI x1_1_0,vI x1_1_1,.slice A1_1_2 l1_1_2.length c1_1_2,vI x1_2_0,vI x1_2_1,.slice A1_2_2 l1_2_2.length c1_2_2] 47) (fun b=>pP b 0) hS fun b1 w1 hx1 hS1=>?_
 refine gb0 [1] [(4,vI 0)]<|gn hK1<|ws fun K2 hK2=>wr [(0,0),(1,0),(2,0),(3,2)]<|gb [0,1,2] [(7,.agg #[vI x1_1_0,vI x1_1_1,.slice A1_1_2 l1_1_2.length c1_1_2]),(6,pP b1 1),(5,pP bp0 0)] [ld b1 1 (vI x1_1_0),ld b1 2 (vI x1_1_1),ld b1 3 (.slice A1_1_2 l1_1_2.length c1_1_2)] ⟨hS1.c 0,hS1.c 0,hS1.c 0,trivial⟩ ?_
 rcases hq1:compile_maker_value.f K lp0_0 sp0_1 x1_1_0 x1_1_1 l1_1_2 with _ | r1
 ·rw [hq1] at h; cases h
 rw [hq1] at h
 simp only [] at h
 have hS5:=((hS1.b 2).b 2).packN 2
 refine ge_call2 (m:=0) (d:=some 8) (f:=108) (args:=#[pP bp0 0,.agg #[vI x1_1_0,vI x1_1_1,.slice A1_1_2 l1_1_2.length c1_1_2]]) (by kernel_rfl) (compile_maker_value_ok K Z bp0 lp0_0 Ap0_0 cp0_0 sp0_1 x1_1_0 x1_1_1 l1_1_2 A1_1_2 c1_1_2 _ _ _ hS5 (fun w L h w' k=>(hZ _ _ (h.spread.bring 1 rfl) w' k)) hR1_1_2 hL1_1_2 _ hq1) ?_
 rintro _ w2 ⟨v1,rfl,hS4⟩
 refine ⟨_,rfl,?_⟩
 have hS6:=hS4.unpack [bk bp0 #[v1,vI sp0_1] 123,Own.of v1 29 r1]
 refine gn hK2<|ws fun K3 hK3=>wr [(0,0),(1,0),(2,0),(3,2)]<|gb [0,1,2] [(11,.agg #[vI x1_2_0,vI x1_2_1,.slice A1_2_2 l1_2_2.length c1_2_2]),(10,pP b1 4),(9,pP bp0 0)] [ld b1 4 (vI x1_2_0),ld b1 5 (vI x1_2_1),ld b1 6 (.slice A1_2_2 l1_2_2.length c1_2_2)] ⟨hS6.c 2,hS6.c 2,hS6.c 2,trivial⟩ ?_
 obtain ⟨Z1,cz1,rfl⟩:=hS6.open 1 rfl
 rcases hq2:compile_maker_value.f K r1 sp0_1 x1_2_0 x1_2_1 l1_2_2 with _ | r2
 ·rw [hq2] at h; cases h
 rw [hq2] at h
 simp only [] at h
 have hS10:=((hS6.b 1).b 1).packN 2
 refine ge_call2 (m:=0) (d:=some 12) (f:=108) (args:=#[pP bp0 0,.agg #[vI x1_2_0,vI x1_2_1,.slice A1_2_2 l1_2_2.length c1_2_2]]) (by kernel_rfl) (compile_maker_value_ok K Z bp0 r1 Z1 cz1 sp0_1 x1_2_0 x1_2_1 l1_2_2 A1_2_2 c1_2_2 _ _ _ hS10 (fun w L h w' k=>(hZ _ _ (h.spread.bring 1 rfl) w' k)) hR1_2_2 hL1_2_2 _ hq2) ?_
 rintro _ w3 ⟨v2,rfl,hS9⟩
 refine ⟨_,rfl,?_⟩
 have hS11:=hS9.unpack [bk bp0 #[v2,vI sp0_1] 123,Own.of v2 29 r2]
 refine gn hK3<|ws fun K4 hK4=>ws fun K5 hK5=>wr [(0,0),(1,0),(2,0),(3,0),(4,0),(5,0),(6,0),(7,0)]<|gb [0,1,2,3] [(16,.bool (x1_0==2)),(15,.bool (x1_0==2)),(14,vI x1_0),(13,pP b1 0)] [ld b1 0 (vI x1_0)] ⟨hS11.c 2,trivial⟩ ?_
 by_cases hc1:x1_0=2
 ·rw [if_pos hc1] at h
  refine gk 16 (x1_0==2) true (beq_iff_eq.2 hc1)<|gb0 [4,5,6,7] [(20,.bool true),(19,undef),(18,undef),(17,undef)]<|gn hK5<|wt<|wr [(0,0),(1,2)]<|gb0 [0] [(21,pP bp0 0)] ?_
  obtain ⟨Z2,cz2,rfl⟩:=hS11.open 1 rfl
  rcases hq3:compile_maker_put.f r2 sp0_1 8 0 0 with _ | r3
  ·rw [hq3] at h; cases h
  rw [hq3] at h
  simp only [] at h
  have hS15:=((hS11.b 1).b 1).packN 2
  refine ge_call2 (m:=0) (d:=some 22) (f:=109) (args:=#[pP bp0 0,vI 8,vI 0,vI 0]) (by kernel_rfl) (compile_maker_put_ok bp0 r2 Z2 cz2 sp0_1 8 0 0 _ _ _ hS15 _ hq3) ?_
  rintro _ w4 ⟨v3,rfl,hS14⟩
  refine ⟨_,rfl,?_⟩
  have hS16:=hS14.unpack [bk bp0 #[v3,vI sp0_1] 123,Own.of v3 29 r3.2]
  refine gn hK4<|ws fun K6 hK6=>ws fun K7 hK7=>wr [(0,0),(1,0),(2,0),(3,0),(4,0),(5,0),(6,0),(7,0)]<|gb [0,1,2,3] [(28,.bool (x1_0==3)),(27,.bool (x1_0==3)),(26,vI x1_0),(25,pP b1 0)] [ld b1 0 (vI x1_0)] ⟨hS16.c 2,trivial⟩ ?_
  by_cases hc2:x1_0=3
  ·rw [if_pos hc2] at h
   refine gk 28 (x1_0==3) true (beq_iff_eq.2 hc2)<|gb0 [4,5,6,7] [(32,.bool true),(31,undef),(30,undef),(29,undef)]<|gn hK7<|wt<|ws fun K8 hK8=>wr [(0,0),(1,2)]<|gb0 [0] [(33,pP bp0 0)] ?_
   obtain ⟨Z3,cz3,rfl⟩:=hS16.open 1 rfl
   rcases hq4:compile_maker_put.f r3.2 sp0_1 1 0 0 with _ | r4
   ·rw [hq4] at h; cases h
   rw [hq4] at h
   simp only [] at h
   have hS20:=((hS16.b 1).b 1).packN 2
   refine ge_call2 (m:=0) (d:=some 34) (f:=109) (args:=#[pP bp0 0,vI 1,vI 0,vI 0]) (by kernel_rfl) (compile_maker_put_ok bp0 r3.2 Z3 cz3 sp0_1 1 0 0 _ _ _ hS20 _ hq4) ?_
   rintro _ w5 ⟨v4,rfl,hS19⟩
   refine ⟨_,rfl,?_⟩
   have hS21:=hS19.unpack [bk bp0 #[v4,vI sp0_1] 123,Own.of v4 29 r4.2]
   refine gn hK8<|wr [(0,0),(1,2)]<|gb0 [0] [(35,pP bp0 0)] ?_
   obtain ⟨Z4,cz4,rfl⟩:=hS21.open 1 rfl
   rcases hq5:compile_maker_put.f r4.2 sp0_1 8 0 0 with _ | r5
   ·rw [hq5] at h; cases h
   rw [hq5] at h
   simp only [] at h
   have hS25:=((hS21.b 1).b 1).packN 2
   refine ge_call2 (m:=0) (d:=some 36) (f:=109) (args:=#[pP bp0 0,vI 8,vI 0,vI 0]) (by kernel_rfl) (compile_maker_put_ok bp0 r4.2 Z4 cz4 sp0_1 8 0 0 _ _ _ hS25 _ hq5) ?_
   rintro _ w6 ⟨v5,rfl,hS24⟩
   refine ⟨_,rfl,?_⟩
   have hS26:=hS24.unpack [bk bp0 #[v5,vI sp0_1] 123,Own.of v5 29 r5.2]
   refine gn hK6<|ws fun K9 hK9=>wr [(0,0),(1,2),(2,0)]<|gb0 [0] [(37,pP bp0 0)] ?_
   obtain ⟨Z5,cz5,rfl⟩:=hS26.open 1 rfl
   rcases hq6:compile_maker_put.f r5.2 sp0_1 12 0 0 with _ | r6
   ·rw [hq6] at h; cases h
   rw [hq6] at h
   simp only [] at h
   have hS30:=((hS26.b 1).b 1).packN 2
   refine ge_call2 (m:=0) (d:=some 38) (f:=109) (args:=#[pP bp0 0,vI 12,vI 0,vI 0]) (by kernel_rfl) (compile_maker_put_ok bp0 r5.2 Z5 cz5 sp0_1 12 0 0 _ _ _ hS30 _ hq6) ?_
   rintro _ w7 ⟨v6,rfl,hS29⟩
   refine ⟨_,rfl,?_⟩
   have hS31:=hS29.unpack [bk bp0 #[v6,vI sp0_1] 123,Own.of v6 29 r6.2]
   refine gb0 [2] [(4,vI r6.1)]<|gn hK9 ?_
   have hS35:=hS31.p [0,1,3] rfl
   obtain rfl:=si h
   exact we_ret (pr0 [.tmp 4] [vI r6.1] ⟨v6,rfl,hS35⟩)
  rw [if_neg hc2] at h
  refine gk 28 (x1_0==3) false (beq_eq_false_iff_ne.2 hc2)<|gb [4,5,6,7] [(32,.bool (x1_0==4)),(31,.bool (x1_0==4)),(30,vI x1_0),(29,pP b1 0)] [ld b1 0 (vI x1_0)] ⟨hS16.c 2,trivial⟩<|gn hK7 ?_
  by_cases hc3:x1_0=4
  ·rw [if_pos hc3] at h
   refine wk 32 (x1_0==4) true (beq_iff_eq.2 hc3)<|wt<|ws fun K10 hK10=>wr [(0,0),(1,2)]<|gb0 [0] [(33,pP bp0 0)] ?_
   obtain ⟨Z6,cz6,rfl⟩:=hS16.open 1 rfl
   rcases hq7:compile_maker_put.f r3.2 sp0_1 1 0 0 with _ | r7
   ·rw [hq7] at h; cases h
   rw [hq7] at h
   simp only [] at h
   have hS39:=((hS16.b 1).b 1).packN 2
   refine ge_call2 (m:=0) (d:=some 34) (f:=109) (args:=#[pP bp0 0,vI 1,vI 0,vI 0]) (by kernel_rfl) (compile_maker_put_ok bp0 r3.2 Z6 cz6 sp0_1 1 0 0 _ _ _ hS39 _ hq7) ?_
   rintro _ w8 ⟨v7,rfl,hS38⟩
   refine ⟨_,rfl,?_⟩
   have hS40:=hS38.unpack [bk bp0 #[v7,vI sp0_1] 123,Own.of v7 29 r7.2]
   refine gn hK10<|wr [(0,0),(1,2)]<|gb0 [0] [(35,pP bp0 0)] ?_
   obtain ⟨Z7,cz7,rfl⟩:=hS40.open 1 rfl
   rcases hq8:compile_maker_put.f r7.2 sp0_1 8 0 0 with _ | r8
   ·rw [hq8] at h; cases h
   rw [hq8] at h
   simp only [] at h
   have hS44:=((hS40.b 1).b 1).packN 2
   refine ge_call2 (m:=0) (d:=some 36) (f:=109) (args:=#[pP bp0 0,vI 8,vI 0,vI 0]) (by kernel_rfl) (compile_maker_put_ok bp0 r7.2 Z7 cz7 sp0_1 8 0 0 _ _ _ hS44 _ hq8) ?_
   rintro _ w9 ⟨v8,rfl,hS43⟩
   refine ⟨_,rfl,?_⟩
   have hS45:=hS43.unpack [bk bp0 #[v8,vI sp0_1] 123,Own.of v8 29 r8.2]
   refine gn hK6<|ws fun K11 hK11=>wr [(0,0),(1,2),(2,0)]<|gb0 [0] [(37,pP bp0 0)] ?_
   obtain ⟨Z8,cz8,rfl⟩:=hS45.open 1 rfl
   rcases hq9:compile_maker_put.f r8.2 sp0_1 12 0 0 with _ | r9
   ·rw [hq9] at h; cases h
   rw [hq9] at h
   simp only [] at h
   have hS49:=((hS45.b 1).b 1).packN 2
   refine ge_call2 (m:=0) (d:=some 38) (f:=109) (args:=#[pP bp0 0,vI 12,vI 0,vI 0]) (by kernel_rfl) (compile_maker_put_ok bp0 r8.2 Z8 cz8 sp0_1 12 0 0 _ _ _ hS49 _ hq9) ?_
   rintro _ w10 ⟨v9,rfl,hS48⟩
   refine ⟨_,rfl,?_⟩
   have hS50:=hS48.unpack [bk bp0 #[v9,vI sp0_1] 123,Own.of v9 29 r9.2]
   refine gb0 [2] [(4,vI r9.1)]<|gn hK11 ?_
   have hS54:=hS50.p [0,1,3] rfl
   obtain rfl:=si h
   exact we_ret (pr0 [.tmp 4] [vI r9.1] ⟨v9,rfl,hS54⟩)
  rw [if_neg hc3] at h
  refine wk 32 (x1_0==4) false (beq_eq_false_iff_ne.2 hc3)<|wf<|we_skip fun a hF=>hK6 _ _ ?_ a hF
  refine ws fun K12 hK12=>wr [(0,0),(1,2),(2,0)]<|gb0 [0] [(37,pP bp0 0)] ?_
  obtain ⟨Z9,cz9,rfl⟩:=hS16.open 1 rfl
  rcases hq10:compile_maker_put.f r3.2 sp0_1 12 0 0 with _ | r10
  ·rw [hq10] at h; cases h
  rw [hq10] at h
  simp only [] at h
  have hS58:=((hS16.b 1).b 1).packN 2
  refine ge_call2 (m:=0) (d:=some 38) (f:=109) (args:=#[pP bp0 0,vI 12,vI 0,vI 0]) (by kernel_rfl) (compile_maker_put_ok bp0 r3.2 Z9 cz9 sp0_1 12 0 0 _ _ _ hS58 _ hq10) ?_
  rintro _ w11 ⟨v10,rfl,hS57⟩
  refine ⟨_,rfl,?_⟩
  have hS59:=hS57.unpack [bk bp0 #[v10,vI sp0_1] 123,Own.of v10 29 r10.2]
  refine gb0 [2] [(4,vI r10.1)]<|gn hK12 ?_
  have hS63:=hS59.p [0,1,3] rfl
  obtain rfl:=si h
  exact we_ret (pr0 [.tmp 4] [vI r10.1] ⟨v10,rfl,hS63⟩)
 rw [if_neg hc1] at h
 refine gk 16 (x1_0==2) false (beq_eq_false_iff_ne.2 hc1)<|gb [4,5,6,7] [(20,.bool (x1_0==3)),(19,.bool (x1_0==3)),(18,vI x1_0),(17,pP b1 0)] [ld b1 0 (vI x1_0)] ⟨hS11.c 2,trivial⟩<|gn hK5 ?_
 by_cases hc4:x1_0=3
 ·rw [if_pos hc4] at h
  refine wk 20 (x1_0==3) true (beq_iff_eq.2 hc4)<|wt<|wr [(0,0),(1,2)]<|gb0 [0] [(21,pP bp0 0)] ?_
  obtain ⟨Z10,cz10,rfl⟩:=hS11.open 1 rfl
  rcases hq11:compile_maker_put.f r2 sp0_1 8 0 0 with _ | r11
  ·rw [hq11] at h; cases h
  rw [hq11] at h
  simp only [] at h
  have hS67:=((hS11.b 1).b 1).packN 2
  refine ge_call2 (m:=0) (d:=some 22) (f:=109) (args:=#[pP bp0 0,vI 8,vI 0,vI 0]) (by kernel_rfl) (compile_maker_put_ok bp0 r2 Z10 cz10 sp0_1 8 0 0 _ _ _ hS67 _ hq11) ?_
  rintro _ w12 ⟨v11,rfl,hS66⟩
  refine ⟨_,rfl,?_⟩
  have hS68:=hS66.unpack [bk bp0 #[v11,vI sp0_1] 123,Own.of v11 29 r11.2]
  refine gn hK4<|ws fun K13 hK13=>ws fun K14 hK14=>wr [(0,0),(1,0),(2,0),(3,0),(4,0),(5,0),(6,0),(7,0)]<|gb [0,1,2,3] [(28,.bool (x1_0==3)),(27,.bool (x1_0==3)),(26,vI x1_0),(25,pP b1 0)] [ld b1 0 (vI x1_0)] ⟨hS68.c 2,trivial⟩<|gk 28 (x1_0==3) true (beq_iff_eq.2 hc4)<|gb0 [4,5,6,7] [(32,.bool true),(31,undef),(30,undef),(29,undef)]<|gn hK14<|wt<|ws fun K15 hK15=>wr [(0,0),(1,2)]<|gb0 [0] [(33,pP bp0 0)] ?_
  obtain ⟨Z11,cz11,rfl⟩:=hS68.open 1 rfl
  rcases hq12:compile_maker_put.f r11.2 sp0_1 1 0 0 with _ | r12
  ·rw [hq12] at h; cases h
  rw [hq12] at h
  simp only [] at h
  have hS72:=((hS68.b 1).b 1).packN 2
  refine ge_call2 (m:=0) (d:=some 34) (f:=109) (args:=#[pP bp0 0,vI 1,vI 0,vI 0]) (by kernel_rfl) (compile_maker_put_ok bp0 r11.2 Z11 cz11 sp0_1 1 0 0 _ _ _ hS72 _ hq12) ?_
  rintro _ w13 ⟨v12,rfl,hS71⟩
  refine ⟨_,rfl,?_⟩
  have hS73:=hS71.unpack [bk bp0 #[v12,vI sp0_1] 123,Own.of v12 29 r12.2]
  refine gn hK15<|wr [(0,0),(1,2)]<|gb0 [0] [(35,pP bp0 0)] ?_
  obtain ⟨Z12,cz12,rfl⟩:=hS73.open 1 rfl
  rcases hq13:compile_maker_put.f r12.2 sp0_1 8 0 0 with _ | r13
  ·rw [hq13] at h; cases h
  rw [hq13] at h
  simp only [] at h
  have hS77:=((hS73.b 1).b 1).packN 2
  refine ge_call2 (m:=0) (d:=some 36) (f:=109) (args:=#[pP bp0 0,vI 8,vI 0,vI 0]) (by kernel_rfl) (compile_maker_put_ok bp0 r12.2 Z12 cz12 sp0_1 8 0 0 _ _ _ hS77 _ hq13) ?_
  rintro _ w14 ⟨v13,rfl,hS76⟩
  refine ⟨_,rfl,?_⟩
  have hS78:=hS76.unpack [bk bp0 #[v13,vI sp0_1] 123,Own.of v13 29 r13.2]
  refine gn hK13<|ws fun K16 hK16=>wr [(0,0),(1,2),(2,0)]<|gb0 [0] [(37,pP bp0 0)] ?_
  obtain ⟨Z13,cz13,rfl⟩:=hS78.open 1 rfl
  rcases hq14:compile_maker_put.f r13.2 sp0_1 12 0 0 with _ | r14
  ·rw [hq14] at h; cases h
  rw [hq14] at h
  simp only [] at h
  have hS82:=((hS78.b 1).b 1).packN 2
  refine ge_call2 (m:=0) (d:=some 38) (f:=109) (args:=#[pP bp0 0,vI 12,vI 0,vI 0]) (by kernel_rfl) (compile_maker_put_ok bp0 r13.2 Z13 cz13 sp0_1 12 0 0 _ _ _ hS82 _ hq14) ?_
  rintro _ w15 ⟨v14,rfl,hS81⟩
  refine ⟨_,rfl,?_⟩
  have hS83:=hS81.unpack [bk bp0 #[v14,vI sp0_1] 123,Own.of v14 29 r14.2]
  refine gb0 [2] [(4,vI r14.1)]<|gn hK16 ?_
  have hS87:=hS83.p [0,1,3] rfl
  obtain rfl:=si h
  exact we_ret (pr0 [.tmp 4] [vI r14.1] ⟨v14,rfl,hS87⟩)
 rw [if_neg hc4] at h
 refine wk 20 (x1_0==3) false (beq_eq_false_iff_ne.2 hc4)<|wf<|wr [(0,0),(1,2)]<|gb0 [0] [(23,pP bp0 0)] ?_
 obtain ⟨Z14,cz14,rfl⟩:=hS11.open 1 rfl
 rcases hq15:compile_maker_put.f r2 sp0_1 7 0 0 with _ | r15
 ·rw [hq15] at h; cases h
 rw [hq15] at h
 simp only [] at h
 have hS91:=((hS11.b 1).b 1).packN 2
 refine ge_call2 (m:=0) (d:=some 24) (f:=109) (args:=#[pP bp0 0,vI 7,vI 0,vI 0]) (by kernel_rfl) (compile_maker_put_ok bp0 r2 Z14 cz14 sp0_1 7 0 0 _ _ _ hS91 _ hq15) ?_
 rintro _ w16 ⟨v15,rfl,hS90⟩
 refine ⟨_,rfl,?_⟩
 have hS92:=hS90.unpack [bk bp0 #[v15,vI sp0_1] 123,Own.of v15 29 r15.2]
 refine gn hK4<|ws fun K17 hK17=>ws fun K18 hK18=>wr [(0,0),(1,0),(2,0),(3,0),(4,0),(5,0),(6,0),(7,0)]<|gb [0,1,2,3] [(28,.bool (x1_0==3)),(27,.bool (x1_0==3)),(26,vI x1_0),(25,pP b1 0)] [ld b1 0 (vI x1_0)] ⟨hS92.c 2,trivial⟩<|gk 28 (x1_0==3) false (beq_eq_false_iff_ne.2 hc4)<|gb [4,5,6,7] [(32,.bool (x1_0==4)),(31,.bool (x1_0==4)),(30,vI x1_0),(29,pP b1 0)] [ld b1 0 (vI x1_0)] ⟨hS92.c 2,trivial⟩<|gn hK18 ?_
 by_cases hc5:x1_0=4
 ·rw [if_pos hc5] at h
  refine wk 32 (x1_0==4) true (beq_iff_eq.2 hc5)<|wt<|ws fun K19 hK19=>wr [(0,0),(1,2)]<|gb0 [0] [(33,pP bp0 0)] ?_
  obtain ⟨Z15,cz15,rfl⟩:=hS92.open 1 rfl
  rcases hq16:compile_maker_put.f r15.2 sp0_1 1 0 0 with _ | r16
  ·rw [hq16] at h; cases h
  rw [hq16] at h
  simp only [] at h
  have hS96:=((hS92.b 1).b 1).packN 2
  refine ge_call2 (m:=0) (d:=some 34) (f:=109) (args:=#[pP bp0 0,vI 1,vI 0,vI 0]) (by kernel_rfl) (compile_maker_put_ok bp0 r15.2 Z15 cz15 sp0_1 1 0 0 _ _ _ hS96 _ hq16) ?_
  rintro _ w17 ⟨v16,rfl,hS95⟩
  refine ⟨_,rfl,?_⟩
  have hS97:=hS95.unpack [bk bp0 #[v16,vI sp0_1] 123,Own.of v16 29 r16.2]
  refine gn hK19<|wr [(0,0),(1,2)]<|gb0 [0] [(35,pP bp0 0)] ?_
  obtain ⟨Z16,cz16,rfl⟩:=hS97.open 1 rfl
  rcases hq17:compile_maker_put.f r16.2 sp0_1 8 0 0 with _ | r17
  ·rw [hq17] at h; cases h
  rw [hq17] at h
  simp only [] at h
  have hS101:=((hS97.b 1).b 1).packN 2
  refine ge_call2 (m:=0) (d:=some 36) (f:=109) (args:=#[pP bp0 0,vI 8,vI 0,vI 0]) (by kernel_rfl) (compile_maker_put_ok bp0 r16.2 Z16 cz16 sp0_1 8 0 0 _ _ _ hS101 _ hq17) ?_
  rintro _ w18 ⟨v17,rfl,hS100⟩
  refine ⟨_,rfl,?_⟩
  have hS102:=hS100.unpack [bk bp0 #[v17,vI sp0_1] 123,Own.of v17 29 r17.2]
  refine gn hK17<|ws fun K20 hK20=>wr [(0,0),(1,2),(2,0)]<|gb0 [0] [(37,pP bp0 0)] ?_
  obtain ⟨Z17,cz17,rfl⟩:=hS102.open 1 rfl
  rcases hq18:compile_maker_put.f r17.2 sp0_1 12 0 0 with _ | r18
  ·rw [hq18] at h; cases h
  rw [hq18] at h
  simp only [] at h
  have hS106:=((hS102.b 1).b 1).packN 2
  refine ge_call2 (m:=0) (d:=some 38) (f:=109) (args:=#[pP bp0 0,vI 12,vI 0,vI 0]) (by kernel_rfl) (compile_maker_put_ok bp0 r17.2 Z17 cz17 sp0_1 12 0 0 _ _ _ hS106 _ hq18) ?_
  rintro _ w19 ⟨v18,rfl,hS105⟩
  refine ⟨_,rfl,?_⟩
  have hS107:=hS105.unpack [bk bp0 #[v18,vI sp0_1] 123,Own.of v18 29 r18.2]
  refine gb0 [2] [(4,vI r18.1)]<|gn hK20 ?_
  have hS111:=hS107.p [0,1,3] rfl
  obtain rfl:=si h
  exact we_ret (pr0 [.tmp 4] [vI r18.1] ⟨v18,rfl,hS111⟩)
 rw [if_neg hc5] at h
 refine wk 32 (x1_0==4) false (beq_eq_false_iff_ne.2 hc5)<|wf<|we_skip fun a hF=>hK17 _ _ ?_ a hF
 refine ws fun K21 hK21=>wr [(0,0),(1,2),(2,0)]<|gb0 [0] [(37,pP bp0 0)] ?_
 obtain ⟨Z18,cz18,rfl⟩:=hS92.open 1 rfl
 rcases hq19:compile_maker_put.f r15.2 sp0_1 12 0 0 with _ | r19
 ·rw [hq19] at h; cases h
 rw [hq19] at h
 simp only [] at h
 have hS115:=((hS92.b 1).b 1).packN 2
 refine ge_call2 (m:=0) (d:=some 38) (f:=109) (args:=#[pP bp0 0,vI 12,vI 0,vI 0]) (by kernel_rfl) (compile_maker_put_ok bp0 r15.2 Z18 cz18 sp0_1 12 0 0 _ _ _ hS115 _ hq19) ?_
 rintro _ w20 ⟨v19,rfl,hS114⟩
 refine ⟨_,rfl,?_⟩
 have hS116:=hS114.unpack [bk bp0 #[v19,vI sp0_1] 123,Own.of v19 29 r19.2]
 refine gb0 [2] [(4,vI r19.1)]<|gn hK21 ?_
 have hS120:=hS116.p [0,1,3] rfl
 obtain rfl:=si h
 exact we_ret (pr0 [.tmp 4] [vI r19.1] ⟨v19,rfl,hS120⟩)

/-! (*punctual/compile.maker).here -/
abbrev compile_maker_here.Post (w0:World) (bp0:Nat) (lp0_0:List SIns) (Ap0_0:OA) (cp0_0:Nat) (sp0_1 x1:Int) (LT:List Own) (r:List SIns) (e:Ending) (w:World):Prop:=∃ (nbp0_0:Value),e=.returned (.tuple #[])∧St w0 w [bk bp0 #[nbp0_0,vI sp0_1] 123,Own.of nbp0_0 29 r,Own.all LT]
def compile_maker_here.f (lp0_0 : List SIns) (sp0_1 : Int) (x1 : Int) : Option (List SIns) :=
 if 0≤x1 then
  match lp0_0[(x1).toNat]? with
  | none=>none
  | some e1 =>
   some (lp0_0.set ((x1).toNat) (⟨e1.Op,(lp0_0.length:Int),e1.B⟩:SIns))
 else
  none
theorem compile_maker_here_ok (bp0:Nat) (lp0_0:List SIns) (Ap0_0:OA) (cp0_0:Nat) (sp0_1 x1:Int) (w0 wE:World) (LT:List Own) (hS:St w0 wE [bk bp0 #[(.slice Ap0_0 lp0_0.length cp0_0),vI sp0_1] 123,ro Ap0_0 cp0_0 29 lp0_0,Own.all LT]) (r:List SIns) (h:compile_maker_here.f lp0_0 sp0_1 x1=some r) :
  Calls Try.prog 111 #[pP bp0 0,vI x1] wE (compile_maker_here.Post w0 bp0 lp0_0 Ap0_0 cp0_0 sp0_1 x1 LT r):=by
 unfold compile_maker_here.f at h
 refine calls_enter (n:=16) (args:=[pP bp0 0,vI x1]) (fn:=Try.f111) rfl rfl rfl rfl ?_
 show WE _ _ _ _ [(0,pP bp0 0),(1,vI x1)] _
 refine we_orders3 (by kernel_rfl) [(3,[⟨bp0,0,none⟩],[],[]),(8,[⟨bp0,0,none⟩],[],[])] (.vals [0] (.vals [1] (.vals [2] (.vals [3] (.vals [4] (.vals [5] (.vals [6] (.vals [7] (.vals [8] (.vals [9] (.vals [10] (.vals [11] (.alt 12 2 .fin .nomore))))))))))))) (by kernel_rfl) (by kernel_rfl) ?_
 have hS1:=hS.drew
 refine g30 [0,1,2] [(6,pP bp0 0),(5,pP bp0 0),(4,pP bp0 0)]<|g3 3 [(7,(.slice Ap0_0 lp0_0.length cp0_0))] [ld bp0 0 ((.slice Ap0_0 lp0_0.length cp0_0))] ⟨hS1.c 0,trivial⟩<|g30 [4,5,6,7] [(11,pP bp0 0),(10,pP bp0 0),(9,pP bp0 0),(8,vI x1)]<|g3 8 [(12,(.slice Ap0_0 lp0_0.length cp0_0))] [ld bp0 0 ((.slice Ap0_0 lp0_0.length cp0_0))] ⟨hS1.c 0,trivial⟩<|g30 [9] [(13,vI (lp0_0.length:Int))] ?_
 by_cases hc1:0≤x1
 ·rw [if_pos hc1] at h
  rcases hx1:lp0_0[(x1).toNat]? with _ | e1
  ·rw [hx1] at h; cases h
  rw [hx1] at h
  simp only [] at h
  refine go3_index (d:=14) (ty:=0) (t:=68) (el:=29) (sz:=3) (m:=lp0_0.length) (c:=cp0_0) (x:=(.tmp 7)) (y:=(.tmp 8)) (A:=Ap0_0) (k':=.i64) (j:=x1) (jn:=((x1).toNat)) (b0:=blkOf Ap0_0) (o0:=offOf Ap0_0) (by kernel_rfl) (by kernel_rfl) (by kernel_rfl) (by kernel_rfl) (by kernel_rfl) ((hS1.rdAt 1 rfl).eqSome (pos_of_get hx1)) (Int.toNat_of_nonneg hc1).symm (lt_of_get hx1) ?_
  refine g30 [11] [(15,.pointer (some ⟨blkOf Ap0_0,offOf Ap0_0+(x1).toNat*3+1,none⟩))]<|go_alt3 (fun KK hKK=>?_) ?_
  ·have hS2:=hS1.b 1
   refine ge_seti (α:=SIns) (A:=Ap0_0) (nn:=lp0_0.length) (c:=cp0_0) (t:=29) (l:=lp0_0) (x:=e1) (x':=(⟨e1.Op,(lp0_0.length:Int),e1.B⟩:SIns)) (jn:=((x1).toNat)) (j:=1) (vs:=[vI (lp0_0.length:Int)]) (l':=[.stored ⟨blkOf Ap0_0,offOf Ap0_0+((x1).toNat)*3+1,none⟩ (vI (lp0_0.length:Int))]) hS2 (by kernel_rfl) (by kernel_rfl) hx1 rfl rfl rfl fun w1 hS3=>?_
   have hS4:St w0 w1 [Own.of (.slice Ap0_0 lp0_0.length cp0_0) 29 (lp0_0.set ((x1).toNat) (⟨e1.Op,(lp0_0.length:Int),e1.B⟩:SIns)),bk bp0 #[(.slice Ap0_0 lp0_0.length cp0_0),vI sp0_1] 123,Own.all LT]:=hS3
   have hE1:lp0_0.length=(lp0_0.set ((x1).toNat) (⟨e1.Op,(lp0_0.length:Int),e1.B⟩:SIns)).length:=hS4.lenAt 0 rfl
   have hS5:St w0 w1 [Own.of (.slice Ap0_0 (lp0_0.set ((x1).toNat) (⟨e1.Op,(lp0_0.length:Int),e1.B⟩:SIns)).length cp0_0) 29 (lp0_0.set ((x1).toNat) (⟨e1.Op,(lp0_0.length:Int),e1.B⟩:SIns)),Own.blk bp0 (.cells #[(.slice Ap0_0 (lp0_0.set ((x1).toNat) (⟨e1.Op,(lp0_0.length:Int),e1.B⟩:SIns)).length cp0_0),vI sp0_1] 123 (0,0)),Own.all LT]:=by rw [← hE1]; exact hS4
   refine ge_same (t:=7) (v:=(.slice Ap0_0 lp0_0.length cp0_0)) (v':=(.slice Ap0_0 (lp0_0.set ((x1).toNat) (⟨e1.Op,(lp0_0.length:Int),e1.B⟩:SIns)).length cp0_0)) (by kernel_rfl) (by rw [← hE1]) ?_
   refine ge_same (t:=12) (v:=(.slice Ap0_0 lp0_0.length cp0_0)) (v':=(.slice Ap0_0 (lp0_0.set ((x1).toNat) (⟨e1.Op,(lp0_0.length:Int),e1.B⟩:SIns)).length cp0_0)) (by kernel_rfl) (by rw [← hE1]) ?_
   refine g2 hKK ?_
   have hS8:=((hS5.b 2).b 1).b 2
   obtain rfl:=si h
   exact go_fin3 (pe0 [] [] ⟨(.slice Ap0_0 (lp0_0.set ((x1).toNat) (⟨e1.Op,(lp0_0.length:Int),e1.B⟩:SIns)).length cp0_0),rfl,hS8⟩)
  exact go_nomore3
 rw [if_neg hc1] at h
 cases h

/-! (*punctual/compile.maker).list, (*punctual/compile.maker).stmt, (*punctual/compile.maker).loop, (*punctual/compile.maker).stmt$1, (*punctual/compile.maker).stmt$2 -/
abbrev compile_maker_list.Post (w0:World) (Z:Zone) (bp0:Nat) (lp0_0:List SIns) (Ap0_0:OA) (cp0_0:Nat) (sp0_1:Int) (l1:List SStmt) (A1:OA) (c1:Nat) (LT:List Own) (r:(List SIns)×Int) (e:Ending) (w:World):Prop:=∃ (nbp0_0:Value),e=.returned (.tuple #[])∧St w0 w [bk bp0 #[nbp0_0,vI r.2] 123,Own.of nbp0_0 29 r.1,Own.all LT]
abbrev compile_maker_stmt.Post (w0:World) (Z:Zone) (bp0:Nat) (lp0_0:List SIns) (Ap0_0:OA) (cp0_0:Nat) (sp0_1 x1_0 x1_1 x1_2_0 x1_2_1:Int) (l1_2_2:List SExpr) (A1_2_2:OA) (c1_2_2:Nat) (x1_3_0 x1_3_1_0 x1_3_1_1:Int) (l1_3_1_2:List SExpr) (A1_3_1_2:OA) (c1_3_1_2:Nat) (x1_3_2_0 x1_3_2_1:Int) (l1_3_2_2:List SExpr) (A1_3_2_2:OA) (c1_3_2_2:Nat) (l1_4:List SStmt) (A1_4:OA) (c1_4:Nat) (l1_5:List SStmt) (A1_5:OA) (c1_5:Nat) (LT:List Own) (r:(List SIns)×Int) (e:Ending) (w:World):Prop:=∃ (nbp0_0:Value),e=.returned (.tuple #[])∧St w0 w [bk bp0 #[nbp0_0,vI r.2] 123,Own.of nbp0_0 29 r.1,Own.all LT]
abbrev compile_maker_loop_v1.Post (w0:World) (Z:Zone) (bp0:Nat) (lp0_0:List SIns) (Ap0_0:OA) (cp0_0:Nat) (sp0_1 x1:Int) (bog2_0 bg2_1:Nat) (sg2_1_0_0 sg2_1_1_0 sg2_1_2_0 sg2_1_3_0:Int) (lg2_1_4:List SExpr) (Ag2_1_4:OA) (cg2_1_4:Nat) (sg2_1_5_0 sg2_1_6_0 sg2_1_7_0:Int) (lg2_1_8:List SExpr) (Ag2_1_8:OA) (cg2_1_8:Nat) (sg2_1_9_0 sg2_1_10_0:Int) (lg2_1_11:List SExpr) (Ag2_1_11:OA) (cg2_1_11:Nat) (lg2_1_12:List SStmt) (Ag2_1_12:OA) (cg2_1_12:Nat) (lg2_1_13:List SStmt) (Ag2_1_13:OA) (cg2_1_13:Nat) (LT:List Own) (r:(List SIns)×Int) (e:Ending) (w:World):Prop:=∃ (nbp0_0:Value),e=.returned (.tuple #[])∧St w0 w [bk bog2_0 #[pP bp0 0] 121,bk bp0 #[nbp0_0,vI r.2] 123,bk bg2_1 #[vI sg2_1_0_0,vI sg2_1_1_0,vI sg2_1_2_0,vI sg2_1_3_0,.slice Ag2_1_4 lg2_1_4.length cg2_1_4,vI sg2_1_5_0,vI sg2_1_6_0,vI sg2_1_7_0,.slice Ag2_1_8 lg2_1_8.length cg2_1_8,vI sg2_1_9_0,vI sg2_1_10_0,.slice Ag2_1_11 lg2_1_11.length cg2_1_11,.slice Ag2_1_12 lg2_1_12.length cg2_1_12,.slice Ag2_1_13 lg2_1_13.length cg2_1_13] 49,Own.of nbp0_0 29 r.1,Own.all LT]
abbrev compile_maker_loop_v2.Post (w0:World) (Z:Zone) (bp0:Nat) (lp0_0:List SIns) (Ap0_0:OA) (cp0_0:Nat) (sp0_1 x1:Int) (bog2_0 bg2_1:Nat) (sg2_1_0_0 sg2_1_1_0 sg2_1_2_0 sg2_1_3_0:Int) (lg2_1_4:List SExpr) (Ag2_1_4:OA) (cg2_1_4:Nat) (sg2_1_5_0 sg2_1_6_0 sg2_1_7_0:Int) (lg2_1_8:List SExpr) (Ag2_1_8:OA) (cg2_1_8:Nat) (sg2_1_9_0 sg2_1_10_0:Int) (lg2_1_11:List SExpr) (Ag2_1_11:OA) (cg2_1_11:Nat) (lg2_1_12:List SStmt) (Ag2_1_12:OA) (cg2_1_12:Nat) (lg2_1_13:List SStmt) (Ag2_1_13:OA) (cg2_1_13:Nat) (LT:List Own) (r:(List SIns)×Int) (e:Ending) (w:World):Prop:=∃ (nbp0_0:Value),e=.returned (.tuple #[])∧St w0 w [bk bog2_0 #[pP bp0 0] 121,bk bp0 #[nbp0_0,vI r.2] 123,bk bg2_1 #[vI sg2_1_0_0,vI sg2_1_1_0,vI sg2_1_2_0,vI sg2_1_3_0,.slice Ag2_1_4 lg2_1_4.length cg2_1_4,vI sg2_1_5_0,vI sg2_1_6_0,vI sg2_1_7_0,.slice Ag2_1_8 lg2_1_8.length cg2_1_8,vI sg2_1_9_0,vI sg2_1_10_0,.slice Ag2_1_11 lg2_1_11.length cg2_1_11,.slice Ag2_1_12 lg2_1_12.length cg2_1_12,.slice Ag2_1_13 lg2_1_13.length cg2_1_13] 49,Own.of nbp0_0 29 r.1,Own.all LT]
abbrev compile_maker_stmt_1.Post (w0:World) (Z:Zone) (bo0 bf0:Nat) (lf0_0:List SIns) (Af0_0:OA) (cf0_0:Nat) (sf0_1:Int) (bf1:Nat) (sf1_0_0 sf1_1_0 sf1_2_0 sf1_3_0:Int) (lf1_4:List SExpr) (Af1_4:OA) (cf1_4:Nat) (sf1_5_0 sf1_6_0 sf1_7_0:Int) (lf1_8:List SExpr) (Af1_8:OA) (cf1_8:Nat) (sf1_9_0 sf1_10_0:Int) (lf1_11:List SExpr) (Af1_11:OA) (cf1_11:Nat) (lf1_12:List SStmt) (Af1_12:OA) (cf1_12:Nat) (lf1_13:List SStmt) (Af1_13:OA) (cf1_13:Nat) (LT:List Own) (r:(List SIns)×Int) (e:Ending) (w:World):Prop:=∃ (nbf0_0:Value),e=.returned (.tuple #[])∧St w0 w [bk bo0 #[pP bf0 0] 121,bk bf0 #[nbf0_0,vI r.2] 123,bk bf1 #[vI sf1_0_0,vI sf1_1_0,vI sf1_2_0,vI sf1_3_0,.slice Af1_4 lf1_4.length cf1_4,vI sf1_5_0,vI sf1_6_0,vI sf1_7_0,.slice Af1_8 lf1_8.length cf1_8,vI sf1_9_0,vI sf1_10_0,.slice Af1_11 lf1_11.length cf1_11,.slice Af1_12 lf1_12.length cf1_12,.slice Af1_13 lf1_13.length cf1_13] 49,Own.of nbf0_0 29 r.1,Own.all LT]
abbrev compile_maker_stmt_2.Post (w0:World) (Z:Zone) (bo0 bf0:Nat) (lf0_0:List SIns) (Af0_0:OA) (cf0_0:Nat) (sf0_1:Int) (bf1:Nat) (sf1_0_0 sf1_1_0 sf1_2_0 sf1_3_0:Int) (lf1_4:List SExpr) (Af1_4:OA) (cf1_4:Nat) (sf1_5_0 sf1_6_0 sf1_7_0:Int) (lf1_8:List SExpr) (Af1_8:OA) (cf1_8:Nat) (sf1_9_0 sf1_10_0:Int) (lf1_11:List SExpr) (Af1_11:OA) (cf1_11:Nat) (lf1_12:List SStmt) (Af1_12:OA) (cf1_12:Nat) (lf1_13:List SStmt) (Af1_13:OA) (cf1_13:Nat) (LT:List Own) (r:(List SIns)×Int) (e:Ending) (w:World):Prop:=∃ (nbf0_0:Value),e=.returned (.tuple #[])∧St w0 w [bk bo0 #[pP bf0 0] 121,bk bf0 #[nbf0_0,vI r.2] 123,bk bf1 #[vI sf1_0_0,vI sf1_1_0,vI sf1_2_0,vI sf1_3_0,.slice Af1_4 lf1_4.length cf1_4,vI sf1_5_0,vI sf1_6_0,vI sf1_7_0,.slice Af1_8 lf1_8.length cf1_8,vI sf1_9_0,vI sf1_10_0,.slice Af1_11 lf1_11.length cf1_11,.slice Af1_12 lf1_12.length cf1_12,.slice Af1_13 lf1_13.length cf1_13] 49,Own.of nbf0_0 29 r.1,Own.all LT]
abbrev compile_maker_list.Rec (rec_compile_maker_list:(List SIns)→Int→(List SStmt)→Option ((List SIns)×Int)):Prop:=∀ (Z:Zone) (bp0:Nat) (lp0_0:List SIns) (Ap0_0:OA) (cp0_0:Nat) (sp0_1:Int) (l1:List SStmt) (A1:OA) (c1:Nat) (w0 wE:World) (LT:List Own) (hS:St w0 wE [bk bp0 #[(.slice Ap0_0 lp0_0.length cp0_0),vI sp0_1] 123,ro Ap0_0 cp0_0 29 lp0_0,Own.all LT]) (hZ:∀ w L,St w0 w (Own.all LT::L)→∀ w',Sub w w'→Z w') (hR1:RdZ Z A1 l1) (hL1:l1.length≤c1) (r:(List SIns)×Int) (h:rec_compile_maker_list lp0_0 sp0_1 l1=some r),Calls Try.prog 65 #[pP bp0 0,.slice A1 l1.length c1] wE (compile_maker_list.Post w0 Z bp0 lp0_0 Ap0_0 cp0_0 sp0_1 l1 A1 c1 LT r)
abbrev compile_maker_stmt.Rec (rec_compile_maker_stmt:(List SIns)→Int→Int→Int→Int→Int→(List SExpr)→Int→Int→Int→(List SExpr)→Int→Int→(List SExpr)→(List SStmt)→(List SStmt)→Option ((List SIns)×Int)):Prop:=∀ (Z:Zone) (bp0:Nat) (lp0_0:List SIns) (Ap0_0:OA) (cp0_0:Nat) (sp0_1:Int) (x1_0:Int) (x1_1:Int) (x1_2_0:Int) (x1_2_1:Int) (l1_2_2:List SExpr) (A1_2_2:OA) (c1_2_2:Nat) (x1_3_0:Int) (x1_3_1_0:Int) (x1_3_1_1:Int) (l1_3_1_2:List SExpr) (A1_3_1_2:OA) (c1_3_1_2:Nat) (x1_3_2_0:Int) (x1_3_2_1:Int) (l1_3_2_2:List SExpr) (A1_3_2_2:OA) (c1_3_2_2:Nat) (l1_4:List SStmt) (A1_4:OA) (c1_4:Nat) (l1_5:List SStmt) (A1_5:OA) (c1_5:Nat) (w0 wE:World) (LT:List Own) (hS:St w0 wE [bk bp0 #[(.slice Ap0_0 lp0_0.length cp0_0),vI sp0_1] 123,ro Ap0_0 cp0_0 29 lp0_0,Own.all LT]) (hZ:∀ w L,St w0 w (Own.all LT::L)→∀ w',Sub w w'→Z w') (hR1_2_2:RdZ Z A1_2_2 l1_2_2) (hL1_2_2:l1_2_2.length≤c1_2_2) (hR1_3_1_2:RdZ Z A1_3_1_2 l1_3_1_2) (hL1_3_1_2:l1_3_1_2.length≤c1_3_1_2) (hR1_3_2_2:RdZ Z A1_3_2_2 l1_3_2_2) (hL1_3_2_2:l1_3_2_2.length≤c1_3_2_2) (hR1_4:RdZ Z A1_4 l1_4) (hL1_4:l1_4.length≤c1_4) (hR1_5:RdZ Z A1_5 l1_5) (hL1_5:l1_5.length≤c1_5) (r:(List SIns)×Int) (h:rec_compile_maker_stmt lp0_0 sp0_1 x1_0 x1_1 x1_2_0 x1_2_1 l1_2_2 x1_3_0 x1_3_1_0 x1_3_1_1 l1_3_1_2 x1_3_2_0 x1_3_2_1 l1_3_2_2 l1_4 l1_5=some r),Calls Try.prog 88 #[pP bp0 0,.agg #[vI x1_0,vI x1_1,vI x1_2_0,vI x1_2_1,.slice A1_2_2 l1_2_2.length c1_2_2,vI x1_3_0,vI x1_3_1_0,vI x1_3_1_1,.slice A1_3_1_2 l1_3_1_2.length c1_3_1_2,vI x1_3_2_0,vI x1_3_2_1,.slice A1_3_2_2 l1_3_2_2.length c1_3_2_2,.slice A1_4 l1_4.length c1_4,.slice A1_5 l1_5.length c1_5]] wE (compile_maker_stmt.Post w0 Z bp0 lp0_0 Ap0_0 cp0_0 sp0_1 x1_0 x1_1 x1_2_0 x1_2_1 l1_2_2 A1_2_2 c1_2_2 x1_3_0 x1_3_1_0 x1_3_1_1 l1_3_1_2 A1_3_1_2 c1_3_1_2 x1_3_2_0 x1_3_2_1 l1_3_2_2 A1_3_2_2 c1_3_2_2 l1_4 A1_4 c1_4 l1_5 A1_5 c1_5 LT r)
abbrev compile_maker_loop_v1.Rec (rec_compile_maker_loop_v1:(List SIns)→Int→Int→Int→Int→Int→Int→(List SExpr)→Int→Int→Int→(List SExpr)→Int→Int→(List SExpr)→(List SStmt)→(List SStmt)→Option ((List SIns)×Int)):Prop:=∀ (Z:Zone) (bp0:Nat) (lp0_0:List SIns) (Ap0_0:OA) (cp0_0:Nat) (sp0_1:Int) (x1:Int) (bog2_0:Nat) (bg2_1:Nat) (sg2_1_0_0:Int) (sg2_1_1_0:Int) (sg2_1_2_0:Int) (sg2_1_3_0:Int) (lg2_1_4:List SExpr) (Ag2_1_4:OA) (cg2_1_4:Nat) (sg2_1_5_0:Int) (sg2_1_6_0:Int) (sg2_1_7_0:Int) (lg2_1_8:List SExpr) (Ag2_1_8:OA) (cg2_1_8:Nat) (sg2_1_9_0:Int) (sg2_1_10_0:Int) (lg2_1_11:List SExpr) (Ag2_1_11:OA) (cg2_1_11:Nat) (lg2_1_12:List SStmt) (Ag2_1_12:OA) (cg2_1_12:Nat) (lg2_1_13:List SStmt) (Ag2_1_13:OA) (cg2_1_13:Nat) (w0 wE:World) (LT:List Own) (hS:St w0 wE [bk bog2_0 #[pP bp0 0] 121,bk bp0 #[(.slice Ap0_0 lp0_0.length cp0_0),vI sp0_1] 123,bk bg2_1 #[vI sg2_1_0_0,vI sg2_1_1_0,vI sg2_1_2_0,vI sg2_1_3_0,.slice Ag2_1_4 lg2_1_4.length cg2_1_4,vI sg2_1_5_0,vI sg2_1_6_0,vI sg2_1_7_0,.slice Ag2_1_8 lg2_1_8.length cg2_1_8,vI sg2_1_9_0,vI sg2_1_10_0,.slice Ag2_1_11 lg2_1_11.length cg2_1_11,.slice Ag2_1_12 lg2_1_12.length cg2_1_12,.slice Ag2_1_13 lg2_1_13.length cg2_1_13] 49,ro Ap0_0 cp0_0 29 lp0_0,Own.all LT]) (hZ:∀ w L,St w0 w (Own.all LT::L)→∀ w',Sub w w'→Z w') (hRg2_1_4:RdZ Z Ag2_1_4 lg2_1_4) (hLg2_1_4:lg2_1_4.length≤cg2_1_4) (hRg2_1_8:RdZ Z Ag2_1_8 lg2_1_8) (hLg2_1_8:lg2_1_8.length≤cg2_1_8) (hRg2_1_11:RdZ Z Ag2_1_11 lg2_1_11) (hLg2_1_11:lg2_1_11.length≤cg2_1_11) (hRg2_1_12:RdZ Z Ag2_1_12 lg2_1_12) (hLg2_1_12:lg2_1_12.length≤cg2_1_12) (hRg2_1_13:RdZ Z Ag2_1_13 lg2_1_13) (hLg2_1_13:lg2_1_13.length≤cg2_1_13) (r:(List SIns)×Int) (h:rec_compile_maker_loop_v1 lp0_0 sp0_1 x1 sg2_1_0_0 sg2_1_1_0 sg2_1_2_0 sg2_1_3_0 lg2_1_4 sg2_1_5_0 sg2_1_6_0 sg2_1_7_0 lg2_1_8 sg2_1_9_0 sg2_1_10_0 lg2_1_11 lg2_1_12 lg2_1_13=some r),Calls Try.prog 112 #[pP bp0 0,vI x1,.func (.func 113) #[] #[pP bog2_0 0,pP bg2_1 0]] wE (compile_maker_loop_v1.Post w0 Z bp0 lp0_0 Ap0_0 cp0_0 sp0_1 x1 bog2_0 bg2_1 sg2_1_0_0 sg2_1_1_0 sg2_1_2_0 sg2_1_3_0 lg2_1_4 Ag2_1_4 cg2_1_4 sg2_1_5_0 sg2_1_6_0 sg2_1_7_0 lg2_1_8 Ag2_1_8 cg2_1_8 sg2_1_9_0 sg2_1_10_0 lg2_1_11 Ag2_1_11 cg2_1_11 lg2_1_12 Ag2_1_12 cg2_1_12 lg2_1_13 Ag2_1_13 cg2_1_13 LT r)
abbrev compile_maker_loop_v2.Rec (rec_compile_maker_loop_v2:(List SIns)→Int→Int→Int→Int→Int→Int→(List SExpr)→Int→Int→Int→(List SExpr)→Int→Int→(List SExpr)→(List SStmt)→(List SStmt)→Option ((List SIns)×Int)):Prop:=∀ (Z:Zone) (bp0:Nat) (lp0_0:List SIns) (Ap0_0:OA) (cp0_0:Nat) (sp0_1:Int) (x1:Int) (bog2_0:Nat) (bg2_1:Nat) (sg2_1_0_0:Int) (sg2_1_1_0:Int) (sg2_1_2_0:Int) (sg2_1_3_0:Int) (lg2_1_4:List SExpr) (Ag2_1_4:OA) (cg2_1_4:Nat) (sg2_1_5_0:Int) (sg2_1_6_0:Int) (sg2_1_7_0:Int) (lg2_1_8:List SExpr) (Ag2_1_8:OA) (cg2_1_8:Nat) (sg2_1_9_0:Int) (sg2_1_10_0:Int) (lg2_1_11:List SExpr) (Ag2_1_11:OA) (cg2_1_11:Nat) (lg2_1_12:List SStmt) (Ag2_1_12:OA) (cg2_1_12:Nat) (lg2_1_13:List SStmt) (Ag2_1_13:OA) (cg2_1_13:Nat) (w0 wE:World) (LT:List Own) (hS:St w0 wE [bk bog2_0 #[pP bp0 0] 121,bk bp0 #[(.slice Ap0_0 lp0_0.length cp0_0),vI sp0_1] 123,bk bg2_1 #[vI sg2_1_0_0,vI sg2_1_1_0,vI sg2_1_2_0,vI sg2_1_3_0,.slice Ag2_1_4 lg2_1_4.length cg2_1_4,vI sg2_1_5_0,vI sg2_1_6_0,vI sg2_1_7_0,.slice Ag2_1_8 lg2_1_8.length cg2_1_8,vI sg2_1_9_0,vI sg2_1_10_0,.slice Ag2_1_11 lg2_1_11.length cg2_1_11,.slice Ag2_1_12 lg2_1_12.length cg2_1_12,.slice Ag2_1_13 lg2_1_13.length cg2_1_13] 49,ro Ap0_0 cp0_0 29 lp0_0,Own.all LT]) (hZ:∀ w L,St w0 w (Own.all LT::L)→∀ w',Sub w w'→Z w') (hRg2_1_4:RdZ Z Ag2_1_4 lg2_1_4) (hLg2_1_4:lg2_1_4.length≤cg2_1_4) (hRg2_1_8:RdZ Z Ag2_1_8 lg2_1_8) (hLg2_1_8:lg2_1_8.length≤cg2_1_8) (hRg2_1_11:RdZ Z Ag2_1_11 lg2_1_11) (hLg2_1_11:lg2_1_11.length≤cg2_1_11) (hRg2_1_12:RdZ Z Ag2_1_12 lg2_1_12) (hLg2_1_12:lg2_1_12.length≤cg2_1_12) (hRg2_1_13:RdZ Z Ag2_1_13 lg2_1_13) (hLg2_1_13:lg2_1_13.length≤cg2_1_13) (r:(List SIns)×Int) (h:rec_compile_maker_loop_v2 lp0_0 sp0_1 x1 sg2_1_0_0 sg2_1_1_0 sg2_1_2_0 sg2_1_3_0 lg2_1_4 sg2_1_5_0 sg2_1_6_0 sg2_1_7_0 lg2_1_8 sg2_1_9_0 sg2_1_10_0 lg2_1_11 lg2_1_12 lg2_1_13=some r),Calls Try.prog 112 #[pP bp0 0,vI x1,.func (.func 114) #[] #[pP bog2_0 0,pP bg2_1 0]] wE (compile_maker_loop_v2.Post w0 Z bp0 lp0_0 Ap0_0 cp0_0 sp0_1 x1 bog2_0 bg2_1 sg2_1_0_0 sg2_1_1_0 sg2_1_2_0 sg2_1_3_0 lg2_1_4 Ag2_1_4 cg2_1_4 sg2_1_5_0 sg2_1_6_0 sg2_1_7_0 lg2_1_8 Ag2_1_8 cg2_1_8 sg2_1_9_0 sg2_1_10_0 lg2_1_11 Ag2_1_11 cg2_1_11 lg2_1_12 Ag2_1_12 cg2_1_12 lg2_1_13 Ag2_1_13 cg2_1_13 LT r)
abbrev compile_maker_stmt_1.Rec (rec_compile_maker_stmt_1:(List SIns)→Int→Int→Int→Int→Int→(List SExpr)→Int→Int→Int→(List SExpr)→Int→Int→(List SExpr)→(List SStmt)→(List SStmt)→Option ((List SIns)×Int)):Prop:=∀ (Z:Zone) (bo0:Nat) (bf0:Nat) (lf0_0:List SIns) (Af0_0:OA) (cf0_0:Nat) (sf0_1:Int) (bf1:Nat) (sf1_0_0:Int) (sf1_1_0:Int) (sf1_2_0:Int) (sf1_3_0:Int) (lf1_4:List SExpr) (Af1_4:OA) (cf1_4:Nat) (sf1_5_0:Int) (sf1_6_0:Int) (sf1_7_0:Int) (lf1_8:List SExpr) (Af1_8:OA) (cf1_8:Nat) (sf1_9_0:Int) (sf1_10_0:Int) (lf1_11:List SExpr) (Af1_11:OA) (cf1_11:Nat) (lf1_12:List SStmt) (Af1_12:OA) (cf1_12:Nat) (lf1_13:List SStmt) (Af1_13:OA) (cf1_13:Nat) (w0 wE:World) (LT:List Own) (hS:St w0 wE [bk bo0 #[pP bf0 0] 121,bk bf0 #[(.slice Af0_0 lf0_0.length cf0_0),vI sf0_1] 123,bk bf1 #[vI sf1_0_0,vI sf1_1_0,vI sf1_2_0,vI sf1_3_0,.slice Af1_4 lf1_4.length cf1_4,vI sf1_5_0,vI sf1_6_0,vI sf1_7_0,.slice Af1_8 lf1_8.length cf1_8,vI sf1_9_0,vI sf1_10_0,.slice Af1_11 lf1_11.length cf1_11,.slice Af1_12 lf1_12.length cf1_12,.slice Af1_13 lf1_13.length cf1_13] 49,ro Af0_0 cf0_0 29 lf0_0,Own.all LT]) (hZ:∀ w L,St w0 w (Own.all LT::L)→∀ w',Sub w w'→Z w') (hRf1_4:RdZ Z Af1_4 lf1_4) (hLf1_4:lf1_4.length≤cf1_4) (hRf1_8:RdZ Z Af1_8 lf1_8) (hLf1_8:lf1_8.length≤cf1_8) (hRf1_11:RdZ Z Af1_11 lf1_11) (hLf1_11:lf1_11.length≤cf1_11) (hRf1_12:RdZ Z Af1_12 lf1_12) (hLf1_12:lf1_12.length≤cf1_12) (hRf1_13:RdZ Z Af1_13 lf1_13) (hLf1_13:lf1_13.length≤cf1_13) (r:(List SIns)×Int) (h:rec_compile_maker_stmt_1 lf0_0 sf0_1 sf1_0_0 sf1_1_0 sf1_2_0 sf1_3_0 lf1_4 sf1_5_0 sf1_6_0 sf1_7_0 lf1_8 sf1_9_0 sf1_10_0 lf1_11 lf1_12 lf1_13=some r),Calls Try.prog 113 #[pP bo0 0,pP bf1 0] wE (compile_maker_stmt_1.Post w0 Z bo0 bf0 lf0_0 Af0_0 cf0_0 sf0_1 bf1 sf1_0_0 sf1_1_0 sf1_2_0 sf1_3_0 lf1_4 Af1_4 cf1_4 sf1_5_0 sf1_6_0 sf1_7_0 lf1_8 Af1_8 cf1_8 sf1_9_0 sf1_10_0 lf1_11 Af1_11 cf1_11 lf1_12 Af1_12 cf1_12 lf1_13 Af1_13 cf1_13 LT r)
abbrev compile_maker_stmt_2.Rec (rec_compile_maker_stmt_2:(List SIns)→Int→Int→Int→Int→Int→(List SExpr)→Int→Int→Int→(List SExpr)→Int→Int→(List SExpr)→(List SStmt)→(List SStmt)→Option ((List SIns)×Int)):Prop:=∀ (Z:Zone) (bo0:Nat) (bf0:Nat) (lf0_0:List SIns) (Af0_0:OA) (cf0_0:Nat) (sf0_1:Int) (bf1:Nat) (sf1_0_0:Int) (sf1_1_0:Int) (sf1_2_0:Int) (sf1_3_0:Int) (lf1_4:List SExpr) (Af1_4:OA) (cf1_4:Nat) (sf1_5_0:Int) (sf1_6_0:Int) (sf1_7_0:Int) (lf1_8:List SExpr) (Af1_8:OA) (cf1_8:Nat) (sf1_9_0:Int) (sf1_10_0:Int) (lf1_11:List SExpr) (Af1_11:OA) (cf1_11:Nat) (lf1_12:List SStmt) (Af1_12:OA) (cf1_12:Nat) (lf1_13:List SStmt) (Af1_13:OA) (cf1_13:Nat) (w0 wE:World) (LT:List Own) (hS:St w0 wE [bk bo0 #[pP bf0 0] 121,bk bf0 #[(.slice Af0_0 lf0_0.length cf0_0),vI sf0_1] 123,bk bf1 #[vI sf1_0_0,vI sf1_1_0,vI sf1_2_0,vI sf1_3_0,.slice Af1_4 lf1_4.length cf1_4,vI sf1_5_0,vI sf1_6_0,vI sf1_7_0,.slice Af1_8 lf1_8.length cf1_8,vI sf1_9_0,vI sf1_10_0,.slice Af1_11 lf1_11.length cf1_11,.slice Af1_12 lf1_12.length cf1_12,.slice Af1_13 lf1_13.length cf1_13] 49,ro Af0_0 cf0_0 29 lf0_0,Own.all LT]) (hZ:∀ w L,St w0 w (Own.all LT::L)→∀ w',Sub w w'→Z w') (hRf1_4:RdZ Z Af1_4 lf1_4) (hLf1_4:lf1_4.length≤cf1_4) (hRf1_8:RdZ Z Af1_8 lf1_8) (hLf1_8:lf1_8.length≤cf1_8) (hRf1_11:RdZ Z Af1_11 lf1_11) (hLf1_11:lf1_11.length≤cf1_11) (hRf1_12:RdZ Z Af1_12 lf1_12) (hLf1_12:lf1_12.length≤cf1_12) (hRf1_13:RdZ Z Af1_13 lf1_13) (hLf1_13:lf1_13.length≤cf1_13) (r:(List SIns)×Int) (h:rec_compile_maker_stmt_2 lf0_0 sf0_1 sf1_0_0 sf1_1_0 sf1_2_0 sf1_3_0 lf1_4 sf1_5_0 sf1_6_0 sf1_7_0 lf1_8 sf1_9_0 sf1_10_0 lf1_11 lf1_12 lf1_13=some r),Calls Try.prog 114 #[pP bo0 0,pP bf1 0] wE (compile_maker_stmt_2.Post w0 Z bo0 bf0 lf0_0 Af0_0 cf0_0 sf0_1 bf1 sf1_0_0 sf1_1_0 sf1_2_0 sf1_3_0 lf1_4 Af1_4 cf1_4 sf1_5_0 sf1_6_0 sf1_7_0 lf1_8 Af1_8 cf1_8 sf1_9_0 sf1_10_0 lf1_11 Af1_11 cf1_11 lf1_12 Af1_12 cf1_12 lf1_13 Af1_13 cf1_13 LT r)
def compile_maker_list.r0 (l1 : List SStmt) (rec_compile_maker_stmt : (List SIns) → Int → Int → Int → Int → Int → (List SExpr) → Int → Int → Int → (List SExpr) → Int → Int → (List SExpr) → (List SStmt) → (List SStmt) → Option ((List SIns) × Int)) : Nat × (List SIns) × Int → Option ((Nat × (List SIns) × Int) ⊕ (((List SIns) × Int) ⊕ ((List SIns) × Int)))
 | (i1,m1,z1) =>
  if (i1:Int)<(l1.length:Int) then
   match l1[i1]? with
   | none=>none
   | some e1 =>
    match rec_compile_maker_stmt m1 z1 e1.Kind e1.N e1.E.Kind e1.E.N e1.E.A e1.If.Kind e1.If.A.Kind e1.If.A.N e1.If.A.A e1.If.B.Kind e1.If.B.N e1.If.B.A e1.Body e1.Else with
    | none=>none
    | some r1 =>
     some (.inl ((i1+1),r1.1,r1.2))
  else
   some (.inr (.inl (m1,z1)))
def compile_maker_list.b (K : Nat) (rec_compile_maker_stmt : (List SIns) → Int → Int → Int → Int → Int → (List SExpr) → Int → Int → Int → (List SExpr) → Int → Int → (List SExpr) → (List SStmt) → (List SStmt) → Option ((List SIns) × Int)) (lp0_0 : List SIns) (sp0_1 : Int) (l1 : List SStmt) : Option ((List SIns) × Int) :=
 match iter (compile_maker_list.r0 l1 rec_compile_maker_stmt) K (0,lp0_0,sp0_1) with
 | none=>none
 | some (.inl (m3,z3)) =>
  some (m3,z3)
 | some (.inr rr1) =>
  some rr1
abbrev compile_maker_list.A0 (w0:World) (bp0:Nat) (l1:List SStmt) (A1:OA) (c1:Nat) (LT:List Own):(Nat×(List SIns)×Int)→Act→World→Prop:=fun (s:Nat×(List SIns)×Int) a w=>∃ (v1:Value),St w0 w [bk bp0 #[v1,vI s.2.2] 123,Own.of v1 29 s.2.1,Own.all LT]∧Frm 16 a [(0,pP bp0 0),(6,.slice A1 l1.length c1),(7,vI (l1.length:Int)),(8,vI (s.1:Int))]
abbrev compile_maker_list.B0 (w0:World) (Z:Zone) (bp0:Nat) (lp0_0:List SIns) (Ap0_0:OA) (cp0_0:Nat) (sp0_1:Int) (l1:List SStmt) (A1:OA) (c1:Nat) (LT:List Own):(((List SIns)×Int) ⊕ ((List SIns)×Int))→Exit→Act→World→Prop:=Exits 0 (fun (s:(List SIns)×Int) a w=>∃ (v2:Value),St w0 w [bk bp0 #[v2,vI s.2] 123,Own.of v2 29 s.1,Own.all LT]∧Frm 16 a [(0,pP bp0 0)]) (Rets Try.prog Try.f65 (compile_maker_list.Post w0 Z bp0 lp0_0 Ap0_0 cp0_0 sp0_1 l1 A1 c1 LT))
theorem compile_maker_list_r0 (K:Nat) (w0:World) (Z:Zone) (bp0:Nat) (lp0_0:List SIns) (Ap0_0:OA) (cp0_0:Nat) (sp0_1:Int) (l1:List SStmt) (A1:OA) (c1:Nat) (LT:List Own) (hZ:∀ w L,St w0 w (Own.all LT::L)→∀ w',Sub w w'→Z w') (hR1:RdZ Z A1 l1) (hL1:l1.length≤c1) (rec_compile_maker_stmt:(List SIns)→Int→Int→Int→Int→Int→(List SExpr)→Int→Int→Int→(List SExpr)→Int→Int→(List SExpr)→(List SStmt)→(List SStmt)→Option ((List SIns)×Int)) (hr_compile_maker_stmt:compile_maker_stmt.Rec rec_compile_maker_stmt) (s:Nat×(List SIns)×Int) (o:(Nat×(List SIns)×Int) ⊕ (((List SIns)×Int) ⊕ ((List SIns)×Int))) (h:compile_maker_list.r0 l1 rec_compile_maker_stmt s=some o) (a:Act) (w:World) (hA:compile_maker_list.A0 w0 bp0 l1 A1 c1 LT s a w) (Q:Exit→Act→World→Prop) (hQ:∀ x a w,Outs (compile_maker_list.A0 w0 bp0 l1 A1 c1 LT) (compile_maker_list.B0 w0 Z bp0 lp0_0 Ap0_0 cp0_0 sp0_1 l1 A1 c1 LT) o x a w→Q x a w):(subF Try.f65 [1,0,0]).wp Try.prog Q a w:=by
 obtain ⟨i1,m1,z1⟩:=s
 obtain ⟨v1,hS,hF⟩:=hA
 replace hS:St w0 w [bk bp0 #[v1,vI z1] 123,Own.of v1 29 m1,Own.all LT]:=hS
 simp only [compile_maker_list.r0] at h
 refine (?_:WE Try.prog 16 (subF Try.f65 [1,0,0]) Q [(0,pP bp0 0),(6,.slice A1 l1.length c1),(7,vI (l1.length:Int)),(8,vI (i1:Int))] w) a hF
 clear hF a
 refine ws fun K2 hK2=>wr [(0,0)]<|gb0 [0] [(9,.bool (decide ((i1:Int)<(l1.length:Int))))]<|gn hK2<|ws fun K3 hK3=>?_
 by_cases hc1:(i1:Int)<(l1.length:Int)
 ·rw [if_pos hc1] at h
  refine wk 9 (decide ((i1:Int)<(l1.length:Int))) true (decide_eq_true hc1)<|wt<|we_skip fun a hF=>hK3 _ _ ?_ a hF
  refine ws fun K4 hK4=>we_block<|ws fun K5 hK5=>wr [(0,0),(1,0),(2,1),(3,2)] ?_
  rcases hx1:l1[i1]? with _ | e1
  ·rw [hx1] at h; cases h
  rw [hx1] at h
  simp only [] at h
  obtain ⟨An1,cn1,An2,cn2,An3,cn3,An4,cn4,An5,cn5,hCs1,hLn1,hRn1,hLn2,hRn2,hLn3,hRn3,hLn4,hRn4,hLn5,hRn5⟩:=SStmt.getZ hR1 hx1
  refine gi 10 0 38 49 14 l1.length c1 (.tmp 6) (.tmp 8) A1 .i64 (i1:Int) i1 (hR1.eqSome (hZ _ _ (hS.bring 2 rfl) _ (Sub.refl _)) (pos_of_get hx1)) rfl (lt_of_get hx1) ?_
  refine gb [1] [(11,.agg #[vI e1.Kind,vI e1.N,vI e1.E.Kind,vI e1.E.N,.slice An1 e1.E.A.length cn1,vI e1.If.Kind,vI e1.If.A.Kind,vI e1.If.A.N,.slice An2 e1.If.A.A.length cn2,vI e1.If.B.Kind,vI e1.If.B.N,.slice An3 e1.If.B.A.length cn3,.slice An4 e1.Body.length cn4,.slice An5 e1.Else.length cn5])] [.loaded ⟨blkOf A1,offOf A1+i1*14,none⟩ (vI e1.Kind),.loaded ⟨blkOf A1,offOf A1+i1*14+1,none⟩ (vI e1.N),.loaded ⟨blkOf A1,offOf A1+i1*14+2,none⟩ (vI e1.E.Kind),.loaded ⟨blkOf A1,offOf A1+i1*14+3,none⟩ (vI e1.E.N),.loaded ⟨blkOf A1,offOf A1+i1*14+4,none⟩ (.slice An1 e1.E.A.length cn1),.loaded ⟨blkOf A1,offOf A1+i1*14+5,none⟩ (vI e1.If.Kind),.loaded ⟨blkOf A1,offOf A1+i1*14+6,none⟩ (vI e1.If.A.Kind),.loaded ⟨blkOf A1,offOf A1+i1*14+7,none⟩ (vI e1.If.A.N),.loaded ⟨blkOf A1,offOf A1+i1*14+8,none⟩ (.slice An2 e1.If.A.A.length cn2),.loaded ⟨blkOf A1,offOf A1+i1*14+9,none⟩ (vI e1.If.B.Kind),.loaded ⟨blkOf A1,offOf A1+i1*14+10,none⟩ (vI e1.If.B.N),.loaded ⟨blkOf A1,offOf A1+i1*14+11,none⟩ (.slice An3 e1.If.B.A.length cn3),.loaded ⟨blkOf A1,offOf A1+i1*14+12,none⟩ (.slice An4 e1.Body.length cn4),.loaded ⟨blkOf A1,offOf A1+i1*14+13,none⟩ (.slice An5 e1.Else.length cn5)] ⟨hCs1 _ (hZ _ _ (hS.bring 2 rfl) _ (Sub.refl _)) 0 _ rfl,hCs1 _ (hZ _ _ (hS.bring 2 rfl) _ (Sub.refl _)) 1 _ rfl,hCs1 _ (hZ _ _ (hS.bring 2 rfl) _ (Sub.refl _)) 2 _ rfl,hCs1 _ (hZ _ _ (hS.bring 2 rfl) _ (Sub.refl _)) 3 _ rfl,hCs1 _ (hZ _ _ (hS.bring 2 rfl) _ (Sub.refl _)) 4 _ rfl,hCs1 _ (hZ _ _ (hS.bring 2 rfl) _ (Sub.refl _)) 5 _ rfl,hCs1 _ (hZ _ _ (hS.bring 2 rfl) _ (Sub.refl _)) 6 _ rfl,hCs1 _ (hZ _ _ (hS.bring 2 rfl) _ (Sub.refl _)) 7 _ rfl,hCs1 _ (hZ _ _ (hS.bring 2 rfl) _ (Sub.refl _)) 8 _ rfl,hCs1 _ (hZ _ _ (hS.bring 2 rfl) _ (Sub.refl _)) 9 _ rfl,hCs1 _ (hZ _ _ (hS.bring 2 rfl) _ (Sub.refl _)) 10 _ rfl,hCs1 _ (hZ _ _ (hS.bring 2 rfl) _ (Sub.refl _)) 11 _ rfl,hCs1 _ (hZ _ _ (hS.bring 2 rfl) _ (Sub.refl _)) 12 _ rfl,hCs1 _ (hZ _ _ (hS.bring 2 rfl) _ (Sub.refl _)) 13 _ rfl,trivial⟩<|gw (some 5) (.cells #[vI 0,vI 0,vI 0,vI 0,.slice none 0 0,vI 0,vI 0,vI 0,.slice none 0 0,vI 0,vI 0,.slice none 0 0,.slice none 0 0,.slice none 0 0] 49) (fun b=>pP b 0) hS fun b1 w1 hx2 hS4=>?_
  refine gs b1 0 #[vI 0,vI 0,vI 0,vI 0,.slice none 0 0,vI 0,vI 0,vI 0,.slice none 0 0,vI 0,vI 0,.slice none 0 0,.slice none 0 0,.slice none 0 0] 49 [vI e1.Kind,vI e1.N,vI e1.E.Kind,vI e1.E.N,.slice An1 e1.E.A.length cn1,vI e1.If.Kind,vI e1.If.A.Kind,vI e1.If.A.N,.slice An2 e1.If.A.A.length cn2,vI e1.If.B.Kind,vI e1.If.B.N,.slice An3 e1.If.B.A.length cn3,.slice An4 e1.Body.length cn4,.slice An5 e1.Else.length cn5] hS4 fun w2 hS5=>?_
  have hS6:=hS5.nc #[vI e1.Kind,vI e1.N,vI e1.E.Kind,vI e1.E.N,.slice An1 e1.E.A.length cn1,vI e1.If.Kind,vI e1.If.A.Kind,vI e1.If.A.N,.slice An2 e1.If.A.A.length cn2,vI e1.If.B.Kind,vI e1.If.B.N,.slice An3 e1.If.B.A.length cn3,.slice An4 e1.Body.length cn4,.slice An5 e1.Else.length cn5] (by kernel_rfl)
  refine gn hK5<|wr [(0,0),(1,0),(2,2)]<|gb [0,1] [(13,.agg #[vI e1.Kind,vI e1.N,vI e1.E.Kind,vI e1.E.N,.slice An1 e1.E.A.length cn1,vI e1.If.Kind,vI e1.If.A.Kind,vI e1.If.A.N,.slice An2 e1.If.A.A.length cn2,vI e1.If.B.Kind,vI e1.If.B.N,.slice An3 e1.If.B.A.length cn3,.slice An4 e1.Body.length cn4,.slice An5 e1.Else.length cn5]),(12,pP bp0 0)] [ld b1 0 (vI e1.Kind),ld b1 1 (vI e1.N),ld b1 2 (vI e1.E.Kind),ld b1 3 (vI e1.E.N),ld b1 4 (.slice An1 e1.E.A.length cn1),ld b1 5 (vI e1.If.Kind),ld b1 6 (vI e1.If.A.Kind),ld b1 7 (vI e1.If.A.N),ld b1 8 (.slice An2 e1.If.A.A.length cn2),ld b1 9 (vI e1.If.B.Kind),ld b1 10 (vI e1.If.B.N),ld b1 11 (.slice An3 e1.If.B.A.length cn3),ld b1 12 (.slice An4 e1.Body.length cn4),ld b1 13 (.slice An5 e1.Else.length cn5)] ⟨hS6.c 0,hS6.c 0,hS6.c 0,hS6.c 0,hS6.c 0,hS6.c 0,hS6.c 0,hS6.c 0,hS6.c 0,hS6.c 0,hS6.c 0,hS6.c 0,hS6.c 0,hS6.c 0,trivial⟩ ?_
  obtain ⟨Z1,cz1,rfl⟩:=hS6.open 2 rfl
  rcases hq1:rec_compile_maker_stmt m1 z1 e1.Kind e1.N e1.E.Kind e1.E.N e1.E.A e1.If.Kind e1.If.A.Kind e1.If.A.N e1.If.A.A e1.If.B.Kind e1.If.B.N e1.If.B.A e1.Body e1.Else with _ | r1
  ·rw [hq1] at h; cases h
  rw [hq1] at h
  simp only [] at h
  have hS10:=((hS6.b 2).b 2).packN 2
  refine ge_call2 (m:=0) (d:=some 14) (f:=88) (args:=#[pP bp0 0,.agg #[vI e1.Kind,vI e1.N,vI e1.E.Kind,vI e1.E.N,.slice An1 e1.E.A.length cn1,vI e1.If.Kind,vI e1.If.A.Kind,vI e1.If.A.N,.slice An2 e1.If.A.A.length cn2,vI e1.If.B.Kind,vI e1.If.B.N,.slice An3 e1.If.B.A.length cn3,.slice An4 e1.Body.length cn4,.slice An5 e1.Else.length cn5]]) (by kernel_rfl) (hr_compile_maker_stmt Z bp0 m1 Z1 cz1 z1 e1.Kind e1.N e1.E.Kind e1.E.N e1.E.A An1 cn1 e1.If.Kind e1.If.A.Kind e1.If.A.N e1.If.A.A An2 cn2 e1.If.B.Kind e1.If.B.N e1.If.B.A An3 cn3 e1.Body An4 cn4 e1.Else An5 cn5 _ _ _ hS10 (fun w L h w' k=>(hZ _ _ (h.spread.bring 1 rfl) w' k)) hRn1 hLn1 hRn2 hLn2 hRn3 hLn3 hRn4 hLn4 hRn5 hLn5 _ hq1) ?_
  rintro _ w3 ⟨v3,rfl,hS9⟩
  refine ⟨_,rfl,?_⟩
  have hS11:=hS9.unpack [bk bp0 #[v3,vI r1.2] 123,Own.of v3 29 r1.1]
  refine gn hK4<|wr [(0,0),(1,0)]<|ge_addn (d:=15) (ty:=3) (x:=(.tmp 8)) (y:=(.const (vI 1))) (t:=3) (t2:=3) (k:=.i64) (m:=i1) (by kernel_rfl) (by kernel_rfl) (by kernel_rfl) (by have h0:=RdZ.small hR1 (hZ _ _ (hS11.bring 3 rfl) _ (Sub.refl _)); omega) ?_
  refine gb0 [1] [(8,vI ((i1+1:Nat):Int))] ?_
  have hS15:=hS11.p [0,1,3] rfl
  obtain rfl:=si h
  exact ge_nil fun a hF=>hQ _ _ _ (Outs.again ⟨v3,hS15,hF.weaken ea⟩)
 rw [if_neg hc1] at h
 refine wk 9 (decide ((i1:Int)<(l1.length:Int))) false (decide_eq_false hc1)<|wf ?_
 have hS18:=((hS.b 2).b 2).b 2
 obtain rfl:=si h
 exact we_exit fun a hF=>hQ _ _ _ (Outs.out nofun (Exits.here ⟨v1,hS18,hF.weaken ea⟩))
theorem compile_maker_list_step (K:Nat) (rec_compile_maker_stmt:(List SIns)→Int→Int→Int→Int→Int→(List SExpr)→Int→Int→Int→(List SExpr)→Int→Int→(List SExpr)→(List SStmt)→(List SStmt)→Option ((List SIns)×Int)) (hr_compile_maker_stmt:compile_maker_stmt.Rec rec_compile_maker_stmt) (Z:Zone) (bp0:Nat) (lp0_0:List SIns) (Ap0_0:OA) (cp0_0:Nat) (sp0_1:Int) (l1:List SStmt) (A1:OA) (c1:Nat) (w0 wE:World) (LT:List Own) (hS:St w0 wE [bk bp0 #[(.slice Ap0_0 lp0_0.length cp0_0),vI sp0_1] 123,ro Ap0_0 cp0_0 29 lp0_0,Own.all LT]) (hZ:∀ w L,St w0 w (Own.all LT::L)→∀ w',Sub w w'→Z w') (hR1:RdZ Z A1 l1) (hL1:l1.length≤c1) (r:(List SIns)×Int) (h:compile_maker_list.b K rec_compile_maker_stmt lp0_0 sp0_1 l1=some r) :
  Calls Try.prog 65 #[pP bp0 0,.slice A1 l1.length c1] wE (compile_maker_list.Post w0 Z bp0 lp0_0 Ap0_0 cp0_0 sp0_1 l1 A1 c1 LT r):=by
 unfold compile_maker_list.b at h
 refine calls_enter (n:=16) (args:=[pP bp0 0,.slice A1 l1.length c1]) (fn:=Try.f65) rfl rfl rfl rfl ?_
 show WE _ _ _ _ [(0,pP bp0 0),(1,.slice A1 l1.length c1)] _
 refine ws fun K1 hK1=>wr [(0,0),(1,0),(2,0)]<|gb0 [0,1,2] [(8,vI 0),(7,vI (l1.length:Int)),(6,.slice A1 l1.length c1)]<|gn hK1<|we_block ?_
 have hS3:=((hS.b 2).b 2).b 2
 rcases hq2:iter (compile_maker_list.r0 l1 rec_compile_maker_stmt) K (0,lp0_0,sp0_1) with _ | (⟨m3,z3⟩ | rr1)
 ·rw [hq2] at h; cases h
 ·rw [hq2] at h
  simp only [] at h
  refine we_iter (A:=compile_maker_list.A0 w0 bp0 l1 A1 c1 LT) (B:=compile_maker_list.B0 w0 Z bp0 lp0_0 Ap0_0 cp0_0 sp0_1 l1 A1 c1 LT) hq2 (fun a hF=>⟨(.slice Ap0_0 lp0_0.length cp0_0),hS3,hF.weaken ea⟩) (fun s o hf a w hA Q hQ=>compile_maker_list_r0 K w0 Z bp0 lp0_0 Ap0_0 cp0_0 sp0_1 l1 A1 c1 LT hZ hR1 hL1 rec_compile_maker_stmt hr_compile_maker_stmt s o hf a w hA Q hQ) ?_
  rintro _ a w4 _ ⟨rfl,v4,hS19,hF⟩
  replace hS19:St w0 w4 [bk bp0 #[v4,vI z3] 123,Own.of v4 29 m3,Own.all LT]:=hS19
  have hS22:=((hS19.b 2).b 2).b 2
  obtain rfl:=si h
  exact (pe0 [] [] ⟨v4,rfl,hS22⟩) a hF
 rw [hq2] at h
 simp only [] at h
 refine we_iter (A:=compile_maker_list.A0 w0 bp0 l1 A1 c1 LT) (B:=compile_maker_list.B0 w0 Z bp0 lp0_0 Ap0_0 cp0_0 sp0_1 l1 A1 c1 LT) hq2 (fun a hF=>⟨(.slice Ap0_0 lp0_0.length cp0_0),hS3,hF.weaken ea⟩) (fun s o hf a w hA Q hQ=>compile_maker_list_r0 K w0 Z bp0 lp0_0 Ap0_0 cp0_0 sp0_1 l1 A1 c1 LT hZ hR1 hL1 rec_compile_maker_stmt hr_compile_maker_stmt s o hf a w hA Q hQ) ?_
 rintro _ a w1 _ ⟨rfl,hb⟩
 obtain rfl:=si h
 exact hb
def compile_maker_stmt.b (K : Nat) (rec_compile_maker_list : (List SIns) → Int → (List SStmt) → Option ((List SIns) × Int)) (rec_compile_maker_loop_v1 : (List SIns) → Int → Int → Int → Int → Int → Int → (List SExpr) → Int → Int → Int → (List SExpr) → Int → Int → (List SExpr) → (List SStmt) → (List SStmt) → Option ((List SIns) × Int)) (rec_compile_maker_loop_v2 : (List SIns) → Int → Int → Int → Int → Int → Int → (List SExpr) → Int → Int → Int → (List SExpr) → Int → Int → (List SExpr) → (List SStmt) → (List SStmt) → Option ((List SIns) × Int)) (lp0_0 : List SIns) (sp0_1 : Int) (x1_0 : Int) (x1_1 : Int) (x1_2_0 : Int) (x1_2_1 : Int) (l1_2_2 : List SExpr) (x1_3_0 : Int) (x1_3_1_0 : Int) (x1_3_1_1 : Int) (l1_3_1_2 : List SExpr) (x1_3_2_0 : Int) (x1_3_2_1 : Int) (l1_3_2_2 : List SExpr) (l1_4 : List SStmt) (l1_5 : List SStmt) : Option ((List SIns) × Int) :=
 if x1_0=1 then
  match compile_maker_value.f K lp0_0 sp0_1 x1_2_0 x1_2_1 l1_2_2 with
  | none=>none
  | some r1 =>
   match compile_maker_put.f r1 sp0_1 3 x1_1 0 with
   | none=>none
   | some r2 =>
    some (r2.2,sp0_1)
 else
  if x1_0=2 then
   match compile_maker_value.f K lp0_0 sp0_1 x1_2_0 x1_2_1 l1_2_2 with
   | none=>none
   | some r3 =>
    match compile_maker_put.f r3 sp0_1 10 x1_1 0 with
    | none=>none
    | some r4 =>
     some (r4.2,sp0_1)
  else
   if x1_0=3 then
    match compile_maker_unless.f K lp0_0 sp0_1 x1_3_0 x1_3_1_0 x1_3_1_1 l1_3_1_2 x1_3_2_0 x1_3_2_1 l1_3_2_2 with
    | none=>none
    | some r5 =>
     match rec_compile_maker_list r5.2 sp0_1 l1_4 with
     | none=>none
     | some r6 =>
      if (l1_5.length:Int) > 0 then
       match compile_maker_put.f r6.1 r6.2 11 0 0 with
       | none=>none
       | some r7 =>
        match compile_maker_here.f r7.2 r6.2 r5.1 with
        | none=>none
        | some r8 =>
         match rec_compile_maker_list r8 r6.2 l1_5 with
         | none=>none
         | some r9 =>
          match compile_maker_here.f r9.1 r9.2 r7.1 with
          | none=>none
          | some r10 =>
           some (r10,r9.2)
      else
       match compile_maker_here.f r6.1 r6.2 r5.1 with
       | none=>none
       | some r11 =>
        some (r11,r6.2)
   else
    if x1_0=4 then
     match rec_compile_maker_loop_v1 lp0_0 sp0_1 x1_1 x1_0 x1_1 x1_2_0 x1_2_1 l1_2_2 x1_3_0 x1_3_1_0 x1_3_1_1 l1_3_1_2 x1_3_2_0 x1_3_2_1 l1_3_2_2 l1_4 l1_5 with
     | none=>none
     | some r12 =>
      some (r12.1,r12.2)
    else
     if x1_0=5 then
      match rec_compile_maker_loop_v2 lp0_0 sp0_1 x1_1 x1_0 x1_1 x1_2_0 x1_2_1 l1_2_2 x1_3_0 x1_3_1_0 x1_3_1_1 l1_3_1_2 x1_3_2_0 x1_3_2_1 l1_3_2_2 l1_4 l1_5 with
      | none=>none
      | some r13 =>
       some (r13.1,r13.2)
     else
      if x1_0=6 then
       match compile_maker_put.f lp0_0 sp0_1 16 x1_1 0 with
       | none=>none
       | some r14 =>
        match rec_compile_maker_list r14.2 sp0_1 l1_4 with
        | none=>none
        | some r15 =>
         match compile_maker_put.f r15.1 r15.2 17 x1_1 0 with
         | none=>none
         | some r16 =>
          some (r16.2,r15.2)
      else
       if x1_0=7 then
        match compile_maker_put.f lp0_0 sp0_1 18 x1_1 0 with
        | none=>none
        | some r17 =>
         some (r17.2,sp0_1)
       else
        some (lp0_0,sp0_1)
theorem compile_maker_stmt_step (K:Nat) (rec_compile_maker_list:(List SIns)→Int→(List SStmt)→Option ((List SIns)×Int)) (hr_compile_maker_list:compile_maker_list.Rec rec_compile_maker_list) (rec_compile_maker_loop_v1:(List SIns)→Int→Int→Int→Int→Int→Int→(List SExpr)→Int→Int→Int→(List SExpr)→Int→Int→(List SExpr)→(List SStmt)→(List SStmt)→Option ((List SIns)×Int)) (hr_compile_maker_loop_v1:compile_maker_loop_v1.Rec rec_compile_maker_loop_v1) (rec_compile_maker_loop_v2:(List SIns)→Int→Int→Int→Int→Int→Int→(List SExpr)→Int→Int→Int→(List SExpr)→Int→Int→(List SExpr)→(List SStmt)→(List SStmt)→Option ((List SIns)×Int)) (hr_compile_maker_loop_v2:compile_maker_loop_v2.Rec rec_compile_maker_loop_v2) (Z:Zone) (bp0:Nat) (lp0_0:List SIns) (Ap0_0:OA) (cp0_0:Nat) (sp0_1 x1_0 x1_1 x1_2_0 x1_2_1:Int) (l1_2_2:List SExpr) (A1_2_2:OA) (c1_2_2:Nat) (x1_3_0 x1_3_1_0 x1_3_1_1:Int) (l1_3_1_2:List SExpr) (A1_3_1_2:OA) (c1_3_1_2:Nat) (x1_3_2_0 x1_3_2_1:Int) (l1_3_2_2:List SExpr) (A1_3_2_2:OA) (c1_3_2_2:Nat) (l1_4:List SStmt) (A1_4:OA) (c1_4:Nat) (l1_5:List SStmt) (A1_5:OA) (c1_5:Nat) (w0 wE:World) (LT:List Own) (hS:St w0 wE [bk bp0 #[(.slice Ap0_0 lp0_0.length cp0_0),vI sp0_1] 123,ro Ap0_0 cp0_0 29 lp0_0,Own.all LT]) (hZ:∀ w L,St w0 w (Own.all LT::L)→∀ w',Sub w w'→Z w') (hR1_2_2:RdZ Z A1_2_2 l1_2_2) (hL1_2_2:l1_2_2.length≤c1_2_2) (hR1_3_1_2:RdZ Z A1_3_1_2 l1_3_1_2) (hL1_3_1_2:l1_3_1_2.length≤c1_3_1_2) (hR1_3_2_2:RdZ Z A1_3_2_2 l1_3_2_2) (hL1_3_2_2:l1_3_2_2.length≤c1_3_2_2) (hR1_4:RdZ Z A1_4 l1_4) (hL1_4:l1_4.length≤c1_4) (hR1_5:RdZ Z A1_5 l1_5) (hL1_5:l1_5.length≤c1_5) (r:(List SIns)×Int) (h:compile_maker_stmt.b K rec_compile_maker_list rec_compile_maker_loop_v1 rec_compile_maker_loop_v2 lp0_0 sp0_1 x1_0 x1_1 x1_2_0 x1_2_1 l1_2_2 x1_3_0 x1_3_1_0 x1_3_1_1 l1_3_1_2 x1_3_2_0 x1_3_2_1 l1_3_2_2 l1_4 l1_5=some r) :
  Calls Try.prog 88 #[pP bp0 0,.agg #[vI x1_0,vI x1_1,vI x1_2_0,vI x1_2_1,.slice A1_2_2 l1_2_2.length c1_2_2,vI x1_3_0,vI x1_3_1_0,vI x1_3_1_1,.slice A1_3_1_2 l1_3_1_2.length c1_3_1_2,vI x1_3_2_0,vI x1_3_2_1,.slice A1_3_2_2 l1_3_2_2.length c1_3_2_2,.slice A1_4 l1_4.length c1_4,.slice A1_5 l1_5.length c1_5]] wE (compile_maker_stmt.Post w0 Z bp0 lp0_0 Ap0_0 cp0_0 sp0_1 x1_0 x1_1 x1_2_0 x1_2_1 l1_2_2 A1_2_2 c1_2_2 x1_3_0 x1_3_1_0 x1_3_1_1 l1_3_1_2 A1_3_1_2 c1_3_1_2 x1_3_2_0 x1_3_2_1 l1_3_2_2 A1_3_2_2 c1_3_2_2 l1_4 A1_4 c1_4 l1_5 A1_5 c1_5 LT r):=by
 unfold compile_maker_stmt.b at h
 refine calls_enter (n:=89) (args:=[pP bp0 0,.agg #[vI x1_0,vI x1_1,vI x1_2_0,vI x1_2_1,.slice A1_2_2 l1_2_2.length c1_2_2,vI x1_3_0,vI x1_3_1_0,vI x1_3_1_1,.slice A1_3_1_2 l1_3_1_2.length c1_3_1_2,vI x1_3_2_0,vI x1_3_2_1,.slice A1_3_2_2 l1_3_2_2.length c1_3_2_2,.slice A1_4 l1_4.length c1_4,.slice A1_5 l1_5.length c1_5]]) (fn:=Try.f88) rfl rfl rfl rfl ?_
 show WE _ _ _ _ [(0,pP bp0 0),(1,.agg #[vI x1_0,vI x1_1,vI x1_2_0,vI x1_2_1,.slice A1_2_2 l1_2_2.length c1_2_2,vI x1_3_0,vI x1_3_1_0,vI x1_3_1_1,.slice A1_3_1_2 l1_3_1_2.length c1_3_1_2,vI x1_3_2_0,vI x1_3_2_1,.slice A1_3_2_2 l1_3_2_2.length c1_3_2_2,.slice A1_4 l1_4.length c1_4,.slice A1_5 l1_5.length c1_5])] _
 refine ws fun K1 hK1=>wr [(0,1),(1,1)]<|gw (some 2) (.cells #[pP bp0 0] 121) (fun b=>pP b 0) hS fun b1 w1 hx1 hS1=>?_
 refine gw (some 3) (.cells #[vI x1_0,vI x1_1,vI x1_2_0,vI x1_2_1,.slice A1_2_2 l1_2_2.length c1_2_2,vI x1_3_0,vI x1_3_1_0,vI x1_3_1_1,.slice A1_3_1_2 l1_3_1_2.length c1_3_1_2,vI x1_3_2_0,vI x1_3_2_1,.slice A1_3_2_2 l1_3_2_2.length c1_3_2_2,.slice A1_4 l1_4.length c1_4,.slice A1_5 l1_5.length c1_5] 49) (fun b=>pP b 0) hS1 fun b2 w2 hx2 hS2=>?_
 refine gn hK1<|ws fun K2 hK2=>wr [(0,0),(1,0)]<|gb [0,1] [(7,vI x1_0),(6,pP b2 0)] [ld b2 0 (vI x1_0)] ⟨hS2.c 0,trivial⟩<|gn hK2<|we_block<|ws fun K3 hK3=>wr [(0,0),(1,0)]<|gb0 [0,1] [(8,.bool (x1_0==1)),(9,.bool (x1_0==1))]<|gn hK3 ?_
 by_cases hc1:x1_0=1
 ·rw [if_pos hc1] at h
  refine wk 8 (x1_0==1) true (beq_iff_eq.2 hc1)<|wt<|ws fun K4 hK4=>wr [(0,0),(1,0),(2,0),(3,2)]<|gb [0,1,2] [(12,.agg #[vI x1_2_0,vI x1_2_1,.slice A1_2_2 l1_2_2.length c1_2_2]),(11,pP b2 2),(10,pP bp0 0)] [ld b1 0 (pP bp0 0),ld b2 2 (vI x1_2_0),ld b2 3 (vI x1_2_1),ld b2 4 (.slice A1_2_2 l1_2_2.length c1_2_2)] ⟨hS2.c 1,hS2.c 0,hS2.c 0,hS2.c 0,trivial⟩ ?_
  rcases hq1:compile_maker_value.f K lp0_0 sp0_1 x1_2_0 x1_2_1 l1_2_2 with _ | r1
  ·rw [hq1] at h; cases h
  rw [hq1] at h
  simp only [] at h
  have hS6:=((hS2.b 3).b 3).packN 2
  refine ge_call2 (m:=0) (d:=some 13) (f:=108) (args:=#[pP bp0 0,.agg #[vI x1_2_0,vI x1_2_1,.slice A1_2_2 l1_2_2.length c1_2_2]]) (by kernel_rfl) (compile_maker_value_ok K Z bp0 lp0_0 Ap0_0 cp0_0 sp0_1 x1_2_0 x1_2_1 l1_2_2 A1_2_2 c1_2_2 _ _ _ hS6 (fun w L h w' k=>(hZ _ _ (h.spread.bring 2 rfl) w' k)) hR1_2_2 hL1_2_2 _ hq1) ?_
  rintro _ w3 ⟨v1,rfl,hS5⟩
  refine ⟨_,rfl,?_⟩
  have hS7:=hS5.unpack [bk bp0 #[v1,vI sp0_1] 123,Own.of v1 29 r1]
  refine gn hK4<|wr [(0,0),(1,0),(2,0),(3,2)]<|gb [0,1,2] [(16,vI x1_1),(15,pP b2 1),(14,pP bp0 0)] [ld b1 0 (pP bp0 0),ld b2 1 (vI x1_1)] ⟨hS7.c 3,hS7.c 2,trivial⟩ ?_
  obtain ⟨Z1,cz1,rfl⟩:=hS7.open 1 rfl
  rcases hq2:compile_maker_put.f r1 sp0_1 3 x1_1 0 with _ | r2
  ·rw [hq2] at h; cases h
  rw [hq2] at h
  simp only [] at h
  have hS11:=((hS7.b 1).b 1).packN 2
  refine ge_call2 (m:=0) (d:=some 17) (f:=109) (args:=#[pP bp0 0,vI 3,vI x1_1,vI 0]) (by kernel_rfl) (compile_maker_put_ok bp0 r1 Z1 cz1 sp0_1 3 x1_1 0 _ _ _ hS11 _ hq2) ?_
  rintro _ w4 ⟨v2,rfl,hS10⟩
  refine ⟨_,rfl,?_⟩
  have hS16:=((((hS10.unpack [bk bp0 #[v2,vI sp0_1] 123,Own.of v2 29 r2.2]).b 4).b 2).b 2).takeN 3
  obtain rfl:=si h
  exact ge_nil (pe0 [] [] ⟨v2,rfl,hS16⟩)
 rw [if_neg hc1] at h
 refine wk 8 (x1_0==1) false (beq_eq_false_iff_ne.2 hc1)<|wf<|ws fun K5 hK5=>wr [(0,0),(1,0)]<|gb0 [0,1] [(18,.bool (x1_0==2)),(19,.bool (x1_0==2))]<|gn hK5 ?_
 by_cases hc2:x1_0=2
 ·rw [if_pos hc2] at h
  refine wk 18 (x1_0==2) true (beq_iff_eq.2 hc2)<|wt<|ws fun K6 hK6=>wr [(0,0),(1,0),(2,0),(3,2)]<|gb [0,1,2] [(22,.agg #[vI x1_2_0,vI x1_2_1,.slice A1_2_2 l1_2_2.length c1_2_2]),(21,pP b2 2),(20,pP bp0 0)] [ld b1 0 (pP bp0 0),ld b2 2 (vI x1_2_0),ld b2 3 (vI x1_2_1),ld b2 4 (.slice A1_2_2 l1_2_2.length c1_2_2)] ⟨hS2.c 1,hS2.c 0,hS2.c 0,hS2.c 0,trivial⟩ ?_
  rcases hq3:compile_maker_value.f K lp0_0 sp0_1 x1_2_0 x1_2_1 l1_2_2 with _ | r3
  ·rw [hq3] at h; cases h
  rw [hq3] at h
  simp only [] at h
  have hS20:=((hS2.b 3).b 3).packN 2
  refine ge_call2 (m:=0) (d:=some 23) (f:=108) (args:=#[pP bp0 0,.agg #[vI x1_2_0,vI x1_2_1,.slice A1_2_2 l1_2_2.length c1_2_2]]) (by kernel_rfl) (compile_maker_value_ok K Z bp0 lp0_0 Ap0_0 cp0_0 sp0_1 x1_2_0 x1_2_1 l1_2_2 A1_2_2 c1_2_2 _ _ _ hS20 (fun w L h w' k=>(hZ _ _ (h.spread.bring 2 rfl) w' k)) hR1_2_2 hL1_2_2 _ hq3) ?_
  rintro _ w5 ⟨v3,rfl,hS19⟩
  refine ⟨_,rfl,?_⟩
  have hS21:=hS19.unpack [bk bp0 #[v3,vI sp0_1] 123,Own.of v3 29 r3]
  refine gn hK6<|wr [(0,0),(1,0),(2,0),(3,2)]<|gb [0,1,2] [(26,vI x1_1),(25,pP b2 1),(24,pP bp0 0)] [ld b1 0 (pP bp0 0),ld b2 1 (vI x1_1)] ⟨hS21.c 3,hS21.c 2,trivial⟩ ?_
  obtain ⟨Z2,cz2,rfl⟩:=hS21.open 1 rfl
  rcases hq4:compile_maker_put.f r3 sp0_1 10 x1_1 0 with _ | r4
  ·rw [hq4] at h; cases h
  rw [hq4] at h
  simp only [] at h
  have hS25:=((hS21.b 1).b 1).packN 2
  refine ge_call2 (m:=0) (d:=some 27) (f:=109) (args:=#[pP bp0 0,vI 10,vI x1_1,vI 0]) (by kernel_rfl) (compile_maker_put_ok bp0 r3 Z2 cz2 sp0_1 10 x1_1 0 _ _ _ hS25 _ hq4) ?_
  rintro _ w6 ⟨v4,rfl,hS24⟩
  refine ⟨_,rfl,?_⟩
  have hS30:=((((hS24.unpack [bk bp0 #[v4,vI sp0_1] 123,Own.of v4 29 r4.2]).b 4).b 2).b 2).takeN 3
  obtain rfl:=si h
  exact ge_nil (pe0 [] [] ⟨v4,rfl,hS30⟩)
 rw [if_neg hc2] at h
 refine wk 18 (x1_0==2) false (beq_eq_false_iff_ne.2 hc2)<|wf<|ws fun K7 hK7=>wr [(0,0),(1,0)]<|gb0 [0,1] [(28,.bool (x1_0==3)),(29,.bool (x1_0==3))]<|gn hK7 ?_
 by_cases hc3:x1_0=3
 ·rw [if_pos hc3] at h
  refine wk 28 (x1_0==3) true (beq_iff_eq.2 hc3)<|wt<|ws fun K8 hK8=>wr [(0,0),(1,0),(2,0),(3,2),(4,0)]<|gb [0,1,2] [(32,.agg #[vI x1_3_0,vI x1_3_1_0,vI x1_3_1_1,.slice A1_3_1_2 l1_3_1_2.length c1_3_1_2,vI x1_3_2_0,vI x1_3_2_1,.slice A1_3_2_2 l1_3_2_2.length c1_3_2_2]),(31,pP b2 5),(30,pP bp0 0)] [ld b1 0 (pP bp0 0),ld b2 5 (vI x1_3_0),ld b2 6 (vI x1_3_1_0),ld b2 7 (vI x1_3_1_1),ld b2 8 (.slice A1_3_1_2 l1_3_1_2.length c1_3_1_2),ld b2 9 (vI x1_3_2_0),ld b2 10 (vI x1_3_2_1),ld b2 11 (.slice A1_3_2_2 l1_3_2_2.length c1_3_2_2)] ⟨hS2.c 1,hS2.c 0,hS2.c 0,hS2.c 0,hS2.c 0,hS2.c 0,hS2.c 0,hS2.c 0,trivial⟩ ?_
  rcases hq5:compile_maker_unless.f K lp0_0 sp0_1 x1_3_0 x1_3_1_0 x1_3_1_1 l1_3_1_2 x1_3_2_0 x1_3_2_1 l1_3_2_2 with _ | r5
  ·rw [hq5] at h; cases h
  rw [hq5] at h
  simp only [] at h
  have hS34:=((hS2.b 3).b 3).packN 2
  refine ge_call2 (m:=0) (d:=some 33) (f:=110) (args:=#[pP bp0 0,.agg #[vI x1_3_0,vI x1_3_1_0,vI x1_3_1_1,.slice A1_3_1_2 l1_3_1_2.length c1_3_1_2,vI x1_3_2_0,vI x1_3_2_1,.slice A1_3_2_2 l1_3_2_2.length c1_3_2_2]]) (by kernel_rfl) (compile_maker_unless_ok K Z bp0 lp0_0 Ap0_0 cp0_0 sp0_1 x1_3_0 x1_3_1_0 x1_3_1_1 l1_3_1_2 A1_3_1_2 c1_3_1_2 x1_3_2_0 x1_3_2_1 l1_3_2_2 A1_3_2_2 c1_3_2_2 _ _ _ hS34 (fun w L h w' k=>(hZ _ _ (h.spread.bring 2 rfl) w' k)) hR1_3_1_2 hL1_3_1_2 hR1_3_2_2 hL1_3_2_2 _ hq5) ?_
  rintro _ w7 ⟨v5,rfl,hS33⟩
  refine ⟨_,rfl,?_⟩
  have hS35:=hS33.unpack [bk bp0 #[v5,vI sp0_1] 123,Own.of v5 29 r5.2]
  refine gb0 [4] [(4,vI r5.1)]<|gn hK8<|ws fun K9 hK9=>wr [(0,0),(1,0),(2,0),(3,2)]<|gb [0,1,2] [(36,.slice A1_4 l1_4.length c1_4),(35,pP b2 12),(34,pP bp0 0)] [ld b1 0 (pP bp0 0),ld b2 12 (.slice A1_4 l1_4.length c1_4)] ⟨hS35.c 3,hS35.c 2,trivial⟩ ?_
  obtain ⟨Z3,cz3,rfl⟩:=hS35.open 1 rfl
  rcases hq6:rec_compile_maker_list r5.2 sp0_1 l1_4 with _ | r6
  ·rw [hq6] at h; cases h
  rw [hq6] at h
  simp only [] at h
  have hS39:=((hS35.b 1).b 1).packN 2
  refine ge_call2 (m:=0) (d:=some 37) (f:=65) (args:=#[pP bp0 0,.slice A1_4 l1_4.length c1_4]) (by kernel_rfl) (hr_compile_maker_list Z bp0 r5.2 Z3 cz3 sp0_1 l1_4 A1_4 c1_4 _ _ _ hS39 (fun w L h w' k=>(hZ _ _ (h.spread.bring 2 rfl) w' k)) hR1_4 hL1_4 _ hq6) ?_
  rintro _ w8 ⟨v6,rfl,hS38⟩
  refine ⟨_,rfl,?_⟩
  have hS40:=hS38.unpack [bk bp0 #[v6,vI r6.2] 123,Own.of v6 29 r6.1]
  refine gn hK9<|ws fun K10 hK10=>ws fun K11 hK11=>wr [(0,0),(1,0),(2,0),(3,0)]<|gb [0,1,2,3] [(41,.bool (decide ((l1_5.length:Int) > 0))),(40,vI (l1_5.length:Int)),(39,.slice A1_5 l1_5.length c1_5),(38,pP b2 13)] [ld b2 13 (.slice A1_5 l1_5.length c1_5)] ⟨hS40.c 2,trivial⟩<|gn hK11 ?_
  by_cases hc4:(l1_5.length:Int) > 0
  ·rw [if_pos hc4] at h
   refine wk 41 (decide ((l1_5.length:Int) > 0)) true (decide_eq_true hc4)<|wt<|ws fun K12 hK12=>wr [(0,0),(1,2),(2,0)]<|gb [0] [(42,pP bp0 0)] [ld b1 0 (pP bp0 0)] ⟨hS40.c 3,trivial⟩ ?_
   obtain ⟨Z4,cz4,rfl⟩:=hS40.open 1 rfl
   rcases hq7:compile_maker_put.f r6.1 r6.2 11 0 0 with _ | r7
   ·rw [hq7] at h; cases h
   rw [hq7] at h
   simp only [] at h
   have hS44:=((hS40.b 1).b 1).packN 2
   refine ge_call2 (m:=0) (d:=some 43) (f:=109) (args:=#[pP bp0 0,vI 11,vI 0,vI 0]) (by kernel_rfl) (compile_maker_put_ok bp0 r6.1 Z4 cz4 r6.2 11 0 0 _ _ _ hS44 _ hq7) ?_
   rintro _ w9 ⟨v7,rfl,hS43⟩
   refine ⟨_,rfl,?_⟩
   have hS45:=hS43.unpack [bk bp0 #[v7,vI r6.2] 123,Own.of v7 29 r7.2]
   refine gb0 [2] [(5,vI r7.1)]<|gn hK12<|ws fun K13 hK13=>wr [(0,0),(1,0),(2,2)]<|gb [0,1] [(45,vI r5.1),(44,pP bp0 0)] [ld b1 0 (pP bp0 0)] ⟨hS45.c 3,trivial⟩ ?_
   obtain ⟨Z5,cz5,rfl⟩:=hS45.open 1 rfl
   rcases hq8:compile_maker_here.f r7.2 r6.2 r5.1 with _ | r8
   ·rw [hq8] at h; cases h
   rw [hq8] at h
   simp only [] at h
   have hS49:=((hS45.b 1).b 1).packN 2
   refine ge_call2 (m:=0) (d:=some 46) (f:=111) (args:=#[pP bp0 0,vI r5.1]) (by kernel_rfl) (compile_maker_here_ok bp0 r7.2 Z5 cz5 r6.2 r5.1 _ _ _ hS49 _ hq8) ?_
   rintro _ w10 ⟨v8,rfl,hS48⟩
   refine ⟨_,rfl,?_⟩
   have hS50:=hS48.unpack [bk bp0 #[v8,vI r6.2] 123,Own.of v8 29 r8]
   refine gn hK13<|ws fun K14 hK14=>wr [(0,0),(1,0),(2,0),(3,2)]<|gb [0,1,2] [(49,.slice A1_5 l1_5.length c1_5),(48,pP b2 13),(47,pP bp0 0)] [ld b1 0 (pP bp0 0),ld b2 13 (.slice A1_5 l1_5.length c1_5)] ⟨hS50.c 3,hS50.c 2,trivial⟩ ?_
   obtain ⟨Z6,cz6,rfl⟩:=hS50.open 1 rfl
   rcases hq9:rec_compile_maker_list r8 r6.2 l1_5 with _ | r9
   ·rw [hq9] at h; cases h
   rw [hq9] at h
   simp only [] at h
   have hS54:=((hS50.b 1).b 1).packN 2
   refine ge_call2 (m:=0) (d:=some 50) (f:=65) (args:=#[pP bp0 0,.slice A1_5 l1_5.length c1_5]) (by kernel_rfl) (hr_compile_maker_list Z bp0 r8 Z6 cz6 r6.2 l1_5 A1_5 c1_5 _ _ _ hS54 (fun w L h w' k=>(hZ _ _ (h.spread.bring 2 rfl) w' k)) hR1_5 hL1_5 _ hq9) ?_
   rintro _ w11 ⟨v9,rfl,hS53⟩
   refine ⟨_,rfl,?_⟩
   have hS55:=hS53.unpack [bk bp0 #[v9,vI r9.2] 123,Own.of v9 29 r9.1]
   refine gn hK14<|wr [(0,0),(1,0)]<|gb0 [0,1] [(4,vI r7.1),(51,vI r7.1)]<|gn hK10<|wr [(0,0),(1,0),(2,2)]<|gb [0,1] [(53,vI r7.1),(52,pP bp0 0)] [ld b1 0 (pP bp0 0)] ⟨hS55.c 3,trivial⟩ ?_
   obtain ⟨Z7,cz7,rfl⟩:=hS55.open 1 rfl
   rcases hq10:compile_maker_here.f r9.1 r9.2 r7.1 with _ | r10
   ·rw [hq10] at h; cases h
   rw [hq10] at h
   simp only [] at h
   have hS59:=((hS55.b 1).b 1).packN 2
   refine ge_call2 (m:=0) (d:=some 54) (f:=111) (args:=#[pP bp0 0,vI r7.1]) (by kernel_rfl) (compile_maker_here_ok bp0 r9.1 Z7 cz7 r9.2 r7.1 _ _ _ hS59 _ hq10) ?_
   rintro _ w12 ⟨v10,rfl,hS58⟩
   refine ⟨_,rfl,?_⟩
   have hS64:=((((hS58.unpack [bk bp0 #[v10,vI r9.2] 123,Own.of v10 29 r10]).b 4).b 2).b 2).takeN 3
   obtain rfl:=si h
   exact ge_nil (pe0 [] [] ⟨v10,rfl,hS64⟩)
  rw [if_neg hc4] at h
  refine wk 41 (decide ((l1_5.length:Int) > 0)) false (decide_eq_false hc4)<|wf<|we_skip fun a hF=>hK10 _ _ ?_ a hF
  refine wr [(0,0),(1,0),(2,2)]<|gb [0,1] [(53,vI r5.1),(52,pP bp0 0)] [ld b1 0 (pP bp0 0)] ⟨hS40.c 3,trivial⟩ ?_
  obtain ⟨Z8,cz8,rfl⟩:=hS40.open 1 rfl
  rcases hq11:compile_maker_here.f r6.1 r6.2 r5.1 with _ | r11
  ·rw [hq11] at h; cases h
  rw [hq11] at h
  simp only [] at h
  have hS68:=((hS40.b 1).b 1).packN 2
  refine ge_call2 (m:=0) (d:=some 54) (f:=111) (args:=#[pP bp0 0,vI r5.1]) (by kernel_rfl) (compile_maker_here_ok bp0 r6.1 Z8 cz8 r6.2 r5.1 _ _ _ hS68 _ hq11) ?_
  rintro _ w13 ⟨v11,rfl,hS67⟩
  refine ⟨_,rfl,?_⟩
  have hS73:=((((hS67.unpack [bk bp0 #[v11,vI r6.2] 123,Own.of v11 29 r11]).b 4).b 2).b 2).takeN 3
  obtain rfl:=si h
  exact ge_nil (pe0 [] [] ⟨v11,rfl,hS73⟩)
 rw [if_neg hc3] at h
 refine wk 28 (x1_0==3) false (beq_eq_false_iff_ne.2 hc3)<|wf<|ws fun K15 hK15=>wr [(0,0),(1,0)]<|gb0 [0,1] [(55,.bool (x1_0==4)),(56,.bool (x1_0==4))]<|gn hK15 ?_
 by_cases hc5:x1_0=4
 ·rw [if_pos hc5] at h
  refine wk 55 (x1_0==4) true (beq_iff_eq.2 hc5)<|wt<|wr [(0,0),(1,0),(2,0),(3,0),(4,2)]<|gb [0,1,2,3] [(60,.func (.func 113) #[] #[pP b1 0,pP b2 0]),(59,vI x1_1),(58,pP b2 1),(57,pP bp0 0)] [ld b1 0 (pP bp0 0),ld b2 1 (vI x1_1)] ⟨hS2.c 1,hS2.c 0,trivial⟩ ?_
  rcases hq12:rec_compile_maker_loop_v1 lp0_0 sp0_1 x1_1 x1_0 x1_1 x1_2_0 x1_2_1 l1_2_2 x1_3_0 x1_3_1_0 x1_3_1_1 l1_3_1_2 x1_3_2_0 x1_3_2_1 l1_3_2_2 l1_4 l1_5 with _ | r12
  ·rw [hq12] at h; cases h
  rw [hq12] at h
  simp only [] at h
  have hS79:=((((hS2.b 3).b 1).b 3).b 3).packN 4
  refine ge_call2 (m:=0) (d:=some 61) (f:=112) (args:=#[pP bp0 0,vI x1_1,.func (.func 113) #[] #[pP b1 0,pP b2 0]]) (by kernel_rfl) (hr_compile_maker_loop_v1 Z bp0 lp0_0 Ap0_0 cp0_0 sp0_1 x1_1 b1 b2 x1_0 x1_1 x1_2_0 x1_2_1 l1_2_2 A1_2_2 c1_2_2 x1_3_0 x1_3_1_0 x1_3_1_1 l1_3_1_2 A1_3_1_2 c1_3_1_2 x1_3_2_0 x1_3_2_1 l1_3_2_2 A1_3_2_2 c1_3_2_2 l1_4 A1_4 c1_4 l1_5 A1_5 c1_5 _ _ _ hS79 (fun w L h w' k=>(hZ _ _ (h.spread.bring 0 rfl) w' k)) hR1_2_2 hL1_2_2 hR1_3_1_2 hL1_3_1_2 hR1_3_2_2 hL1_3_2_2 hR1_4 hL1_4 hR1_5 hL1_5 _ hq12) ?_
  rintro _ w14 ⟨v12,rfl,hS78⟩
  refine ⟨_,rfl,?_⟩
  have hS84:=((((hS78.unpack [bk b1 #[pP bp0 0] 121,bk bp0 #[v12,vI r12.2] 123,bk b2 #[vI x1_0,vI x1_1,vI x1_2_0,vI x1_2_1,.slice A1_2_2 l1_2_2.length c1_2_2,vI x1_3_0,vI x1_3_1_0,vI x1_3_1_1,.slice A1_3_1_2 l1_3_1_2.length c1_3_1_2,vI x1_3_2_0,vI x1_3_2_1,.slice A1_3_2_2 l1_3_2_2.length c1_3_2_2,.slice A1_4 l1_4.length c1_4,.slice A1_5 l1_5.length c1_5] 49,Own.of v12 29 r12.1]).b 4).b 4).b 3).takeN 3
  obtain rfl:=si h
  exact ge_nil (pe0 [] [] ⟨v12,rfl,hS84⟩)
 rw [if_neg hc5] at h
 refine wk 55 (x1_0==4) false (beq_eq_false_iff_ne.2 hc5)<|wf<|ws fun K16 hK16=>wr [(0,0),(1,0)]<|gb0 [0,1] [(62,.bool (x1_0==5)),(63,.bool (x1_0==5))]<|gn hK16 ?_
 by_cases hc6:x1_0=5
 ·rw [if_pos hc6] at h
  refine wk 62 (x1_0==5) true (beq_iff_eq.2 hc6)<|wt<|wr [(0,0),(1,0),(2,0),(3,0),(4,2)]<|gb [0,1,2,3] [(67,.func (.func 114) #[] #[pP b1 0,pP b2 0]),(66,vI x1_1),(65,pP b2 1),(64,pP bp0 0)] [ld b1 0 (pP bp0 0),ld b2 1 (vI x1_1)] ⟨hS2.c 1,hS2.c 0,trivial⟩ ?_
  rcases hq13:rec_compile_maker_loop_v2 lp0_0 sp0_1 x1_1 x1_0 x1_1 x1_2_0 x1_2_1 l1_2_2 x1_3_0 x1_3_1_0 x1_3_1_1 l1_3_1_2 x1_3_2_0 x1_3_2_1 l1_3_2_2 l1_4 l1_5 with _ | r13
  ·rw [hq13] at h; cases h
  rw [hq13] at h
  simp only [] at h
  have hS90:=((((hS2.b 3).b 1).b 3).b 3).packN 4
  refine ge_call2 (m:=0) (d:=some 68) (f:=112) (args:=#[pP bp0 0,vI x1_1,.func (.func 114) #[] #[pP b1 0,pP b2 0]]) (by kernel_rfl) (hr_compile_maker_loop_v2 Z bp0 lp0_0 Ap0_0 cp0_0 sp0_1 x1_1 b1 b2 x1_0 x1_1 x1_2_0 x1_2_1 l1_2_2 A1_2_2 c1_2_2 x1_3_0 x1_3_1_0 x1_3_1_1 l1_3_1_2 A1_3_1_2 c1_3_1_2 x1_3_2_0 x1_3_2_1 l1_3_2_2 A1_3_2_2 c1_3_2_2 l1_4 A1_4 c1_4 l1_5 A1_5 c1_5 _ _ _ hS90 (fun w L h w' k=>(hZ _ _ (h.spread.bring 0 rfl) w' k)) hR1_2_2 hL1_2_2 hR1_3_1_2 hL1_3_1_2 hR1_3_2_2 hL1_3_2_2 hR1_4 hL1_4 hR1_5 hL1_5 _ hq13) ?_
  rintro _ w15 ⟨v13,rfl,hS89⟩
  refine ⟨_,rfl,?_⟩
  have hS95:=((((hS89.unpack [bk b1 #[pP bp0 0] 121,bk bp0 #[v13,vI r13.2] 123,bk b2 #[vI x1_0,vI x1_1,vI x1_2_0,vI x1_2_1,.slice A1_2_2 l1_2_2.length c1_2_2,vI x1_3_0,vI x1_3_1_0,vI x1_3_1_1,.slice A1_3_1_2 l1_3_1_2.length c1_3_1_2,vI x1_3_2_0,vI x1_3_2_1,.slice A1_3_2_2 l1_3_2_2.length c1_3_2_2,.slice A1_4 l1_4.length c1_4,.slice A1_5 l1_5.length c1_5] 49,Own.of v13 29 r13.1]).b 4).b 4).b 3).takeN 3
  obtain rfl:=si h
  exact ge_nil (pe0 [] [] ⟨v13,rfl,hS95⟩)
 rw [if_neg hc6] at h
 refine wk 62 (x1_0==5) false (beq_eq_false_iff_ne.2 hc6)<|wf<|ws fun K17 hK17=>wr [(0,0),(1,0)]<|gb0 [0,1] [(69,.bool (x1_0==6)),(70,.bool (x1_0==6))]<|gn hK17 ?_
 by_cases hc7:x1_0=6
 ·rw [if_pos hc7] at h
  refine wk 69 (x1_0==6) true (beq_iff_eq.2 hc7)<|wt<|ws fun K18 hK18=>wr [(0,0),(1,0),(2,0),(3,2)]<|gb [0,1,2] [(73,vI x1_1),(72,pP b2 1),(71,pP bp0 0)] [ld b1 0 (pP bp0 0),ld b2 1 (vI x1_1)] ⟨hS2.c 1,hS2.c 0,trivial⟩ ?_
  rcases hq14:compile_maker_put.f lp0_0 sp0_1 16 x1_1 0 with _ | r14
  ·rw [hq14] at h; cases h
  rw [hq14] at h
  simp only [] at h
  have hS99:=((hS2.b 3).b 3).packN 2
  refine ge_call2 (m:=0) (d:=some 74) (f:=109) (args:=#[pP bp0 0,vI 16,vI x1_1,vI 0]) (by kernel_rfl) (compile_maker_put_ok bp0 lp0_0 Ap0_0 cp0_0 sp0_1 16 x1_1 0 _ _ _ hS99 _ hq14) ?_
  rintro _ w16 ⟨v14,rfl,hS98⟩
  refine ⟨_,rfl,?_⟩
  have hS100:=hS98.unpack [bk bp0 #[v14,vI sp0_1] 123,Own.of v14 29 r14.2]
  refine gn hK18<|ws fun K19 hK19=>wr [(0,0),(1,0),(2,0),(3,2)]<|gb [0,1,2] [(77,.slice A1_4 l1_4.length c1_4),(76,pP b2 12),(75,pP bp0 0)] [ld b1 0 (pP bp0 0),ld b2 12 (.slice A1_4 l1_4.length c1_4)] ⟨hS100.c 3,hS100.c 2,trivial⟩ ?_
  obtain ⟨Z9,cz9,rfl⟩:=hS100.open 1 rfl
  rcases hq15:rec_compile_maker_list r14.2 sp0_1 l1_4 with _ | r15
  ·rw [hq15] at h; cases h
  rw [hq15] at h
  simp only [] at h
  have hS104:=((hS100.b 1).b 1).packN 2
  refine ge_call2 (m:=0) (d:=some 78) (f:=65) (args:=#[pP bp0 0,.slice A1_4 l1_4.length c1_4]) (by kernel_rfl) (hr_compile_maker_list Z bp0 r14.2 Z9 cz9 sp0_1 l1_4 A1_4 c1_4 _ _ _ hS104 (fun w L h w' k=>(hZ _ _ (h.spread.bring 2 rfl) w' k)) hR1_4 hL1_4 _ hq15) ?_
  rintro _ w17 ⟨v15,rfl,hS103⟩
  refine ⟨_,rfl,?_⟩
  have hS105:=hS103.unpack [bk bp0 #[v15,vI r15.2] 123,Own.of v15 29 r15.1]
  refine gn hK19<|wr [(0,0),(1,0),(2,0),(3,2)]<|gb [0,1,2] [(81,vI x1_1),(80,pP b2 1),(79,pP bp0 0)] [ld b1 0 (pP bp0 0),ld b2 1 (vI x1_1)] ⟨hS105.c 3,hS105.c 2,trivial⟩ ?_
  obtain ⟨Z10,cz10,rfl⟩:=hS105.open 1 rfl
  rcases hq16:compile_maker_put.f r15.1 r15.2 17 x1_1 0 with _ | r16
  ·rw [hq16] at h; cases h
  rw [hq16] at h
  simp only [] at h
  have hS109:=((hS105.b 1).b 1).packN 2
  refine ge_call2 (m:=0) (d:=some 82) (f:=109) (args:=#[pP bp0 0,vI 17,vI x1_1,vI 0]) (by kernel_rfl) (compile_maker_put_ok bp0 r15.1 Z10 cz10 r15.2 17 x1_1 0 _ _ _ hS109 _ hq16) ?_
  rintro _ w18 ⟨v16,rfl,hS108⟩
  refine ⟨_,rfl,?_⟩
  have hS114:=((((hS108.unpack [bk bp0 #[v16,vI r15.2] 123,Own.of v16 29 r16.2]).b 4).b 2).b 2).takeN 3
  obtain rfl:=si h
  exact ge_nil (pe0 [] [] ⟨v16,rfl,hS114⟩)
 rw [if_neg hc7] at h
 refine wk 69 (x1_0==6) false (beq_eq_false_iff_ne.2 hc7)<|wf<|ws fun K20 hK20=>wr [(0,0),(1,0)]<|gb0 [0,1] [(83,.bool (x1_0==7)),(84,.bool (x1_0==7))]<|gn hK20 ?_
 by_cases hc8:x1_0=7
 ·rw [if_pos hc8] at h
  refine wk 83 (x1_0==7) true (beq_iff_eq.2 hc8)<|wt<|wr [(0,0),(1,0),(2,0),(3,2)]<|gb [0,1,2] [(87,vI x1_1),(86,pP b2 1),(85,pP bp0 0)] [ld b1 0 (pP bp0 0),ld b2 1 (vI x1_1)] ⟨hS2.c 1,hS2.c 0,trivial⟩ ?_
  rcases hq17:compile_maker_put.f lp0_0 sp0_1 18 x1_1 0 with _ | r17
  ·rw [hq17] at h; cases h
  rw [hq17] at h
  simp only [] at h
  have hS118:=((hS2.b 3).b 3).packN 2
  refine ge_call2 (m:=0) (d:=some 88) (f:=109) (args:=#[pP bp0 0,vI 18,vI x1_1,vI 0]) (by kernel_rfl) (compile_maker_put_ok bp0 lp0_0 Ap0_0 cp0_0 sp0_1 18 x1_1 0 _ _ _ hS118 _ hq17) ?_
  rintro _ w19 ⟨v17,rfl,hS117⟩
  refine ⟨_,rfl,?_⟩
  have hS123:=((((hS117.unpack [bk bp0 #[v17,vI sp0_1] 123,Own.of v17 29 r17.2]).b 4).b 2).b 2).takeN 3
  obtain rfl:=si h
  exact ge_nil (pe0 [] [] ⟨v17,rfl,hS123⟩)
 rw [if_neg hc8] at h
 refine wk 83 (x1_0==7) false (beq_eq_false_iff_ne.2 hc8)<|wf ?_
 have hS127:=hS2.p [2,3,4] rfl
 obtain rfl:=si h
 exact we_skip (pe0 [] [] ⟨(.slice Ap0_0 lp0_0.length cp0_0),rfl,hS127⟩)
def compile_maker_loop_v1.b (K : Nat) (rec_compile_maker_stmt_1 : (List SIns) → Int → Int → Int → Int → Int → (List SExpr) → Int → Int → Int → (List SExpr) → Int → Int → (List SExpr) → (List SStmt) → (List SStmt) → Option ((List SIns) × Int)) (lp0_0 : List SIns) (sp0_1 : Int) (x1 : Int) (sg2_1_0_0 : Int) (sg2_1_1_0 : Int) (sg2_1_2_0 : Int) (sg2_1_3_0 : Int) (lg2_1_4 : List SExpr) (sg2_1_5_0 : Int) (sg2_1_6_0 : Int) (sg2_1_7_0 : Int) (lg2_1_8 : List SExpr) (sg2_1_9_0 : Int) (sg2_1_10_0 : Int) (lg2_1_11 : List SExpr) (lg2_1_12 : List SStmt) (lg2_1_13 : List SStmt) : Option ((List SIns) × Int) :=
 if x1=0 then
  some (lp0_0,sp0_1)
 else
  match compile_maker_put.f lp0_0 sp0_1 13 sp0_1 (IntKind.i64.wrap (x1-1)) with
  | none=>none
  | some r1 =>
   match rec_compile_maker_stmt_1 r1.2 (IntKind.i64.wrap (sp0_1+1)) sg2_1_0_0 sg2_1_1_0 sg2_1_2_0 sg2_1_3_0 lg2_1_4 sg2_1_5_0 sg2_1_6_0 sg2_1_7_0 lg2_1_8 sg2_1_9_0 sg2_1_10_0 lg2_1_11 lg2_1_12 lg2_1_13 with
   | none=>none
   | some r2 =>
    match compile_maker_put.f r2.1 (IntKind.i64.wrap (r2.2-1)) 14 sp0_1 (IntKind.i64.wrap (r1.1+1)) with
    | none=>none
    | some r3 =>
     some (r3.2,IntKind.i64.wrap (r2.2-1))
theorem compile_maker_loop_v1_step (K:Nat) (rec_compile_maker_stmt_1:(List SIns)→Int→Int→Int→Int→Int→(List SExpr)→Int→Int→Int→(List SExpr)→Int→Int→(List SExpr)→(List SStmt)→(List SStmt)→Option ((List SIns)×Int)) (hr_compile_maker_stmt_1:compile_maker_stmt_1.Rec rec_compile_maker_stmt_1) (Z:Zone) (bp0:Nat) (lp0_0:List SIns) (Ap0_0:OA) (cp0_0:Nat) (sp0_1 x1:Int) (bog2_0 bg2_1:Nat) (sg2_1_0_0 sg2_1_1_0 sg2_1_2_0 sg2_1_3_0:Int) (lg2_1_4:List SExpr) (Ag2_1_4:OA) (cg2_1_4:Nat) (sg2_1_5_0 sg2_1_6_0 sg2_1_7_0:Int) (lg2_1_8:List SExpr) (Ag2_1_8:OA) (cg2_1_8:Nat) (sg2_1_9_0 sg2_1_10_0:Int) (lg2_1_11:List SExpr) (Ag2_1_11:OA) (cg2_1_11:Nat) (lg2_1_12:List SStmt) (Ag2_1_12:OA) (cg2_1_12:Nat) (lg2_1_13:List SStmt) (Ag2_1_13:OA) (cg2_1_13:Nat) (w0 wE:World) (LT:List Own) (hS:St w0 wE [bk bog2_0 #[pP bp0 0] 121,bk bp0 #[(.slice Ap0_0 lp0_0.length cp0_0),vI sp0_1] 123,bk bg2_1 #[vI sg2_1_0_0,vI sg2_1_1_0,vI sg2_1_2_0,vI sg2_1_3_0,.slice Ag2_1_4 lg2_1_4.length cg2_1_4,vI sg2_1_5_0,vI sg2_1_6_0,vI sg2_1_7_0,.slice Ag2_1_8 lg2_1_8.length cg2_1_8,vI sg2_1_9_0,vI sg2_1_10_0,.slice Ag2_1_11 lg2_1_11.length cg2_1_11,.slice Ag2_1_12 lg2_1_12.length cg2_1_12,.slice Ag2_1_13 lg2_1_13.length cg2_1_13] 49,ro Ap0_0 cp0_0 29 lp0_0,Own.all LT]) (hZ:∀ w L,St w0 w (Own.all LT::L)→∀ w',Sub w w'→Z w') (hRg2_1_4:RdZ Z Ag2_1_4 lg2_1_4) (hLg2_1_4:lg2_1_4.length≤cg2_1_4) (hRg2_1_8:RdZ Z Ag2_1_8 lg2_1_8) (hLg2_1_8:lg2_1_8.length≤cg2_1_8) (hRg2_1_11:RdZ Z Ag2_1_11 lg2_1_11) (hLg2_1_11:lg2_1_11.length≤cg2_1_11) (hRg2_1_12:RdZ Z Ag2_1_12 lg2_1_12) (hLg2_1_12:lg2_1_12.length≤cg2_1_12) (hRg2_1_13:RdZ Z Ag2_1_13 lg2_1_13) (hLg2_1_13:lg2_1_13.length≤cg2_1_13) (r:(List SIns)×Int) (h:compile_maker_loop_v1.b K rec_compile_maker_stmt_1 lp0_0 sp0_1 x1 sg2_1_0_0 sg2_1_1_0 sg2_1_2_0 sg2_1_3_0 lg2_1_4 sg2_1_5_0 sg2_1_6_0 sg2_1_7_0 lg2_1_8 sg2_1_9_0 sg2_1_10_0 lg2_1_11 lg2_1_12 lg2_1_13=some r) :
  Calls Try.prog 112 #[pP bp0 0,vI x1,.func (.func 113) #[] #[pP bog2_0 0,pP bg2_1 0]] wE (compile_maker_loop_v1.Post w0 Z bp0 lp0_0 Ap0_0 cp0_0 sp0_1 x1 bog2_0 bg2_1 sg2_1_0_0 sg2_1_1_0 sg2_1_2_0 sg2_1_3_0 lg2_1_4 Ag2_1_4 cg2_1_4 sg2_1_5_0 sg2_1_6_0 sg2_1_7_0 lg2_1_8 Ag2_1_8 cg2_1_8 sg2_1_9_0 sg2_1_10_0 lg2_1_11 Ag2_1_11 cg2_1_11 lg2_1_12 Ag2_1_12 cg2_1_12 lg2_1_13 Ag2_1_13 cg2_1_13 LT r):=by
 unfold compile_maker_loop_v1.b at h
 refine calls_enter (n:=40) (args:=[pP bp0 0,vI x1,.func (.func 113) #[] #[pP bog2_0 0,pP bg2_1 0]]) (fn:=Try.f112) rfl rfl rfl rfl ?_
 show WE _ _ _ _ [(0,pP bp0 0),(1,vI x1),(2,.func (.func 113) #[] #[pP bog2_0 0,pP bg2_1 0])] _
 refine ws fun K1 hK1=>ws fun K2 hK2=>wr [(0,0),(1,0)]<|gb0 [0,1] [(9,.bool (x1==0)),(8,vI x1)]<|gn hK2 ?_
 by_cases hc1:x1=0
 ·rw [if_pos hc1] at h
  refine wk 9 (x1==0) true (beq_iff_eq.2 hc1)<|wt ?_
  have hS5:=((((hS.b 4).b 4).b 4).b 4).b 4
  obtain rfl:=si h
  exact we_ret (pr0 [] [] ⟨(.slice Ap0_0 lp0_0.length cp0_0),rfl,hS5⟩)
 rw [if_neg hc1] at h
 refine wk 9 (x1==0) false (beq_eq_false_iff_ne.2 hc1)<|wf<|we_skip fun a hF=>hK1 _ _ ?_ a hF
 refine ws fun K3 hK3=>wr [(0,0),(1,0),(2,0),(3,0),(4,0)]<|gb [0,1,2,3,4] [(6,vI sp0_1),(13,vI sp0_1),(12,pP bp0 1),(11,pP bp0 0),(10,pP bp0 0)] [ld bp0 1 (vI sp0_1)] ⟨hS.c 1,trivial⟩<|gn hK3<|ws fun K4 hK4=>wr [(0,0),(1,0),(2,0),(3,0),(4,2),(5,0),(6,0)]<|gb0 [0,1,2,3] [(17,vI (IntKind.i64.wrap (x1-1))),(16,vI x1),(15,vI sp0_1),(14,pP bp0 0)] ?_
 rcases hq1:compile_maker_put.f lp0_0 sp0_1 13 sp0_1 (IntKind.i64.wrap (x1-1)) with _ | r1
 ·rw [hq1] at h; cases h
 rw [hq1] at h
 simp only [] at h
 have hS9:=((hS.b 3).b 2).packN 2
 refine ge_call2 (m:=0) (d:=some 18) (f:=109) (args:=#[pP bp0 0,vI 13,vI sp0_1,vI (IntKind.i64.wrap (x1-1))]) (by kernel_rfl) (compile_maker_put_ok bp0 lp0_0 Ap0_0 cp0_0 sp0_1 13 sp0_1 (IntKind.i64.wrap (x1-1)) _ _ _ hS9 _ hq1) ?_
 rintro _ w1 ⟨v1,rfl,hS8⟩
 refine ⟨_,rfl,?_⟩
 have hS10:=hS8.unpack [bk bp0 #[v1,vI sp0_1] 123,Own.of v1 29 r1.2]
 refine gb0 [5,6] [(7,vI (IntKind.i64.wrap (r1.1+1))),(19,vI (IntKind.i64.wrap (r1.1+1)))]<|gn hK4<|ws fun K5 hK5=>wr [(0,0),(1,0),(2,0),(3,0),(4,0),(5,0),(6,0),(7,2)]<|gb [0,1,2,3,4,5,6] [(26,pP bp0 1),(25,pP bp0 0),(24,vI (IntKind.i64.wrap (sp0_1+1))),(23,vI sp0_1),(22,pP bp0 1),(21,pP bp0 0),(20,pP bp0 0)] [ld bp0 1 (vI sp0_1)] ⟨hS10.c 0,trivial⟩<|gs bp0 1 #[v1,vI sp0_1] 123 [vI (IntKind.i64.wrap (sp0_1+1))] hS10 fun w2 hS11=>?_
 have hS12:=hS11.nc #[v1,vI (IntKind.i64.wrap (sp0_1+1))] (by kernel_rfl)
 refine gn hK5<|ws fun K6 hK6=>wr [(0,0),(1,2)]<|gb0 [0] [(27,.func (.func 113) #[] #[pP bog2_0 0,pP bg2_1 0])] ?_
 obtain ⟨Z1,cz1,rfl⟩:=hS12.open 1 rfl
 rcases hq2:rec_compile_maker_stmt_1 r1.2 (IntKind.i64.wrap (sp0_1+1)) sg2_1_0_0 sg2_1_1_0 sg2_1_2_0 sg2_1_3_0 lg2_1_4 sg2_1_5_0 sg2_1_6_0 sg2_1_7_0 lg2_1_8 sg2_1_9_0 sg2_1_10_0 lg2_1_11 lg2_1_12 lg2_1_13 with _ | r2
 ·rw [hq2] at h; cases h
 rw [hq2] at h
 simp only [] at h
 have hS18:=((((hS12.b 1).b 3).b 2).b 3).packN 4
 refine ge_call2 (m:=0) (d:=some 28) (f:=113) (args:=#[pP bog2_0 0,pP bg2_1 0]) (by kernel_rfl) (hr_compile_maker_stmt_1 Z bog2_0 bp0 r1.2 Z1 cz1 (IntKind.i64.wrap (sp0_1+1)) bg2_1 sg2_1_0_0 sg2_1_1_0 sg2_1_2_0 sg2_1_3_0 lg2_1_4 Ag2_1_4 cg2_1_4 sg2_1_5_0 sg2_1_6_0 sg2_1_7_0 lg2_1_8 Ag2_1_8 cg2_1_8 sg2_1_9_0 sg2_1_10_0 lg2_1_11 Ag2_1_11 cg2_1_11 lg2_1_12 Ag2_1_12 cg2_1_12 lg2_1_13 Ag2_1_13 cg2_1_13 _ _ _ hS18 (fun w L h w' k=>(hZ _ _ (h.spread.bring 0 rfl) w' k)) hRg2_1_4 hLg2_1_4 hRg2_1_8 hLg2_1_8 hRg2_1_11 hLg2_1_11 hRg2_1_12 hLg2_1_12 hRg2_1_13 hLg2_1_13 _ hq2) ?_
 rintro _ w3 ⟨v2,rfl,hS17⟩
 refine ⟨_,rfl,?_⟩
 have hS19:=hS17.unpack [bk bog2_0 #[pP bp0 0] 121,bk bp0 #[v2,vI r2.2] 123,bk bg2_1 #[vI sg2_1_0_0,vI sg2_1_1_0,vI sg2_1_2_0,vI sg2_1_3_0,.slice Ag2_1_4 lg2_1_4.length cg2_1_4,vI sg2_1_5_0,vI sg2_1_6_0,vI sg2_1_7_0,.slice Ag2_1_8 lg2_1_8.length cg2_1_8,vI sg2_1_9_0,vI sg2_1_10_0,.slice Ag2_1_11 lg2_1_11.length cg2_1_11,.slice Ag2_1_12 lg2_1_12.length cg2_1_12,.slice Ag2_1_13 lg2_1_13.length cg2_1_13] 49,Own.of v2 29 r2.1]
 refine gn hK6<|ws fun K7 hK7=>wr [(0,0),(1,0),(2,0),(3,0),(4,0),(5,0),(6,0),(7,2)]<|gb [0,1,2,3,4,5,6] [(35,pP bp0 1),(34,pP bp0 0),(33,vI (IntKind.i64.wrap (r2.2-1))),(32,vI r2.2),(31,pP bp0 1),(30,pP bp0 0),(29,pP bp0 0)] [ld bp0 1 (vI r2.2)] ⟨hS19.c 1,trivial⟩ ?_
 have hS20:=hS19.b 1
 refine gs bp0 1 #[v2,vI r2.2] 123 [vI (IntKind.i64.wrap (r2.2-1))] hS20 fun w4 hS21=>?_
 have hS22:=hS21.nc #[v2,vI (IntKind.i64.wrap (r2.2-1))] (by kernel_rfl)
 refine gn hK7<|wr [(0,0),(1,0),(2,0),(3,2)]<|gb0 [0,1,2] [(38,vI (IntKind.i64.wrap (r1.1+1))),(37,vI sp0_1),(36,pP bp0 0)] ?_
 obtain ⟨Z2,cz2,rfl⟩:=hS22.open 3 rfl
 rcases hq3:compile_maker_put.f r2.1 (IntKind.i64.wrap (r2.2-1)) 14 sp0_1 (IntKind.i64.wrap (r1.1+1)) with _ | r3
 ·rw [hq3] at h; cases h
 rw [hq3] at h
 simp only [] at h
 have hS26:=((hS22.b 3).b 1).packN 2
 refine ge_call2 (m:=0) (d:=some 39) (f:=109) (args:=#[pP bp0 0,vI 14,vI sp0_1,vI (IntKind.i64.wrap (r1.1+1))]) (by kernel_rfl) (compile_maker_put_ok bp0 r2.1 Z2 cz2 (IntKind.i64.wrap (r2.2-1)) 14 sp0_1 (IntKind.i64.wrap (r1.1+1)) _ _ _ hS26 _ hq3) ?_
 rintro _ w5 ⟨v3,rfl,hS25⟩
 refine ⟨_,rfl,?_⟩
 have hS32:=(((((hS25.unpack [bk bp0 #[v3,vI (IntKind.i64.wrap (r2.2-1))] 123,Own.of v3 29 r3.2]).b 4).b 2).b 4).b 3).b 4
 obtain rfl:=si h
 exact ge_nil (pe0 [] [] ⟨v3,rfl,hS32⟩)
def compile_maker_loop_v2.b (K : Nat) (rec_compile_maker_stmt_2 : (List SIns) → Int → Int → Int → Int → Int → (List SExpr) → Int → Int → Int → (List SExpr) → Int → Int → (List SExpr) → (List SStmt) → (List SStmt) → Option ((List SIns) × Int)) (lp0_0 : List SIns) (sp0_1 : Int) (x1 : Int) (sg2_1_0_0 : Int) (sg2_1_1_0 : Int) (sg2_1_2_0 : Int) (sg2_1_3_0 : Int) (lg2_1_4 : List SExpr) (sg2_1_5_0 : Int) (sg2_1_6_0 : Int) (sg2_1_7_0 : Int) (lg2_1_8 : List SExpr) (sg2_1_9_0 : Int) (sg2_1_10_0 : Int) (lg2_1_11 : List SExpr) (lg2_1_12 : List SStmt) (lg2_1_13 : List SStmt) : Option ((List SIns) × Int) :=
 if x1=0 then
  some (lp0_0,sp0_1)
 else
  match compile_maker_put.f lp0_0 sp0_1 13 sp0_1 (IntKind.i64.wrap (x1-1)) with
  | none=>none
  | some r1 =>
   match rec_compile_maker_stmt_2 r1.2 (IntKind.i64.wrap (sp0_1+1)) sg2_1_0_0 sg2_1_1_0 sg2_1_2_0 sg2_1_3_0 lg2_1_4 sg2_1_5_0 sg2_1_6_0 sg2_1_7_0 lg2_1_8 sg2_1_9_0 sg2_1_10_0 lg2_1_11 lg2_1_12 lg2_1_13 with
   | none=>none
   | some r2 =>
    match compile_maker_put.f r2.1 (IntKind.i64.wrap (r2.2-1)) 14 sp0_1 (IntKind.i64.wrap (r1.1+1)) with
    | none=>none
    | some r3 =>
     some (r3.2,IntKind.i64.wrap (r2.2-1))
theorem compile_maker_loop_v2_step (K:Nat) (rec_compile_maker_stmt_2:(List SIns)→Int→Int→Int→Int→Int→(List SExpr)→Int→Int→Int→(List SExpr)→Int→Int→(List SExpr)→(List SStmt)→(List SStmt)→Option ((List SIns)×Int)) (hr_compile_maker_stmt_2:compile_maker_stmt_2.Rec rec_compile_maker_stmt_2) (Z:Zone) (bp0:Nat) (lp0_0:List SIns) (Ap0_0:OA) (cp0_0:Nat) (sp0_1 x1:Int) (bog2_0 bg2_1:Nat) (sg2_1_0_0 sg2_1_1_0 sg2_1_2_0 sg2_1_3_0:Int) (lg2_1_4:List SExpr) (Ag2_1_4:OA) (cg2_1_4:Nat) (sg2_1_5_0 sg2_1_6_0 sg2_1_7_0:Int) (lg2_1_8:List SExpr) (Ag2_1_8:OA) (cg2_1_8:Nat) (sg2_1_9_0 sg2_1_10_0:Int) (lg2_1_11:List SExpr) (Ag2_1_11:OA) (cg2_1_11:Nat) (lg2_1_12:List SStmt) (Ag2_1_12:OA) (cg2_1_12:Nat) (lg2_1_13:List SStmt) (Ag2_1_13:OA) (cg2_1_13:Nat) (w0 wE:World) (LT:List Own) (hS:St w0 wE [bk bog2_0 #[pP bp0 0] 121,bk bp0 #[(.slice Ap0_0 lp0_0.length cp0_0),vI sp0_1] 123,bk bg2_1 #[vI sg2_1_0_0,vI sg2_1_1_0,vI sg2_1_2_0,vI sg2_1_3_0,.slice Ag2_1_4 lg2_1_4.length cg2_1_4,vI sg2_1_5_0,vI sg2_1_6_0,vI sg2_1_7_0,.slice Ag2_1_8 lg2_1_8.length cg2_1_8,vI sg2_1_9_0,vI sg2_1_10_0,.slice Ag2_1_11 lg2_1_11.length cg2_1_11,.slice Ag2_1_12 lg2_1_12.length cg2_1_12,.slice Ag2_1_13 lg2_1_13.length cg2_1_13] 49,ro Ap0_0 cp0_0 29 lp0_0,Own.all LT]) (hZ:∀ w L,St w0 w (Own.all LT::L)→∀ w',Sub w w'→Z w') (hRg2_1_4:RdZ Z Ag2_1_4 lg2_1_4) (hLg2_1_4:lg2_1_4.length≤cg2_1_4) (hRg2_1_8:RdZ Z Ag2_1_8 lg2_1_8) (hLg2_1_8:lg2_1_8.length≤cg2_1_8) (hRg2_1_11:RdZ Z Ag2_1_11 lg2_1_11) (hLg2_1_11:lg2_1_11.length≤cg2_1_11) (hRg2_1_12:RdZ Z Ag2_1_12 lg2_1_12) (hLg2_1_12:lg2_1_12.length≤cg2_1_12) (hRg2_1_13:RdZ Z Ag2_1_13 lg2_1_13) (hLg2_1_13:lg2_1_13.length≤cg2_1_13) (r:(List SIns)×Int) (h:compile_maker_loop_v2.b K rec_compile_maker_stmt_2 lp0_0 sp0_1 x1 sg2_1_0_0 sg2_1_1_0 sg2_1_2_0 sg2_1_3_0 lg2_1_4 sg2_1_5_0 sg2_1_6_0 sg2_1_7_0 lg2_1_8 sg2_1_9_0 sg2_1_10_0 lg2_1_11 lg2_1_12 lg2_1_13=some r) :
  Calls Try.prog 112 #[pP bp0 0,vI x1,.func (.func 114) #[] #[pP bog2_0 0,pP bg2_1 0]] wE (compile_maker_loop_v2.Post w0 Z bp0 lp0_0 Ap0_0 cp0_0 sp0_1 x1 bog2_0 bg2_1 sg2_1_0_0 sg2_1_1_0 sg2_1_2_0 sg2_1_3_0 lg2_1_4 Ag2_1_4 cg2_1_4 sg2_1_5_0 sg2_1_6_0 sg2_1_7_0 lg2_1_8 Ag2_1_8 cg2_1_8 sg2_1_9_0 sg2_1_10_0 lg2_1_11 Ag2_1_11 cg2_1_11 lg2_1_12 Ag2_1_12 cg2_1_12 lg2_1_13 Ag2_1_13 cg2_1_13 LT r):=by
 unfold compile_maker_loop_v2.b at h
 refine calls_enter (n:=40) (args:=[pP bp0 0,vI x1,.func (.func 114) #[] #[pP bog2_0 0,pP bg2_1 0]]) (fn:=Try.f112) rfl rfl rfl rfl ?_
 show WE _ _ _ _ [(0,pP bp0 0),(1,vI x1),(2,.func (.func 114) #[] #[pP bog2_0 0,pP bg2_1 0])] _
 refine ws fun K1 hK1=>ws fun K2 hK2=>wr [(0,0),(1,0)]<|gb0 [0,1] [(9,.bool (x1==0)),(8,vI x1)]<|gn hK2 ?_
 by_cases hc1:x1=0
 ·rw [if_pos hc1] at h
  refine wk 9 (x1==0) true (beq_iff_eq.2 hc1)<|wt ?_
  have hS5:=((((hS.b 4).b 4).b 4).b 4).b 4
  obtain rfl:=si h
  exact we_ret (pr0 [] [] ⟨(.slice Ap0_0 lp0_0.length cp0_0),rfl,hS5⟩)
 rw [if_neg hc1] at h
 refine wk 9 (x1==0) false (beq_eq_false_iff_ne.2 hc1)<|wf<|we_skip fun a hF=>hK1 _ _ ?_ a hF
 refine ws fun K3 hK3=>wr [(0,0),(1,0),(2,0),(3,0),(4,0)]<|gb [0,1,2,3,4] [(6,vI sp0_1),(13,vI sp0_1),(12,pP bp0 1),(11,pP bp0 0),(10,pP bp0 0)] [ld bp0 1 (vI sp0_1)] ⟨hS.c 1,trivial⟩<|gn hK3<|ws fun K4 hK4=>wr [(0,0),(1,0),(2,0),(3,0),(4,2),(5,0),(6,0)]<|gb0 [0,1,2,3] [(17,vI (IntKind.i64.wrap (x1-1))),(16,vI x1),(15,vI sp0_1),(14,pP bp0 0)] ?_
 rcases hq1:compile_maker_put.f lp0_0 sp0_1 13 sp0_1 (IntKind.i64.wrap (x1-1)) with _ | r1
 ·rw [hq1] at h; cases h
 rw [hq1] at h
 simp only [] at h
 have hS9:=((hS.b 3).b 2).packN 2
 refine ge_call2 (m:=0) (d:=some 18) (f:=109) (args:=#[pP bp0 0,vI 13,vI sp0_1,vI (IntKind.i64.wrap (x1-1))]) (by kernel_rfl) (compile_maker_put_ok bp0 lp0_0 Ap0_0 cp0_0 sp0_1 13 sp0_1 (IntKind.i64.wrap (x1-1)) _ _ _ hS9 _ hq1) ?_
 rintro _ w1 ⟨v1,rfl,hS8⟩
 refine ⟨_,rfl,?_⟩
 have hS10:=hS8.unpack [bk bp0 #[v1,vI sp0_1] 123,Own.of v1 29 r1.2]
 refine gb0 [5,6] [(7,vI (IntKind.i64.wrap (r1.1+1))),(19,vI (IntKind.i64.wrap (r1.1+1)))]<|gn hK4<|ws fun K5 hK5=>wr [(0,0),(1,0),(2,0),(3,0),(4,0),(5,0),(6,0),(7,2)]<|gb [0,1,2,3,4,5,6] [(26,pP bp0 1),(25,pP bp0 0),(24,vI (IntKind.i64.wrap (sp0_1+1))),(23,vI sp0_1),(22,pP bp0 1),(21,pP bp0 0),(20,pP bp0 0)] [ld bp0 1 (vI sp0_1)] ⟨hS10.c 0,trivial⟩<|gs bp0 1 #[v1,vI sp0_1] 123 [vI (IntKind.i64.wrap (sp0_1+1))] hS10 fun w2 hS11=>?_
 have hS12:=hS11.nc #[v1,vI (IntKind.i64.wrap (sp0_1+1))] (by kernel_rfl)
 refine gn hK5<|ws fun K6 hK6=>wr [(0,0),(1,2)]<|gb0 [0] [(27,.func (.func 114) #[] #[pP bog2_0 0,pP bg2_1 0])] ?_
 obtain ⟨Z1,cz1,rfl⟩:=hS12.open 1 rfl
 rcases hq2:rec_compile_maker_stmt_2 r1.2 (IntKind.i64.wrap (sp0_1+1)) sg2_1_0_0 sg2_1_1_0 sg2_1_2_0 sg2_1_3_0 lg2_1_4 sg2_1_5_0 sg2_1_6_0 sg2_1_7_0 lg2_1_8 sg2_1_9_0 sg2_1_10_0 lg2_1_11 lg2_1_12 lg2_1_13 with _ | r2
 ·rw [hq2] at h; cases h
 rw [hq2] at h
 simp only [] at h
 have hS18:=((((hS12.b 1).b 3).b 2).b 3).packN 4
 refine ge_call2 (m:=0) (d:=some 28) (f:=114) (args:=#[pP bog2_0 0,pP bg2_1 0]) (by kernel_rfl) (hr_compile_maker_stmt_2 Z bog2_0 bp0 r1.2 Z1 cz1 (IntKind.i64.wrap (sp0_1+1)) bg2_1 sg2_1_0_0 sg2_1_1_0 sg2_1_2_0 sg2_1_3_0 lg2_1_4 Ag2_1_4 cg2_1_4 sg2_1_5_0 sg2_1_6_0 sg2_1_7_0 lg2_1_8 Ag2_1_8 cg2_1_8 sg2_1_9_0 sg2_1_10_0 lg2_1_11 Ag2_1_11 cg2_1_11 lg2_1_12 Ag2_1_12 cg2_1_12 lg2_1_13 Ag2_1_13 cg2_1_13 _ _ _ hS18 (fun w L h w' k=>(hZ _ _ (h.spread.bring 0 rfl) w' k)) hRg2_1_4 hLg2_1_4 hRg2_1_8 hLg2_1_8 hRg2_1_11 hLg2_1_11 hRg2_1_12 hLg2_1_12 hRg2_1_13 hLg2_1_13 _ hq2) ?_
 rintro _ w3 ⟨v2,rfl,hS17⟩
 refine ⟨_,rfl,?_⟩
 have hS19:=hS17.unpack [bk bog2_0 #[pP bp0 0] 121,bk bp0 #[v2,vI r2.2] 123,bk bg2_1 #[vI sg2_1_0_0,vI sg2_1_1_0,vI sg2_1_2_0,vI sg2_1_3_0,.slice Ag2_1_4 lg2_1_4.length cg2_1_4,vI sg2_1_5_0,vI sg2_1_6_0,vI sg2_1_7_0,.slice Ag2_1_8 lg2_1_8.length cg2_1_8,vI sg2_1_9_0,vI sg2_1_10_0,.slice Ag2_1_11 lg2_1_11.length cg2_1_11,.slice Ag2_1_12 lg2_1_12.length cg2_1_12,.slice Ag2_1_13 lg2_1_13.length cg2_1_13] 49,Own.of v2 29 r2.1]
 refine gn hK6<|ws fun K7 hK7=>wr [(0,0),(1,0),(2,0),(3,0),(4,0),(5,0),(6,0),(7,2)]<|gb [0,1,2,3,4,5,6] [(35,pP bp0 1),(34,pP bp0 0),(33,vI (IntKind.i64.wrap (r2.2-1))),(32,vI r2.2),(31,pP bp0 1),(30,pP bp0 0),(29,pP bp0 0)] [ld bp0 1 (vI r2.2)] ⟨hS19.c 1,trivial⟩ ?_
 have hS20:=hS19.b 1
 refine gs bp0 1 #[v2,vI r2.2] 123 [vI (IntKind.i64.wrap (r2.2-1))] hS20 fun w4 hS21=>?_
 have hS22:=hS21.nc #[v2,vI (IntKind.i64.wrap (r2.2-1))] (by kernel_rfl)
 refine gn hK7<|wr [(0,0),(1,0),(2,0),(3,2)]<|gb0 [0,1,2] [(38,vI (IntKind.i64.wrap (r1.1+1))),(37,vI sp0_1),(36,pP bp0 0)] ?_
 obtain ⟨Z2,cz2,rfl⟩:=hS22.open 3 rfl
 rcases hq3:compile_maker_put.f r2.1 (IntKind.i64.wrap (r2.2-1)) 14 sp0_1 (IntKind.i64.wrap (r1.1+1)) with _ | r3
 ·rw [hq3] at h; cases h
 rw [hq3] at h
 simp only [] at h
 have hS26:=((hS22.b 3).b 1).packN 2
 refine ge_call2 (m:=0) (d:=some 39) (f:=109) (args:=#[pP bp0 0,vI 14,vI sp0_1,vI (IntKind.i64.wrap (r1.1+1))]) (by kernel_rfl) (compile_maker_put_ok bp0 r2.1 Z2 cz2 (IntKind.i64.wrap (r2.2-1)) 14 sp0_1 (IntKind.i64.wrap (r1.1+1)) _ _ _ hS26 _ hq3) ?_
 rintro _ w5 ⟨v3,rfl,hS25⟩
 refine ⟨_,rfl,?_⟩
 have hS32:=(((((hS25.unpack [bk bp0 #[v3,vI (IntKind.i64.wrap (r2.2-1))] 123,Own.of v3 29 r3.2]).b 4).b 2).b 4).b 3).b 4
 obtain rfl:=si h
 exact ge_nil (pe0 [] [] ⟨v3,rfl,hS32⟩)
def compile_maker_stmt_1.b (K : Nat) (rec_compile_maker_list : (List SIns) → Int → (List SStmt) → Option ((List SIns) × Int)) (lf0_0 : List SIns) (sf0_1 : Int) (sf1_0_0 : Int) (sf1_1_0 : Int) (sf1_2_0 : Int) (sf1_3_0 : Int) (lf1_4 : List SExpr) (sf1_5_0 : Int) (sf1_6_0 : Int) (sf1_7_0 : Int) (lf1_8 : List SExpr) (sf1_9_0 : Int) (sf1_10_0 : Int) (lf1_11 : List SExpr) (lf1_12 : List SStmt) (lf1_13 : List SStmt) : Option ((List SIns) × Int) :=
 match rec_compile_maker_list lf0_0 sf0_1 lf1_12 with
 | none=>none
 | some r1 =>
  some (r1.1,r1.2)
theorem compile_maker_stmt_1_step (K:Nat) (rec_compile_maker_list:(List SIns)→Int→(List SStmt)→Option ((List SIns)×Int)) (hr_compile_maker_list:compile_maker_list.Rec rec_compile_maker_list) (Z:Zone) (bo0 bf0:Nat) (lf0_0:List SIns) (Af0_0:OA) (cf0_0:Nat) (sf0_1:Int) (bf1:Nat) (sf1_0_0 sf1_1_0 sf1_2_0 sf1_3_0:Int) (lf1_4:List SExpr) (Af1_4:OA) (cf1_4:Nat) (sf1_5_0 sf1_6_0 sf1_7_0:Int) (lf1_8:List SExpr) (Af1_8:OA) (cf1_8:Nat) (sf1_9_0 sf1_10_0:Int) (lf1_11:List SExpr) (Af1_11:OA) (cf1_11:Nat) (lf1_12:List SStmt) (Af1_12:OA) (cf1_12:Nat) (lf1_13:List SStmt) (Af1_13:OA) (cf1_13:Nat) (w0 wE:World) (LT:List Own) (hS:St w0 wE [bk bo0 #[pP bf0 0] 121,bk bf0 #[(.slice Af0_0 lf0_0.length cf0_0),vI sf0_1] 123,bk bf1 #[vI sf1_0_0,vI sf1_1_0,vI sf1_2_0,vI sf1_3_0,.slice Af1_4 lf1_4.length cf1_4,vI sf1_5_0,vI sf1_6_0,vI sf1_7_0,.slice Af1_8 lf1_8.length cf1_8,vI sf1_9_0,vI sf1_10_0,.slice Af1_11 lf1_11.length cf1_11,.slice Af1_12 lf1_12.length cf1_12,.slice Af1_13 lf1_13.length cf1_13] 49,ro Af0_0 cf0_0 29 lf0_0,Own.all LT]) (hZ:∀ w L,St w0 w (Own.all LT::L)→∀ w',Sub w w'→Z w') (hRf1_4:RdZ Z Af1_4 lf1_4) (hLf1_4:lf1_4.length≤cf1_4) (hRf1_8:RdZ Z Af1_8 lf1_8) (hLf1_8:lf1_8.length≤cf1_8) (hRf1_11:RdZ Z Af1_11 lf1_11) (hLf1_11:lf1_11.length≤cf1_11) (hRf1_12:RdZ Z Af1_12 lf1_12) (hLf1_12:lf1_12.length≤cf1_12) (hRf1_13:RdZ Z Af1_13 lf1_13) (hLf1_13:lf1_13.length≤cf1_13) (r:(List SIns)×Int) (h:compile_maker_stmt_1.b K rec_compile_maker_list lf0_0 sf0_1 sf1_0_0 sf1_1_0 sf1_2_0 sf1_3_0 lf1_4 sf1_5_0 sf1_6_0 sf1_7_0 lf1_8 sf1_9_0 sf1_10_0 lf1_11 lf1_12 lf1_13=some r) :
  Calls Try.prog 113 #[pP bo0 0,pP bf1 0] wE (compile_maker_stmt_1.Post w0 Z bo0 bf0 lf0_0 Af0_0 cf0_0 sf0_1 bf1 sf1_0_0 sf1_1_0 sf1_2_0 sf1_3_0 lf1_4 Af1_4 cf1_4 sf1_5_0 sf1_6_0 sf1_7_0 lf1_8 Af1_8 cf1_8 sf1_9_0 sf1_10_0 lf1_11 Af1_11 cf1_11 lf1_12 Af1_12 cf1_12 lf1_13 Af1_13 cf1_13 LT r):=by
 unfold compile_maker_stmt_1.b at h
 refine calls_enter (n:=6) (args:=[pP bo0 0,pP bf1 0]) (fn:=Try.f113) rfl rfl rfl rfl ?_
 show WE _ _ _ _ [(0,pP bo0 0),(1,pP bf1 0)] _
 refine wr [(0,0),(1,0),(2,0),(3,2)]<|gb [0,1,2] [(4,.slice Af1_12 lf1_12.length cf1_12),(3,pP bf1 12),(2,pP bf0 0)] [ld bo0 0 (pP bf0 0),ld bf1 12 (.slice Af1_12 lf1_12.length cf1_12)] ⟨hS.c 0,hS.c 2,trivial⟩ ?_
 rcases hq1:rec_compile_maker_list lf0_0 sf0_1 lf1_12 with _ | r1
 ·rw [hq1] at h; cases h
 rw [hq1] at h
 simp only [] at h
 have hS4:=((hS.b 3).b 2).packN 2
 refine ge_call2 (m:=0) (d:=some 5) (f:=65) (args:=#[pP bf0 0,.slice Af1_12 lf1_12.length cf1_12]) (by kernel_rfl) (hr_compile_maker_list Z bf0 lf0_0 Af0_0 cf0_0 sf0_1 lf1_12 Af1_12 cf1_12 _ _ _ hS4 (fun w L h w' k=>(hZ _ _ (h.spread.bring 2 rfl) w' k)) hRf1_12 hLf1_12 _ hq1) ?_
 rintro _ w1 ⟨v1,rfl,hS3⟩
 refine ⟨_,rfl,?_⟩
 have hS10:=(((((hS3.unpack [bk bf0 #[v1,vI r1.2] 123,Own.of v1 29 r1.1]).b 4).b 2).b 4).b 3).b 4
 obtain rfl:=si h
 exact ge_nil (pe0 [] [] ⟨v1,rfl,hS10⟩)
def compile_maker_stmt_2.b (K : Nat) (rec_compile_maker_list : (List SIns) → Int → (List SStmt) → Option ((List SIns) × Int)) (lf0_0 : List SIns) (sf0_1 : Int) (sf1_0_0 : Int) (sf1_1_0 : Int) (sf1_2_0 : Int) (sf1_3_0 : Int) (lf1_4 : List SExpr) (sf1_5_0 : Int) (sf1_6_0 : Int) (sf1_7_0 : Int) (lf1_8 : List SExpr) (sf1_9_0 : Int) (sf1_10_0 : Int) (lf1_11 : List SExpr) (lf1_12 : List SStmt) (lf1_13 : List SStmt) : Option ((List SIns) × Int) :=
 match compile_maker_unless.f K lf0_0 sf0_1 sf1_5_0 sf1_6_0 sf1_7_0 lf1_8 sf1_9_0 sf1_10_0 lf1_11 with
 | none=>none
 | some r1 =>
  match rec_compile_maker_list r1.2 sf0_1 lf1_12 with
  | none=>none
  | some r2 =>
   match compile_maker_put.f r2.1 r2.2 11 0 0 with
   | none=>none
   | some r3 =>
    match compile_maker_here.f r3.2 r2.2 r1.1 with
    | none=>none
    | some r4 =>
     match compile_maker_put.f r4 r2.2 15 (IntKind.i64.wrap (r2.2-1)) 0 with
     | none=>none
     | some r5 =>
      match compile_maker_here.f r5.2 r2.2 r3.1 with
      | none=>none
      | some r6 =>
       some (r6,r2.2)
theorem compile_maker_stmt_2_step (K:Nat) (rec_compile_maker_list:(List SIns)→Int→(List SStmt)→Option ((List SIns)×Int)) (hr_compile_maker_list:compile_maker_list.Rec rec_compile_maker_list) (Z:Zone) (bo0 bf0:Nat) (lf0_0:List SIns) (Af0_0:OA) (cf0_0:Nat) (sf0_1:Int) (bf1:Nat) (sf1_0_0 sf1_1_0 sf1_2_0 sf1_3_0:Int) (lf1_4:List SExpr) (Af1_4:OA) (cf1_4:Nat) (sf1_5_0 sf1_6_0 sf1_7_0:Int) (lf1_8:List SExpr) (Af1_8:OA) (cf1_8:Nat) (sf1_9_0 sf1_10_0:Int) (lf1_11:List SExpr) (Af1_11:OA) (cf1_11:Nat) (lf1_12:List SStmt) (Af1_12:OA) (cf1_12:Nat) (lf1_13:List SStmt) (Af1_13:OA) (cf1_13:Nat) (w0 wE:World) (LT:List Own) (hS:St w0 wE [bk bo0 #[pP bf0 0] 121,bk bf0 #[(.slice Af0_0 lf0_0.length cf0_0),vI sf0_1] 123,bk bf1 #[vI sf1_0_0,vI sf1_1_0,vI sf1_2_0,vI sf1_3_0,.slice Af1_4 lf1_4.length cf1_4,vI sf1_5_0,vI sf1_6_0,vI sf1_7_0,.slice Af1_8 lf1_8.length cf1_8,vI sf1_9_0,vI sf1_10_0,.slice Af1_11 lf1_11.length cf1_11,.slice Af1_12 lf1_12.length cf1_12,.slice Af1_13 lf1_13.length cf1_13] 49,ro Af0_0 cf0_0 29 lf0_0,Own.all LT]) (hZ:∀ w L,St w0 w (Own.all LT::L)→∀ w',Sub w w'→Z w') (hRf1_4:RdZ Z Af1_4 lf1_4) (hLf1_4:lf1_4.length≤cf1_4) (hRf1_8:RdZ Z Af1_8 lf1_8) (hLf1_8:lf1_8.length≤cf1_8) (hRf1_11:RdZ Z Af1_11 lf1_11) (hLf1_11:lf1_11.length≤cf1_11) (hRf1_12:RdZ Z Af1_12 lf1_12) (hLf1_12:lf1_12.length≤cf1_12) (hRf1_13:RdZ Z Af1_13 lf1_13) (hLf1_13:lf1_13.length≤cf1_13) (r:(List SIns)×Int) (h:compile_maker_stmt_2.b K rec_compile_maker_list lf0_0 sf0_1 sf1_0_0 sf1_1_0 sf1_2_0 sf1_3_0 lf1_4 sf1_5_0 sf1_6_0 sf1_7_0 lf1_8 sf1_9_0 sf1_10_0 lf1_11 lf1_12 lf1_13=some r) :
  Calls Try.prog 114 #[pP bo0 0,pP bf1 0] wE (compile_maker_stmt_2.Post w0 Z bo0 bf0 lf0_0 Af0_0 cf0_0 sf0_1 bf1 sf1_0_0 sf1_1_0 sf1_2_0 sf1_3_0 lf1_4 Af1_4 cf1_4 sf1_5_0 sf1_6_0 sf1_7_0 lf1_8 Af1_8 cf1_8 sf1_9_0 sf1_10_0 lf1_11 Af1_11 cf1_11 lf1_12 Af1_12 cf1_12 lf1_13 Af1_13 cf1_13 LT r):=by
 unfold compile_maker_stmt_2.b at h
 refine calls_enter (n:=27) (args:=[pP bo0 0,pP bf1 0]) (fn:=Try.f114) rfl rfl rfl rfl ?_
 show WE _ _ _ _ [(0,pP bo0 0),(1,pP bf1 0)] _
 refine ws fun K1 hK1=>wr [(0,0),(1,0),(2,0),(3,2),(4,0)]<|gb [0,1,2] [(6,.agg #[vI sf1_5_0,vI sf1_6_0,vI sf1_7_0,.slice Af1_8 lf1_8.length cf1_8,vI sf1_9_0,vI sf1_10_0,.slice Af1_11 lf1_11.length cf1_11]),(5,pP bf1 5),(4,pP bf0 0)] [ld bo0 0 (pP bf0 0),ld bf1 5 (vI sf1_5_0),ld bf1 6 (vI sf1_6_0),ld bf1 7 (vI sf1_7_0),ld bf1 8 (.slice Af1_8 lf1_8.length cf1_8),ld bf1 9 (vI sf1_9_0),ld bf1 10 (vI sf1_10_0),ld bf1 11 (.slice Af1_11 lf1_11.length cf1_11)] ⟨hS.c 0,hS.c 2,hS.c 2,hS.c 2,hS.c 2,hS.c 2,hS.c 2,hS.c 2,trivial⟩ ?_
 rcases hq1:compile_maker_unless.f K lf0_0 sf0_1 sf1_5_0 sf1_6_0 sf1_7_0 lf1_8 sf1_9_0 sf1_10_0 lf1_11 with _ | r1
 ·rw [hq1] at h; cases h
 rw [hq1] at h
 simp only [] at h
 have hS4:=((hS.b 3).b 2).packN 2
 refine ge_call2 (m:=0) (d:=some 7) (f:=110) (args:=#[pP bf0 0,.agg #[vI sf1_5_0,vI sf1_6_0,vI sf1_7_0,.slice Af1_8 lf1_8.length cf1_8,vI sf1_9_0,vI sf1_10_0,.slice Af1_11 lf1_11.length cf1_11]]) (by kernel_rfl) (compile_maker_unless_ok K Z bf0 lf0_0 Af0_0 cf0_0 sf0_1 sf1_5_0 sf1_6_0 sf1_7_0 lf1_8 Af1_8 cf1_8 sf1_9_0 sf1_10_0 lf1_11 Af1_11 cf1_11 _ _ _ hS4 (fun w L h w' k=>(hZ _ _ (h.spread.bring 2 rfl) w' k)) hRf1_8 hLf1_8 hRf1_11 hLf1_11 _ hq1) ?_
 rintro _ w1 ⟨v1,rfl,hS3⟩
 refine ⟨_,rfl,?_⟩
 have hS5:=hS3.unpack [bk bf0 #[v1,vI sf0_1] 123,Own.of v1 29 r1.2]
 refine gb0 [4] [(2,vI r1.1)]<|gn hK1<|ws fun K2 hK2=>wr [(0,0),(1,0),(2,0),(3,2)]<|gb [0,1,2] [(10,.slice Af1_12 lf1_12.length cf1_12),(9,pP bf1 12),(8,pP bf0 0)] [ld bo0 0 (pP bf0 0),ld bf1 12 (.slice Af1_12 lf1_12.length cf1_12)] ⟨hS5.c 2,hS5.c 3,trivial⟩ ?_
 obtain ⟨Z1,cz1,rfl⟩:=hS5.open 1 rfl
 rcases hq2:rec_compile_maker_list r1.2 sf0_1 lf1_12 with _ | r2
 ·rw [hq2] at h; cases h
 rw [hq2] at h
 simp only [] at h
 have hS9:=((hS5.b 1).b 1).packN 2
 refine ge_call2 (m:=0) (d:=some 11) (f:=65) (args:=#[pP bf0 0,.slice Af1_12 lf1_12.length cf1_12]) (by kernel_rfl) (hr_compile_maker_list Z bf0 r1.2 Z1 cz1 sf0_1 lf1_12 Af1_12 cf1_12 _ _ _ hS9 (fun w L h w' k=>(hZ _ _ (h.spread.bring 2 rfl) w' k)) hRf1_12 hLf1_12 _ hq2) ?_
 rintro _ w2 ⟨v2,rfl,hS8⟩
 refine ⟨_,rfl,?_⟩
 have hS10:=hS8.unpack [bk bf0 #[v2,vI r2.2] 123,Own.of v2 29 r2.1]
 refine gn hK2<|ws fun K3 hK3=>wr [(0,0),(1,2),(2,0)]<|gb [0] [(12,pP bf0 0)] [ld bo0 0 (pP bf0 0)] ⟨hS10.c 2,trivial⟩ ?_
 obtain ⟨Z2,cz2,rfl⟩:=hS10.open 1 rfl
 rcases hq3:compile_maker_put.f r2.1 r2.2 11 0 0 with _ | r3
 ·rw [hq3] at h; cases h
 rw [hq3] at h
 simp only [] at h
 have hS14:=((hS10.b 1).b 1).packN 2
 refine ge_call2 (m:=0) (d:=some 13) (f:=109) (args:=#[pP bf0 0,vI 11,vI 0,vI 0]) (by kernel_rfl) (compile_maker_put_ok bf0 r2.1 Z2 cz2 r2.2 11 0 0 _ _ _ hS14 _ hq3) ?_
 rintro _ w3 ⟨v3,rfl,hS13⟩
 refine ⟨_,rfl,?_⟩
 have hS15:=hS13.unpack [bk bf0 #[v3,vI r2.2] 123,Own.of v3 29 r3.2]
 refine gb0 [2] [(3,vI r3.1)]<|gn hK3<|ws fun K4 hK4=>wr [(0,0),(1,0),(2,2)]<|gb [0,1] [(15,vI r1.1),(14,pP bf0 0)] [ld bo0 0 (pP bf0 0)] ⟨hS15.c 2,trivial⟩ ?_
 obtain ⟨Z3,cz3,rfl⟩:=hS15.open 1 rfl
 rcases hq4:compile_maker_here.f r3.2 r2.2 r1.1 with _ | r4
 ·rw [hq4] at h; cases h
 rw [hq4] at h
 simp only [] at h
 have hS19:=((hS15.b 1).b 1).packN 2
 refine ge_call2 (m:=0) (d:=some 16) (f:=111) (args:=#[pP bf0 0,vI r1.1]) (by kernel_rfl) (compile_maker_here_ok bf0 r3.2 Z3 cz3 r2.2 r1.1 _ _ _ hS19 _ hq4) ?_
 rintro _ w4 ⟨v4,rfl,hS18⟩
 refine ⟨_,rfl,?_⟩
 have hS20:=hS18.unpack [bk bf0 #[v4,vI r2.2] 123,Own.of v4 29 r4]
 refine gn hK4<|ws fun K5 hK5=>we_orders3 (by kernel_rfl) [(0,[⟨bo0,0,none⟩],[],[]),(1,[⟨bo0,0,none⟩],[2,3,4,5,6],[]),(4,[⟨bf0,1,none⟩],[5,6],[])] (.vals [0] (.vals [1] (.vals [2] (.vals [3] (.vals [4] (.vals [5] (.alt 6 2 .fin .nomore))))))) (by kernel_rfl) (by kernel_rfl) ?_
 have hS21:=hS20.drew
 refine g3 0 [(17,pP bf0 0)] [ld bo0 0 (pP bf0 0)] ⟨hS21.c 2,trivial⟩<|g3 1 [(18,pP bf0 0)] [ld bo0 0 (pP bf0 0)] ⟨hS21.c 2,trivial⟩<|g30 [2,3] [(20,pP bf0 1),(19,pP bf0 0)]<|g3 4 [(21,vI r2.2)] [ld bf0 1 (vI r2.2)] ⟨hS21.c 0,trivial⟩<|g30 [5] [(22,vI (IntKind.i64.wrap (r2.2-1)))]<|go_alt3 (fun KK hKK=>?_) ?_
 ·obtain ⟨Z4,cz4,rfl⟩:=hS21.open 1 rfl
  rcases hq5:compile_maker_put.f r4 r2.2 15 (IntKind.i64.wrap (r2.2-1)) 0 with _ | r5
  ·rw [hq5] at h; cases h
  rw [hq5] at h
  simp only [] at h
  have hS25:=((hS21.b 1).b 1).packN 2
  refine ge_call2 (m:=0) (d:=some 23) (f:=109) (args:=#[pP bf0 0,vI 15,vI (IntKind.i64.wrap (r2.2-1)),vI 0]) (by kernel_rfl) (compile_maker_put_ok bf0 r4 Z4 cz4 r2.2 15 (IntKind.i64.wrap (r2.2-1)) 0 _ _ _ hS25 _ hq5) ?_
  rintro _ w5 ⟨v5,rfl,hS24⟩
  refine ⟨_,rfl,?_⟩
  have hS26:=hS24.unpack [bk bf0 #[v5,vI r2.2] 123,Own.of v5 29 r5.2]
  refine g2 hKK<|go_fin3 fun a hF=>hK5 _ _ ?_ a hF
  refine wr [(0,0),(1,0),(2,2)]<|gb [0,1] [(25,vI r3.1),(24,pP bf0 0)] [ld bo0 0 (pP bf0 0)] ⟨hS26.c 2,trivial⟩ ?_
  obtain ⟨Z5,cz5,rfl⟩:=hS26.open 1 rfl
  rcases hq6:compile_maker_here.f r5.2 r2.2 r3.1 with _ | r6
  ·rw [hq6] at h; cases h
  rw [hq6] at h
  simp only [] at h
  have hS30:=((hS26.b 1).b 1).packN 2
  refine ge_call2 (m:=0) (d:=some 26) (f:=111) (args:=#[pP bf0 0,vI r3.1]) (by kernel_rfl) (compile_maker_here_ok bf0 r5.2 Z5 cz5 r2.2 r3.1 _ _ _ hS30 _ hq6) ?_
  rintro _ w6 ⟨v6,rfl,hS29⟩
  refine ⟨_,rfl,?_⟩
  have hS36:=(((((hS29.unpack [bk bf0 #[v6,vI r2.2] 123,Own.of v6 29 r6]).b 4).b 2).b 4).b 3).b 4
  obtain rfl:=si h
  exact ge_nil (pe0 [] [] ⟨v6,rfl,hS36⟩)
 exact go_nomore3
def compile_maker_list.recs (K : Nat) : Nat → ((List SIns) → Int → (List SStmt) → Option ((List SIns) × Int)) × ((List SIns) → Int → Int → Int → Int → Int → (List SExpr) → Int → Int → Int → (List SExpr) → Int → Int → (List SExpr) → (List SStmt) → (List SStmt) → Option ((List SIns) × Int)) × ((List SIns) → Int → Int → Int → Int → Int → Int → (List SExpr) → Int → Int → Int → (List SExpr) → Int → Int → (List SExpr) → (List SStmt) → (List SStmt) → Option ((List SIns) × Int)) × ((List SIns) → Int → Int → Int → Int → Int → Int → (List SExpr) → Int → Int → Int → (List SExpr) → Int → Int → (List SExpr) → (List SStmt) → (List SStmt) → Option ((List SIns) × Int)) × ((List SIns) → Int → Int → Int → Int → Int → (List SExpr) → Int → Int → Int → (List SExpr) → Int → Int → (List SExpr) → (List SStmt) → (List SStmt) → Option ((List SIns) × Int)) × ((List SIns) → Int → Int → Int → Int → Int → (List SExpr) → Int → Int → Int → (List SExpr) → Int → Int → (List SExpr) → (List SStmt) → (List SStmt) → Option ((List SIns) × Int))
 | 0=>(fun _ _ _=>none,fun _ _ _ _ _ _ _ _ _ _ _ _ _ _ _ _=>none,fun _ _ _ _ _ _ _ _ _ _ _ _ _ _ _ _ _=>none,fun _ _ _ _ _ _ _ _ _ _ _ _ _ _ _ _ _=>none,fun _ _ _ _ _ _ _ _ _ _ _ _ _ _ _ _=>none,fun _ _ _ _ _ _ _ _ _ _ _ _ _ _ _ _=>none)
 | n+1=>(compile_maker_list.b K ((compile_maker_list.recs K n).2.1),compile_maker_stmt.b K ((compile_maker_list.recs K n).1) ((compile_maker_list.recs K n).2.2.1) ((compile_maker_list.recs K n).2.2.2.1),compile_maker_loop_v1.b K ((compile_maker_list.recs K n).2.2.2.2.1),compile_maker_loop_v2.b K ((compile_maker_list.recs K n).2.2.2.2.2),compile_maker_stmt_1.b K ((compile_maker_list.recs K n).1),compile_maker_stmt_2.b K ((compile_maker_list.recs K n).1))
theorem compile_maker_list_all (K n:Nat):compile_maker_list.Rec ((compile_maker_list.recs K n).1)∧compile_maker_stmt.Rec ((compile_maker_list.recs K n).2.1)∧compile_maker_loop_v1.Rec ((compile_maker_list.recs K n).2.2.1)∧compile_maker_loop_v2.Rec ((compile_maker_list.recs K n).2.2.2.1)∧compile_maker_stmt_1.Rec ((compile_maker_list.recs K n).2.2.2.2.1)∧compile_maker_stmt_2.Rec ((compile_maker_list.recs K n).2.2.2.2.2):=by
 induction n with
 | zero=>exact ⟨(by unfold compile_maker_list.Rec; intros; rename_i h; cases (show none=some _ from h)),(by unfold compile_maker_stmt.Rec; intros; rename_i h; cases (show none=some _ from h)),(by unfold compile_maker_loop_v1.Rec; intros; rename_i h; cases (show none=some _ from h)),(by unfold compile_maker_loop_v2.Rec; intros; rename_i h; cases (show none=some _ from h)),(by unfold compile_maker_stmt_1.Rec; intros; rename_i h; cases (show none=some _ from h)),(by unfold compile_maker_stmt_2.Rec; intros; rename_i h; cases (show none=some _ from h))⟩
 | succ n ih=>exact ⟨compile_maker_list_step K _ ih.2.1,compile_maker_stmt_step K _ ih.1 _ ih.2.2.1 _ ih.2.2.2.1,compile_maker_loop_v1_step K _ ih.2.2.2.2.1,compile_maker_loop_v2_step K _ ih.2.2.2.2.2,compile_maker_stmt_1_step K _ ih.1,compile_maker_stmt_2_step K _ ih.1⟩
def compile_maker_list.f (K : Nat) (lp0_0 : List SIns) (sp0_1 : Int) (l1 : List SStmt) : Option ((List SIns) × Int) := ((compile_maker_list.recs K K).1) lp0_0 sp0_1 l1
theorem compile_maker_list_ok (K:Nat) (Z:Zone) (bp0:Nat) (lp0_0:List SIns) (Ap0_0:OA) (cp0_0:Nat) (sp0_1:Int) (l1:List SStmt) (A1:OA) (c1:Nat) (w0 wE:World) (LT:List Own) (hS:St w0 wE [bk bp0 #[(.slice Ap0_0 lp0_0.length cp0_0),vI sp0_1] 123,ro Ap0_0 cp0_0 29 lp0_0,Own.all LT]) (hZ:∀ w L,St w0 w (Own.all LT::L)→∀ w',Sub w w'→Z w') (hR1:RdZ Z A1 l1) (hL1:l1.length≤c1) (r:(List SIns)×Int) (h:compile_maker_list.f K lp0_0 sp0_1 l1=some r):Calls Try.prog 65 #[pP bp0 0,.slice A1 l1.length c1] wE (compile_maker_list.Post w0 Z bp0 lp0_0 Ap0_0 cp0_0 sp0_1 l1 A1 c1 LT r):=(compile_maker_list_all K K).1 Z bp0 lp0_0 Ap0_0 cp0_0 sp0_1 l1 A1 c1 w0 wE LT hS hZ hR1 hL1 r h
def compile_maker_stmt.f (K : Nat) (lp0_0 : List SIns) (sp0_1 : Int) (x1_0 : Int) (x1_1 : Int) (x1_2_0 : Int) (x1_2_1 : Int) (l1_2_2 : List SExpr) (x1_3_0 : Int) (x1_3_1_0 : Int) (x1_3_1_1 : Int) (l1_3_1_2 : List SExpr) (x1_3_2_0 : Int) (x1_3_2_1 : Int) (l1_3_2_2 : List SExpr) (l1_4 : List SStmt) (l1_5 : List SStmt) : Option ((List SIns) × Int) := ((compile_maker_list.recs K K).2.1) lp0_0 sp0_1 x1_0 x1_1 x1_2_0 x1_2_1 l1_2_2 x1_3_0 x1_3_1_0 x1_3_1_1 l1_3_1_2 x1_3_2_0 x1_3_2_1 l1_3_2_2 l1_4 l1_5
theorem compile_maker_stmt_ok (K:Nat) (Z:Zone) (bp0:Nat) (lp0_0:List SIns) (Ap0_0:OA) (cp0_0:Nat) (sp0_1 x1_0 x1_1 x1_2_0 x1_2_1:Int) (l1_2_2:List SExpr) (A1_2_2:OA) (c1_2_2:Nat) (x1_3_0 x1_3_1_0 x1_3_1_1:Int) (l1_3_1_2:List SExpr) (A1_3_1_2:OA) (c1_3_1_2:Nat) (x1_3_2_0 x1_3_2_1:Int) (l1_3_2_2:List SExpr) (A1_3_2_2:OA) (c1_3_2_2:Nat) (l1_4:List SStmt) (A1_4:OA) (c1_4:Nat) (l1_5:List SStmt) (A1_5:OA) (c1_5:Nat) (w0 wE:World) (LT:List Own) (hS:St w0 wE [bk bp0 #[(.slice Ap0_0 lp0_0.length cp0_0),vI sp0_1] 123,ro Ap0_0 cp0_0 29 lp0_0,Own.all LT]) (hZ:∀ w L,St w0 w (Own.all LT::L)→∀ w',Sub w w'→Z w') (hR1_2_2:RdZ Z A1_2_2 l1_2_2) (hL1_2_2:l1_2_2.length≤c1_2_2) (hR1_3_1_2:RdZ Z A1_3_1_2 l1_3_1_2) (hL1_3_1_2:l1_3_1_2.length≤c1_3_1_2) (hR1_3_2_2:RdZ Z A1_3_2_2 l1_3_2_2) (hL1_3_2_2:l1_3_2_2.length≤c1_3_2_2) (hR1_4:RdZ Z A1_4 l1_4) (hL1_4:l1_4.length≤c1_4) (hR1_5:RdZ Z A1_5 l1_5) (hL1_5:l1_5.length≤c1_5) (r:(List SIns)×Int) (h:compile_maker_stmt.f K lp0_0 sp0_1 x1_0 x1_1 x1_2_0 x1_2_1 l1_2_2 x1_3_0 x1_3_1_0 x1_3_1_1 l1_3_1_2 x1_3_2_0 x1_3_2_1 l1_3_2_2 l1_4 l1_5=some r):Calls Try.prog 88 #[pP bp0 0,.agg #[vI x1_0,vI x1_1,vI x1_2_0,vI x1_2_1,.slice A1_2_2 l1_2_2.length c1_2_2,vI x1_3_0,vI x1_3_1_0,vI x1_3_1_1,.slice A1_3_1_2 l1_3_1_2.length c1_3_1_2,vI x1_3_2_0,vI x1_3_2_1,.slice A1_3_2_2 l1_3_2_2.length c1_3_2_2,.slice A1_4 l1_4.length c1_4,.slice A1_5 l1_5.length c1_5]] wE (compile_maker_stmt.Post w0 Z bp0 lp0_0 Ap0_0 cp0_0 sp0_1 x1_0 x1_1 x1_2_0 x1_2_1 l1_2_2 A1_2_2 c1_2_2 x1_3_0 x1_3_1_0 x1_3_1_1 l1_3_1_2 A1_3_1_2 c1_3_1_2 x1_3_2_0 x1_3_2_1 l1_3_2_2 A1_3_2_2 c1_3_2_2 l1_4 A1_4 c1_4 l1_5 A1_5 c1_5 LT r):=(compile_maker_list_all K K).2.1 Z bp0 lp0_0 Ap0_0 cp0_0 sp0_1 x1_0 x1_1 x1_2_0 x1_2_1 l1_2_2 A1_2_2 c1_2_2 x1_3_0 x1_3_1_0 x1_3_1_1 l1_3_1_2 A1_3_1_2 c1_3_1_2 x1_3_2_0 x1_3_2_1 l1_3_2_2 A1_3_2_2 c1_3_2_2 l1_4 A1_4 c1_4 l1_5 A1_5 c1_5 w0 wE LT hS hZ hR1_2_2 hL1_2_2 hR1_3_1_2 hL1_3_1_2 hR1_3_2_2 hL1_3_2_2 hR1_4 hL1_4 hR1_5 hL1_5 r h
def compile_maker_loop_v1.f (K : Nat) (lp0_0 : List SIns) (sp0_1 : Int) (x1 : Int) (sg2_1_0_0 : Int) (sg2_1_1_0 : Int) (sg2_1_2_0 : Int) (sg2_1_3_0 : Int) (lg2_1_4 : List SExpr) (sg2_1_5_0 : Int) (sg2_1_6_0 : Int) (sg2_1_7_0 : Int) (lg2_1_8 : List SExpr) (sg2_1_9_0 : Int) (sg2_1_10_0 : Int) (lg2_1_11 : List SExpr) (lg2_1_12 : List SStmt) (lg2_1_13 : List SStmt) : Option ((List SIns) × Int) := ((compile_maker_list.recs K K).2.2.1) lp0_0 sp0_1 x1 sg2_1_0_0 sg2_1_1_0 sg2_1_2_0 sg2_1_3_0 lg2_1_4 sg2_1_5_0 sg2_1_6_0 sg2_1_7_0 lg2_1_8 sg2_1_9_0 sg2_1_10_0 lg2_1_11 lg2_1_12 lg2_1_13
theorem compile_maker_loop_v1_ok (K:Nat) (Z:Zone) (bp0:Nat) (lp0_0:List SIns) (Ap0_0:OA) (cp0_0:Nat) (sp0_1 x1:Int) (bog2_0 bg2_1:Nat) (sg2_1_0_0 sg2_1_1_0 sg2_1_2_0 sg2_1_3_0:Int) (lg2_1_4:List SExpr) (Ag2_1_4:OA) (cg2_1_4:Nat) (sg2_1_5_0 sg2_1_6_0 sg2_1_7_0:Int) (lg2_1_8:List SExpr) (Ag2_1_8:OA) (cg2_1_8:Nat) (sg2_1_9_0 sg2_1_10_0:Int) (lg2_1_11:List SExpr) (Ag2_1_11:OA) (cg2_1_11:Nat) (lg2_1_12:List SStmt) (Ag2_1_12:OA) (cg2_1_12:Nat) (lg2_1_13:List SStmt) (Ag2_1_13:OA) (cg2_1_13:Nat) (w0 wE:World) (LT:List Own) (hS:St w0 wE [bk bog2_0 #[pP bp0 0] 121,bk bp0 #[(.slice Ap0_0 lp0_0.length cp0_0),vI sp0_1] 123,bk bg2_1 #[vI sg2_1_0_0,vI sg2_1_1_0,vI sg2_1_2_0,vI sg2_1_3_0,.slice Ag2_1_4 lg2_1_4.length cg2_1_4,vI sg2_1_5_0,vI sg2_1_6_0,vI sg2_1_7_0,.slice Ag2_1_8 lg2_1_8.length cg2_1_8,vI sg2_1_9_0,vI sg2_1_10_0,.slice Ag2_1_11 lg2_1_11.length cg2_1_11,.slice Ag2_1_12 lg2_1_12.length cg2_1_12,.slice Ag2_1_13 lg2_1_13.length cg2_1_13] 49,ro Ap0_0 cp0_0 29 lp0_0,Own.all LT]) (hZ:∀ w L,St w0 w (Own.all LT::L)→∀ w',Sub w w'→Z w') (hRg2_1_4:RdZ Z Ag2_1_4 lg2_1_4) (hLg2_1_4:lg2_1_4.length≤cg2_1_4) (hRg2_1_8:RdZ Z Ag2_1_8 lg2_1_8) (hLg2_1_8:lg2_1_8.length≤cg2_1_8) (hRg2_1_11:RdZ Z Ag2_1_11 lg2_1_11) (hLg2_1_11:lg2_1_11.length≤cg2_1_11) (hRg2_1_12:RdZ Z Ag2_1_12 lg2_1_12) (hLg2_1_12:lg2_1_12.length≤cg2_1_12) (hRg2_1_13:RdZ Z Ag2_1_13 lg2_1_13) (hLg2_1_13:lg2_1_13.length≤cg2_1_13) (r:(List SIns)×Int) (h:compile_maker_loop_v1.f K lp0_0 sp0_1 x1 sg2_1_0_0 sg2_1_1_0 sg2_1_2_0 sg2_1_3_0 lg2_1_4 sg2_1_5_0 sg2_1_6_0 sg2_1_7_0 lg2_1_8 sg2_1_9_0 sg2_1_10_0 lg2_1_11 lg2_1_12 lg2_1_13=some r):Calls Try.prog 112 #[pP bp0 0,vI x1,.func (.func 113) #[] #[pP bog2_0 0,pP bg2_1 0]] wE (compile_maker_loop_v1.Post w0 Z bp0 lp0_0 Ap0_0 cp0_0 sp0_1 x1 bog2_0 bg2_1 sg2_1_0_0 sg2_1_1_0 sg2_1_2_0 sg2_1_3_0 lg2_1_4 Ag2_1_4 cg2_1_4 sg2_1_5_0 sg2_1_6_0 sg2_1_7_0 lg2_1_8 Ag2_1_8 cg2_1_8 sg2_1_9_0 sg2_1_10_0 lg2_1_11 Ag2_1_11 cg2_1_11 lg2_1_12 Ag2_1_12 cg2_1_12 lg2_1_13 Ag2_1_13 cg2_1_13 LT r):=(compile_maker_list_all K K).2.2.1 Z bp0 lp0_0 Ap0_0 cp0_0 sp0_1 x1 bog2_0 bg2_1 sg2_1_0_0 sg2_1_1_0 sg2_1_2_0 sg2_1_3_0 lg2_1_4 Ag2_1_4 cg2_1_4 sg2_1_5_0 sg2_1_6_0 sg2_1_7_0 lg2_1_8 Ag2_1_8 cg2_1_8 sg2_1_9_0 sg2_1_10_0 lg2_1_11 Ag2_1_11 cg2_1_11 lg2_1_12 Ag2_1_12 cg2_1_12 lg2_1_13 Ag2_1_13 cg2_1_13 w0 wE LT hS hZ hRg2_1_4 hLg2_1_4 hRg2_1_8 hLg2_1_8 hRg2_1_11 hLg2_1_11 hRg2_1_12 hLg2_1_12 hRg2_1_13 hLg2_1_13 r h
def compile_maker_loop_v2.f (K : Nat) (lp0_0 : List SIns) (sp0_1 : Int) (x1 : Int) (sg2_1_0_0 : Int) (sg2_1_1_0 : Int) (sg2_1_2_0 : Int) (sg2_1_3_0 : Int) (lg2_1_4 : List SExpr) (sg2_1_5_0 : Int) (sg2_1_6_0 : Int) (sg2_1_7_0 : Int) (lg2_1_8 : List SExpr) (sg2_1_9_0 : Int) (sg2_1_10_0 : Int) (lg2_1_11 : List SExpr) (lg2_1_12 : List SStmt) (lg2_1_13 : List SStmt) : Option ((List SIns) × Int) := ((compile_maker_list.recs K K).2.2.2.1) lp0_0 sp0_1 x1 sg2_1_0_0 sg2_1_1_0 sg2_1_2_0 sg2_1_3_0 lg2_1_4 sg2_1_5_0 sg2_1_6_0 sg2_1_7_0 lg2_1_8 sg2_1_9_0 sg2_1_10_0 lg2_1_11 lg2_1_12 lg2_1_13
theorem compile_maker_loop_v2_ok (K:Nat) (Z:Zone) (bp0:Nat) (lp0_0:List SIns) (Ap0_0:OA) (cp0_0:Nat) (sp0_1 x1:Int) (bog2_0 bg2_1:Nat) (sg2_1_0_0 sg2_1_1_0 sg2_1_2_0 sg2_1_3_0:Int) (lg2_1_4:List SExpr) (Ag2_1_4:OA) (cg2_1_4:Nat) (sg2_1_5_0 sg2_1_6_0 sg2_1_7_0:Int) (lg2_1_8:List SExpr) (Ag2_1_8:OA) (cg2_1_8:Nat) (sg2_1_9_0 sg2_1_10_0:Int) (lg2_1_11:List SExpr) (Ag2_1_11:OA) (cg2_1_11:Nat) (lg2_1_12:List SStmt) (Ag2_1_12:OA) (cg2_1_12:Nat) (lg2_1_13:List SStmt) (Ag2_1_13:OA) (cg2_1_13:Nat) (w0 wE:World) (LT:List Own) (hS:St w0 wE [bk bog2_0 #[pP bp0 0] 121,bk bp0 #[(.slice Ap0_0 lp0_0.length cp0_0),vI sp0_1] 123,bk bg2_1 #[vI sg2_1_0_0,vI sg2_1_1_0,vI sg2_1_2_0,vI sg2_1_3_0,.slice Ag2_1_4 lg2_1_4.length cg2_1_4,vI sg2_1_5_0,vI sg2_1_6_0,vI sg2_1_7_0,.slice Ag2_1_8 lg2_1_8.length cg2_1_8,vI sg2_1_9_0,vI sg2_1_10_0,.slice Ag2_1_11 lg2_1_11.length cg2_1_11,.slice Ag2_1_12 lg2_1_12.length cg2_1_12,.slice Ag2_1_13 lg2_1_13.length cg2_1_13] 49,ro Ap0_0 cp0_0 29 lp0_0,Own.all LT]) (hZ:∀ w L,St w0 w (Own.all LT::L)→∀ w',Sub w w'→Z w') (hRg2_1_4:RdZ Z Ag2_1_4 lg2_1_4) (hLg2_1_4:lg2_1_4.length≤cg2_1_4) (hRg2_1_8:RdZ Z Ag2_1_8 lg2_1_8) (hLg2_1_8:lg2_1_8.length≤cg2_1_8) (hRg2_1_11:RdZ Z Ag2_1_11 lg2_1_11) (hLg2_1_11:lg2_1_11.length≤cg2_1_11) (hRg2_1_12:RdZ Z Ag2_1_12 lg2_1_12) (hLg2_1_12:lg2_1_12.length≤cg2_1_12) (hRg2_1_13:RdZ Z Ag2_1_13 lg2_1_13) (hLg2_1_13:lg2_1_13.length≤cg2_1_13) (r:(List SIns)×Int) (h:compile_maker_loop_v2.f K lp0_0 sp0_1 x1 sg2_1_0_0 sg2_1_1_0 sg2_1_2_0 sg2_1_3_0 lg2_1_4 sg2_1_5_0 sg2_1_6_0 sg2_1_7_0 lg2_1_8 sg2_1_9_0 sg2_1_10_0 lg2_1_11 lg2_1_12 lg2_1_13=some r):Calls Try.prog 112 #[pP bp0 0,vI x1,.func (.func 114) #[] #[pP bog2_0 0,pP bg2_1 0]] wE (compile_maker_loop_v2.Post w0 Z bp0 lp0_0 Ap0_0 cp0_0 sp0_1 x1 bog2_0 bg2_1 sg2_1_0_0 sg2_1_1_0 sg2_1_2_0 sg2_1_3_0 lg2_1_4 Ag2_1_4 cg2_1_4 sg2_1_5_0 sg2_1_6_0 sg2_1_7_0 lg2_1_8 Ag2_1_8 cg2_1_8 sg2_1_9_0 sg2_1_10_0 lg2_1_11 Ag2_1_11 cg2_1_11 lg2_1_12 Ag2_1_12 cg2_1_12 lg2_1_13 Ag2_1_13 cg2_1_13 LT r):=(compile_maker_list_all K K).2.2.2.1 Z bp0 lp0_0 Ap0_0 cp0_0 sp0_1 x1 bog2_0 bg2_1 sg2_1_0_0 sg2_1_1_0 sg2_1_2_0 sg2_1_3_0 lg2_1_4 Ag2_1_4 cg2_1_4 sg2_1_5_0 sg2_1_6_0 sg2_1_7_0 lg2_1_8 Ag2_1_8 cg2_1_8 sg2_1_9_0 sg2_1_10_0 lg2_1_11 Ag2_1_11 cg2_1_11 lg2_1_12 Ag2_1_12 cg2_1_12 lg2_1_13 Ag2_1_13 cg2_1_13 w0 wE LT hS hZ hRg2_1_4 hLg2_1_4 hRg2_1_8 hLg2_1_8 hRg2_1_11 hLg2_1_11 hRg2_1_12 hLg2_1_12 hRg2_1_13 hLg2_1_13 r h
def compile_maker_stmt_1.f (K : Nat) (lf0_0 : List SIns) (sf0_1 : Int) (sf1_0_0 : Int) (sf1_1_0 : Int) (sf1_2_0 : Int) (sf1_3_0 : Int) (lf1_4 : List SExpr) (sf1_5_0 : Int) (sf1_6_0 : Int) (sf1_7_0 : Int) (lf1_8 : List SExpr) (sf1_9_0 : Int) (sf1_10_0 : Int) (lf1_11 : List SExpr) (lf1_12 : List SStmt) (lf1_13 : List SStmt) : Option ((List SIns) × Int) := ((compile_maker_list.recs K K).2.2.2.2.1) lf0_0 sf0_1 sf1_0_0 sf1_1_0 sf1_2_0 sf1_3_0 lf1_4 sf1_5_0 sf1_6_0 sf1_7_0 lf1_8 sf1_9_0 sf1_10_0 lf1_11 lf1_12 lf1_13
theorem compile_maker_stmt_1_ok (K:Nat) (Z:Zone) (bo0 bf0:Nat) (lf0_0:List SIns) (Af0_0:OA) (cf0_0:Nat) (sf0_1:Int) (bf1:Nat) (sf1_0_0 sf1_1_0 sf1_2_0 sf1_3_0:Int) (lf1_4:List SExpr) (Af1_4:OA) (cf1_4:Nat) (sf1_5_0 sf1_6_0 sf1_7_0:Int) (lf1_8:List SExpr) (Af1_8:OA) (cf1_8:Nat) (sf1_9_0 sf1_10_0:Int) (lf1_11:List SExpr) (Af1_11:OA) (cf1_11:Nat) (lf1_12:List SStmt) (Af1_12:OA) (cf1_12:Nat) (lf1_13:List SStmt) (Af1_13:OA) (cf1_13:Nat) (w0 wE:World) (LT:List Own) (hS:St w0 wE [bk bo0 #[pP bf0 0] 121,bk bf0 #[(.slice Af0_0 lf0_0.length cf0_0),vI sf0_1] 123,bk bf1 #[vI sf1_0_0,vI sf1_1_0,vI sf1_2_0,vI sf1_3_0,.slice Af1_4 lf1_4.length cf1_4,vI sf1_5_0,vI sf1_6_0,vI sf1_7_0,.slice Af1_8 lf1_8.length cf1_8,vI sf1_9_0,vI sf1_10_0,.slice Af1_11 lf1_11.length cf1_11,.slice Af1_12 lf1_12.length cf1_12,.slice Af1_13 lf1_13.length cf1_13] 49,ro Af0_0 cf0_0 29 lf0_0,Own.all LT]) (hZ:∀ w L,St w0 w (Own.all LT::L)→∀ w',Sub w w'→Z w') (hRf1_4:RdZ Z Af1_4 lf1_4) (hLf1_4:lf1_4.length≤cf1_4) (hRf1_8:RdZ Z Af1_8 lf1_8) (hLf1_8:lf1_8.length≤cf1_8) (hRf1_11:RdZ Z Af1_11 lf1_11) (hLf1_11:lf1_11.length≤cf1_11) (hRf1_12:RdZ Z Af1_12 lf1_12) (hLf1_12:lf1_12.length≤cf1_12) (hRf1_13:RdZ Z Af1_13 lf1_13) (hLf1_13:lf1_13.length≤cf1_13) (r:(List SIns)×Int) (h:compile_maker_stmt_1.f K lf0_0 sf0_1 sf1_0_0 sf1_1_0 sf1_2_0 sf1_3_0 lf1_4 sf1_5_0 sf1_6_0 sf1_7_0 lf1_8 sf1_9_0 sf1_10_0 lf1_11 lf1_12 lf1_13=some r):Calls Try.prog 113 #[pP bo0 0,pP bf1 0] wE (compile_maker_stmt_1.Post w0 Z bo0 bf0 lf0_0 Af0_0 cf0_0 sf0_1 bf1 sf1_0_0 sf1_1_0 sf1_2_0 sf1_3_0 lf1_4 Af1_4 cf1_4 sf1_5_0 sf1_6_0 sf1_7_0 lf1_8 Af1_8 cf1_8 sf1_9_0 sf1_10_0 lf1_11 Af1_11 cf1_11 lf1_12 Af1_12 cf1_12 lf1_13 Af1_13 cf1_13 LT r):=(compile_maker_list_all K K).2.2.2.2.1 Z bo0 bf0 lf0_0 Af0_0 cf0_0 sf0_1 bf1 sf1_0_0 sf1_1_0 sf1_2_0 sf1_3_0 lf1_4 Af1_4 cf1_4 sf1_5_0 sf1_6_0 sf1_7_0 lf1_8 Af1_8 cf1_8 sf1_9_0 sf1_10_0 lf1_11 Af1_11 cf1_11 lf1_12 Af1_12 cf1_12 lf1_13 Af1_13 cf1_13 w0 wE LT hS hZ hRf1_4 hLf1_4 hRf1_8 hLf1_8 hRf1_11 hLf1_11 hRf1_12 hLf1_12 hRf1_13 hLf1_13 r h
def compile_maker_stmt_2.f (K : Nat) (lf0_0 : List SIns) (sf0_1 : Int) (sf1_0_0 : Int) (sf1_1_0 : Int) (sf1_2_0 : Int) (sf1_3_0 : Int) (lf1_4 : List SExpr) (sf1_5_0 : Int) (sf1_6_0 : Int) (sf1_7_0 : Int) (lf1_8 : List SExpr) (sf1_9_0 : Int) (sf1_10_0 : Int) (lf1_11 : List SExpr) (lf1_12 : List SStmt) (lf1_13 : List SStmt) : Option ((List SIns) × Int) := ((compile_maker_list.recs K K).2.2.2.2.2) lf0_0 sf0_1 sf1_0_0 sf1_1_0 sf1_2_0 sf1_3_0 lf1_4 sf1_5_0 sf1_6_0 sf1_7_0 lf1_8 sf1_9_0 sf1_10_0 lf1_11 lf1_12 lf1_13
theorem compile_maker_stmt_2_ok (K:Nat) (Z:Zone) (bo0 bf0:Nat) (lf0_0:List SIns) (Af0_0:OA) (cf0_0:Nat) (sf0_1:Int) (bf1:Nat) (sf1_0_0 sf1_1_0 sf1_2_0 sf1_3_0:Int) (lf1_4:List SExpr) (Af1_4:OA) (cf1_4:Nat) (sf1_5_0 sf1_6_0 sf1_7_0:Int) (lf1_8:List SExpr) (Af1_8:OA) (cf1_8:Nat) (sf1_9_0 sf1_10_0:Int) (lf1_11:List SExpr) (Af1_11:OA) (cf1_11:Nat) (lf1_12:List SStmt) (Af1_12:OA) (cf1_12:Nat) (lf1_13:List SStmt) (Af1_13:OA) (cf1_13:Nat) (w0 wE:World) (LT:List Own) (hS:St w0 wE [bk bo0 #[pP bf0 0] 121,bk bf0 #[(.slice Af0_0 lf0_0.length cf0_0),vI sf0_1] 123,bk bf1 #[vI sf1_0_0,vI sf1_1_0,vI sf1_2_0,vI sf1_3_0,.slice Af1_4 lf1_4.length cf1_4,vI sf1_5_0,vI sf1_6_0,vI sf1_7_0,.slice Af1_8 lf1_8.length cf1_8,vI sf1_9_0,vI sf1_10_0,.slice Af1_11 lf1_11.length cf1_11,.slice Af1_12 lf1_12.length cf1_12,.slice Af1_13 lf1_13.length cf1_13] 49,ro Af0_0 cf0_0 29 lf0_0,Own.all LT]) (hZ:∀ w L,St w0 w (Own.all LT::L)→∀ w',Sub w w'→Z w') (hRf1_4:RdZ Z Af1_4 lf1_4) (hLf1_4:lf1_4.length≤cf1_4) (hRf1_8:RdZ Z Af1_8 lf1_8) (hLf1_8:lf1_8.length≤cf1_8) (hRf1_11:RdZ Z Af1_11 lf1_11) (hLf1_11:lf1_11.length≤cf1_11) (hRf1_12:RdZ Z Af1_12 lf1_12) (hLf1_12:lf1_12.length≤cf1_12) (hRf1_13:RdZ Z Af1_13 lf1_13) (hLf1_13:lf1_13.length≤cf1_13) (r:(List SIns)×Int) (h:compile_maker_stmt_2.f K lf0_0 sf0_1 sf1_0_0 sf1_1_0 sf1_2_0 sf1_3_0 lf1_4 sf1_5_0 sf1_6_0 sf1_7_0 lf1_8 sf1_9_0 sf1_10_0 lf1_11 lf1_12 lf1_13=some r):Calls Try.prog 114 #[pP bo0 0,pP bf1 0] wE (compile_maker_stmt_2.Post w0 Z bo0 bf0 lf0_0 Af0_0 cf0_0 sf0_1 bf1 sf1_0_0 sf1_1_0 sf1_2_0 sf1_3_0 lf1_4 Af1_4 cf1_4 sf1_5_0 sf1_6_0 sf1_7_0 lf1_8 Af1_8 cf1_8 sf1_9_0 sf1_10_0 lf1_11 Af1_11 cf1_11 lf1_12 Af1_12 cf1_12 lf1_13 Af1_13 cf1_13 LT r):=(compile_maker_list_all K K).2.2.2.2.2 Z bo0 bf0 lf0_0 Af0_0 cf0_0 sf0_1 bf1 sf1_0_0 sf1_1_0 sf1_2_0 sf1_3_0 lf1_4 Af1_4 cf1_4 sf1_5_0 sf1_6_0 sf1_7_0 lf1_8 Af1_8 cf1_8 sf1_9_0 sf1_10_0 lf1_11 Af1_11 cf1_11 lf1_12 Af1_12 cf1_12 lf1_13 Af1_13 cf1_13 w0 wE LT hS hZ hRf1_4 hLf1_4 hRf1_8 hLf1_8 hRf1_11 hLf1_11 hRf1_12 hLf1_12 hRf1_13 hLf1_13 r h

/-! punctual/compile.Image -/
abbrev compile_Image.Post (w0:World) (r:(List SIns)×SFault) (e:Ending) (w:World):Prop:=∃ (v0:Value),e=.returned (.tuple #[v0,.agg #[vI r.2.Code,vI r.2.At]])∧St w0 w [Own.of v0 29 r.1]
def compile_Image.f (K : Nat) (l0 : List SStmt) : Option ((List SIns) × SFault) :=
 match tongue_Check.f K l0 with
 | none=>none
 | some r1 =>
  if r1.Code=0 then
   match compile_maker_list.f K ([]:List SIns) 0 l0 with
   | none=>none
   | some r2 =>
    if (r2.1.length:Int) > 2000 then
     some (([]:List SIns),(⟨2,0⟩:SFault))
    else
     some (r2.1,(⟨0,0⟩:SFault))
  else
   some (([]:List SIns),r1)
theorem compile_Image_ok (K:Nat) (Z:Zone) (l0:List SStmt) (A0:OA) (c0:Nat) (w0:World) (hZ:∀ w,Sub w0 w→Z w) (hR0:RdZ Z A0 l0) (hL0:l0.length≤c0) (r:(List SIns)×SFault) (h:compile_Image.f K l0=some r) :
  Calls Try.prog 39 #[.slice A0 l0.length c0] w0 (compile_Image.Post w0 r):=by
 have hS:=St.start w0
 unfold compile_Image.f at h
 refine calls_enter (n:=29) (args:=[.slice A0 l0.length c0]) (fn:=Try.f39) rfl rfl rfl rfl ?_
 show WE _ _ _ _ [(0,.slice A0 l0.length c0)] _
 refine ws fun K1 hK1=>wr [(0,0),(1,1)]<|gb0 [0] [(2,.slice none 0 0)]<|gw (some 3) (.cells #[vI 0,vI 0] 40) (fun b=>pP b 0) hS fun b1 w1 hx1 hS1=>?_
 refine gn hK1<|ws fun K2 hK2=>ws fun K3 hK3=>wr [(0,0),(1,1),(2,1),(3,2)] ?_
 rcases hq1:tongue_Check.f K l0 with _ | r1
 ·rw [hq1] at h; cases h
 rw [hq1] at h
 simp only [] at h
 refine gb0 [0] [(6,.slice A0 l0.length c0)]<|ge_call (d:=some 7) (f:=20) (args:=#[.slice A0 l0.length c0]) (by kernel_rfl) (tongue_Check_ok K Z l0 A0 c0 _ (fun w' k=>(hZ w' (hS1.subw.trans k))) hR0 hL0 _ hq1) ?_
 rintro _ w2 ⟨rfl,hS2⟩
 refine ⟨_,rfl,hS2.below,?_⟩
 have hS3:=hS1.call hS2
 refine gw (some 4) (.cells #[vI 0,vI 0] 40) (fun b=>pP b 0) hS3 fun b2 w3 hx2 hS4=>?_
 refine gs b2 0 #[vI 0,vI 0] 40 [vI r1.Code,vI r1.At] hS4 fun w4 hS5=>?_
 have hS6:=hS5.nc #[vI r1.Code,vI r1.At] (by kernel_rfl)
 refine gn hK3<|ws fun K4 hK4=>wr [(0,0),(1,0),(2,0)]<|gb [0,1,2] [(10,.bool (r1.Code != 0)),(9,vI r1.Code),(8,pP b2 0)] [ld b2 0 (vI r1.Code)] ⟨hS6.c 0,trivial⟩<|gn hK4 ?_
 by_cases hc1:r1.Code=0
 ·rw [if_pos hc1] at h
  refine wk 10 (r1.Code != 0) false (bne_eq_false_iff_eq.2 hc1)<|wf<|we_skip fun a hF=>hK2 _ _ ?_ a hF
  refine ws fun K5 hK5=>wr [(0,0),(1,1),(2,0)]<|gb0 [0] [(12,.agg #[.slice none 0 0,vI 0])]<|gw (some 13) (.cells #[.slice none 0 0,vI 0] 123) (fun b=>pP b 0) hS6 fun b3 w5 hx3 hS7=>?_
  refine gb0 [2] [(5,pP b3 0)]<|gn hK5<|ws fun K6 hK6=>wr [(0,0),(1,0),(2,2)]<|gb0 [0,1] [(15,.slice A0 l0.length c0),(14,pP b3 0)] ?_
  rcases hq2:compile_maker_list.f K ([]:List SIns) 0 l0 with _ | r2
  ·rw [hq2] at h; cases h
  rw [hq2] at h
  simp only [] at h
  have hS11:=((hS7.nil (α:=SIns) 29).b 1).packN 2
  refine ge_call2 (m:=0) (d:=some 16) (f:=65) (args:=#[pP b3 0,.slice A0 l0.length c0]) (by kernel_rfl) (compile_maker_list_ok K Z b3 ([]:List SIns) none 0 0 l0 A0 c0 _ _ _ hS11 (fun w L h w' k=>(hZ w' (h.subw.trans k))) hR0 hL0 _ hq2) ?_
  rintro _ w6 ⟨v1,rfl,hS10⟩
  refine ⟨_,rfl,?_⟩
  have hS12:=hS10.unpack [bk b3 #[v1,vI r2.2] 123,Own.of v1 29 r2.1]
  refine gn hK6<|ws fun K7 hK7=>ws fun K8 hK8=>wr [(0,0),(1,0),(2,0),(3,0),(4,0),(5,0)]<|gb [0,1,2,3] [(20,v1),(19,pP b3 0),(18,pP b3 0),(17,pP b3 0)] [ld b3 0 (v1)] ⟨hS12.c 0,trivial⟩ ?_
  obtain ⟨Z1,cz1,rfl⟩:=hS12.open 1 rfl
  refine gb0 [4,5] [(22,.bool (decide ((r2.1.length:Int) > 2000))),(21,vI (r2.1.length:Int))]<|gn hK8 ?_
  by_cases hc2:(r2.1.length:Int) > 2000
  ·rw [if_pos hc2] at h
   refine wk 22 (decide ((r2.1.length:Int) > 2000)) true (decide_eq_true hc2)<|wt<|ws fun K9 hK9=>wr [(0,0),(1,0),(2,2)]<|gb0 [0,1] [(2,.slice none 0 0),(23,.agg #[vI 2,vI 0])] ?_
   have hS13:=hS12.b 3
   refine gs b1 0 #[vI 0,vI 0] 40 [vI 2,vI 0] hS13 fun w7 hS14=>?_
   have hS15:=hS14.nc #[vI 2,vI 0] (by kernel_rfl)
   refine gn hK9 ?_
   have hS16:=hS15.nil (α:=SIns) 29
   have hS17:=hS16.takeN 1
   obtain rfl:=si h
   exact we_ret (pr [.tmp 2,.cell 3 40] [(.slice none 0 0),.agg #[vI 2,vI 0]] [ld b1 0 (vI 2),ld b1 1 (vI 0)] ⟨hS16.c 1,hS16.c 1,trivial⟩ ⟨(.slice none 0 0),rfl,hS17⟩)
  rw [if_neg hc2] at h
  refine wk 22 (decide ((r2.1.length:Int) > 2000)) false (decide_eq_false hc2)<|wf<|we_skip fun a hF=>hK7 _ _ ?_ a hF
  refine ws fun K10 hK10=>wr [(0,0),(1,0),(2,0),(3,0),(4,0),(5,0),(6,2)]<|gb [0,1,2,3,4,5] [(2,(.slice Z1 r2.1.length cz1)),(28,.agg #[vI 0,vI 0]),(27,(.slice Z1 r2.1.length cz1)),(26,pP b3 0),(25,pP b3 0),(24,pP b3 0)] [ld b3 0 ((.slice Z1 r2.1.length cz1))] ⟨hS12.c 0,trivial⟩ ?_
  have hS18:=hS12.b 3
  refine gs b1 0 #[vI 0,vI 0] 40 [vI 0,vI 0] hS18 fun w8 hS19=>?_
  have hS20:=hS19.nc #[vI 0,vI 0] (by kernel_rfl)
  refine gn hK10 ?_
  have hS22:=hS20.p [2] rfl
  obtain rfl:=si h
  exact we_ret (pr [.tmp 2,.cell 3 40] [(.slice Z1 r2.1.length cz1),.agg #[vI 0,vI 0]] [ld b1 0 (vI 0),ld b1 1 (vI 0)] ⟨hS20.c 0,hS20.c 0,trivial⟩ ⟨(.slice Z1 r2.1.length cz1),rfl,hS22⟩)
 rw [if_neg hc1] at h
 refine wk 10 (r1.Code != 0) true (bne_iff_ne.2 hc1)<|wt<|ws fun K11 hK11=>we_draws (by kernel_rfl) [(0,0),(1,0),(2,2)] (by kernel_rfl) ?_
 have hS23:=hS6.drew
 refine gb [0,1] [(2,.slice none 0 0),(11,.agg #[vI r1.Code,vI r1.At])] [ld b2 0 (vI r1.Code),ld b2 1 (vI r1.At)] ⟨hS23.c 0,hS23.c 0,trivial⟩ ?_
 have hS24:=hS23.b 1
 refine gs b1 0 #[vI 0,vI 0] 40 [vI r1.Code,vI r1.At] hS24 fun w9 hS25=>?_
 have hS26:=hS25.nc #[vI r1.Code,vI r1.At] (by kernel_rfl)
 refine gn hK11 ?_
 have hS27:=hS26.nil (α:=SIns) 29
 have hS28:=hS27.takeN 1
 obtain rfl:=si h
 exact we_ret (pr [.tmp 2,.cell 3 40] [(.slice none 0 0),.agg #[vI r1.Code,vI r1.At]] [ld b1 0 (vI r1.Code),ld b1 1 (vI r1.At)] ⟨hS27.c 1,hS27.c 1,trivial⟩ ⟨(.slice none 0 0),rfl,hS28⟩)

/-! punctual/punctuallaw.image -/
abbrev image.Post (w0:World) (r:List SIns) (e:Ending) (w:World):Prop:=∃ (v0:Value),e=.returned (v0)∧St w0 w [Own.of v0 29 r]
def image.f : List SIns :=
 ([(⟨13,0,2⟩:SIns),(⟨2,0,0⟩:SIns),(⟨9,0,0⟩:SIns),(⟨4,0,0⟩:SIns),(⟨3,0,0⟩:SIns),(⟨14,0,1⟩:SIns),(⟨2,0,0⟩:SIns),(⟨1,2,0⟩:SIns),(⟨6,0,0⟩:SIns),(⟨10,1,0⟩:SIns)]:List SIns)
theorem image_ok   (w0:World) (r:List SIns) (h:image.f=r) :
  Calls Try.prog 41 #[] w0 (image.Post w0 r):=by
 have hS:=St.start w0
 unfold image.f at h
 refine calls_enter (n:=12) (args:=[]) (fn:=Try.f41) rfl rfl rfl rfl ?_
 show WE _ _ _ _ [] _
 refine ws fun K1 hK1=>wr [(0,0)]<|gb0 [0] [(0,.slice none 0 0)]<|gn hK1<|ws fun K2 hK2=>wr [(0,0),(1,0),(2,0),(3,0),(4,0),(5,0),(6,0),(7,0),(8,0),(9,0),(10,1),(11,0)]<|gb0 [0,1,2,3,4,5,6,7,8,9] [(10,.agg #[vI 10,vI 1,vI 0]),(9,.agg #[vI 6,vI 0,vI 0]),(8,.agg #[vI 1,vI 2,vI 0]),(7,.agg #[vI 2,vI 0,vI 0]),(6,.agg #[vI 14,vI 0,vI 1]),(5,.agg #[vI 3,vI 0,vI 0]),(4,.agg #[vI 4,vI 0,vI 0]),(3,.agg #[vI 9,vI 0,vI 0]),(2,.agg #[vI 2,vI 0,vI 0]),(1,.agg #[vI 13,vI 0,vI 2])]<|gw (some 11) (.cells #[vI 13,vI 0,vI 2,vI 2,vI 0,vI 0,vI 9,vI 0,vI 0,vI 4,vI 0,vI 0,vI 3,vI 0,vI 0,vI 14,vI 0,vI 1,vI 2,vI 0,vI 0,vI 1,vI 2,vI 0,vI 6,vI 0,vI 0,vI 10,vI 1,vI 0] 29) (fun b=>.slice (some ⟨b,0,none⟩) 10 10) hS fun b1 w1 hx1 hS1=>?_
 refine gb0 [11] [(0,.slice (some ⟨b1,0,none⟩) 10 10)]<|gn hK2 ?_
 have hS2:=hS1.asRow (α:=SIns) (c:=10) ([(⟨13,0,2⟩:SIns),(⟨2,0,0⟩:SIns),(⟨9,0,0⟩:SIns),(⟨4,0,0⟩:SIns),(⟨3,0,0⟩:SIns),(⟨14,0,1⟩:SIns),(⟨2,0,0⟩:SIns),(⟨1,2,0⟩:SIns),(⟨6,0,0⟩:SIns),(⟨10,1,0⟩:SIns)]:List SIns) (Nat.le_refl _) (by decide) rfl rfl
 subst h
 exact we_ret (pr0 [.tmp 0] [(.slice (some ⟨b1,0,none⟩) 10 10)] ⟨(.slice (some ⟨b1,0,none⟩) 10 10),rfl,hS2⟩)

/-! punctual/punctualsame.Same[punctual/api.Ins] -/
abbrev punctualsame_Same_api_Ins.Post (w0:World) (r:Bool) (e:Ending) (w:World):Prop:=e=.returned (.bool r)∧St w0 w []
def punctualsame_Same_api_Ins.r0 (l0 : List SIns) (l1 : List SIns) : Nat → Option (Nat ⊕ (Unit ⊕ Bool))
 | i1 =>
  if (i1:Int)<(l0.length:Int) then
   match l0[i1]? with
   | none=>none
   | some e1 =>
    match l1[i1]? with
    | none=>none
    | some e2 =>
     if (SIns.eqb e1 e2)=true then
      some (.inl (i1+1))
     else
      some (.inr (.inr false))
  else
   some (.inr (.inl ()))
def punctualsame_Same_api_Ins.f (K : Nat) (l0 : List SIns) (l1 : List SIns) : Option Bool :=
 if (l0.length:Int)=(l1.length:Int) then
  match iter (punctualsame_Same_api_Ins.r0 l0 l1) K 0 with
  | none=>none
  | some (.inl _) =>
   some true
  | some (.inr rr1) =>
   some rr1
 else
  some false
abbrev punctualsame_Same_api_Ins.A0 (w0:World) (l0:List SIns) (A0:OA) (c0:Nat) (l1:List SIns) (A1:OA) (c1:Nat):Nat→Act→World→Prop:=fun (s:Nat) a w=>St w0 w []∧Frm 26 a [(0,.slice A0 l0.length c0),(1,.slice A1 l1.length c1),(12,vI (l0.length:Int)),(13,vI (s:Int))]
abbrev punctualsame_Same_api_Ins.B0 (w0:World):(Unit ⊕ Bool)→Exit→Act→World→Prop:=Exits 0 (fun (s:Unit) a w=>St w0 w []∧Frm 26 a []) (Rets Try.prog Try.f40 (punctualsame_Same_api_Ins.Post w0))
theorem punctualsame_Same_api_Ins_r0 (K:Nat) (w0:World) (l0:List SIns) (A0:OA) (c0:Nat) (l1:List SIns) (A1:OA) (c1:Nat) (hR0:RdL w0 A0 l0) (hL0:l0.length≤c0) (hR1:RdL w0 A1 l1) (hL1:l1.length≤c1) (hc1:(l0.length:Int)=(l1.length:Int)) (s:Nat) (o:Nat ⊕ (Unit ⊕ Bool)) (h:punctualsame_Same_api_Ins.r0 l0 l1 s=some o) (a:Act) (w:World) (hA:punctualsame_Same_api_Ins.A0 w0 l0 A0 c0 l1 A1 c1 s a w) (Q:Exit→Act→World→Prop) (hQ:∀ x a w,Outs (punctualsame_Same_api_Ins.A0 w0 l0 A0 c0 l1 A1 c1) (punctualsame_Same_api_Ins.B0 w0) o x a w→Q x a w):(subF Try.f40 [1,1,0,1,0,0]).wp Try.prog Q a w:=by
 obtain ⟨i1,hs⟩:∃ z,z=s:=⟨s,rfl⟩
 subst hs
 obtain ⟨hS,hF⟩:=hA
 replace hS:St w0 w []:=hS
 simp only [punctualsame_Same_api_Ins.r0] at h
 refine (?_:WE Try.prog 26 (subF Try.f40 [1,1,0,1,0,0]) Q [(0,.slice A0 l0.length c0),(1,.slice A1 l1.length c1),(12,vI (l0.length:Int)),(13,vI (i1:Int))] w) a hF
 clear hF a
 refine ws fun K6 hK6=>wr [(0,0)]<|gb0 [0] [(14,.bool (decide ((i1:Int)<(l0.length:Int))))]<|gn hK6<|ws fun K7 hK7=>?_
 by_cases hc2:(i1:Int)<(l0.length:Int)
 ·rw [if_pos hc2] at h
  refine wk 14 (decide ((i1:Int)<(l0.length:Int))) true (decide_eq_true hc2)<|wt<|we_skip fun a hF=>hK7 _ _ ?_ a hF
  refine ws fun K8 hK8=>we_block<|ws fun K9 hK9=>wr [(0,0),(1,0)]<|gb0 [0,1] [(5,vI (i1:Int)),(15,vI (i1:Int))]<|gn hK9<|ws fun K10 hK10=>we_draws (by kernel_rfl) [(0,0),(1,0),(2,0),(3,0),(4,0),(5,0),(6,0),(7,0),(8,0)] (by kernel_rfl) ?_
  have hS1:=hS.drew
  refine gb0 [0,1] [(17,vI (i1:Int)),(16,.slice A0 l0.length c0)] ?_
  rcases hx1:l0[i1]? with _ | e1
  ·rw [hx1] at h; cases h
  rw [hx1] at h
  simp only [] at h
  refine gi 18 0 68 29 3 l0.length c0 (.tmp 16) (.tmp 17) A0 .i64 (i1:Int) i1 ((hS1.rd hR0).eqSome (pos_of_get hx1)) rfl (lt_of_get hx1) ?_
  refine gb [3,4,5] [(21,vI (i1:Int)),(20,.slice A1 l1.length c1),(19,.agg #[vI e1.Op,vI e1.A,vI e1.B])] [.loaded ⟨blkOf A0,offOf A0+i1*3,none⟩ (vI e1.Op),.loaded ⟨blkOf A0,offOf A0+i1*3+1,none⟩ (vI e1.A),.loaded ⟨blkOf A0,offOf A0+i1*3+2,none⟩ (vI e1.B)] ⟨RdL.cell (j:=0) (hS1.rd hR0) hx1 rfl,RdL.cell (j:=1) (hS1.rd hR0) hx1 rfl,RdL.cell (j:=2) (hS1.rd hR0) hx1 rfl,trivial⟩ ?_
  rcases hx2:l1[i1]? with _ | e2
  ·rw [hx2] at h; cases h
  rw [hx2] at h
  simp only [] at h
  refine gi 22 0 68 29 3 l1.length c1 (.tmp 20) (.tmp 21) A1 .i64 (i1:Int) i1 ((hS1.rd hR1).eqSome (pos_of_get hx2)) rfl (lt_of_get hx2) ?_
  refine gb [7] [(23,.agg #[vI e2.Op,vI e2.A,vI e2.B])] [.loaded ⟨blkOf A1,offOf A1+i1*3,none⟩ (vI e2.Op),.loaded ⟨blkOf A1,offOf A1+i1*3+1,none⟩ (vI e2.A),.loaded ⟨blkOf A1,offOf A1+i1*3+2,none⟩ (vI e2.B)] ⟨RdL.cell (j:=0) (hS1.rd hR1) hx2 rfl,RdL.cell (j:=1) (hS1.rd hR1) hx2 rfl,RdL.cell (j:=2) (hS1.rd hR1) hx2 rfl,trivial⟩<|ge_eqs (d:=24) (ty:=4) (op:=.neq) (x:=(.tmp 19)) (y:=(.tmp 23)) (t:=29) (t2:=29) (xs:=#[vI e1.Op,vI e1.A,vI e1.B]) (ys:=#[vI e2.Op,vI e2.A,vI e2.B]) (r:=(SIns.eqb e1 e2)) (v:=!(SIns.eqb e1 e2)) (by kernel_rfl) (by kernel_rfl) (by kernel_rfl) (by kernel_rfl) (by kernel_rfl) rfl ?_
  refine gn hK10 ?_
  by_cases hc3:(SIns.eqb e1 e2)=true
  ·rw [if_pos hc3] at h
   refine wk 24 (!(SIns.eqb e1 e2)) false (congrArg (fun z=>!z) hc3)<|wf<|we_skip fun a hF=>hK8 _ _ ?_ a hF
   refine wr [(0,0),(1,0)]<|ge_addn (d:=25) (ty:=3) (x:=(.tmp 13)) (y:=(.const (vI 1))) (t:=3) (t2:=3) (k:=.i64) (m:=i1) (by kernel_rfl) (by kernel_rfl) (by kernel_rfl) (by have h0:=hR0.small; omega) ?_
   refine gb0 [1] [(13,vI ((i1+1:Nat):Int))] ?_
   obtain rfl:=si h
   exact ge_nil fun a hF=>hQ _ _ _ (Outs.again ⟨hS1,hF.weaken ea⟩)
  rw [if_neg hc3] at h
  refine wk 24 (!(SIns.eqb e1 e2)) true (congrArg (fun z=>!z) (Bool.eq_false_iff.2 hc3))<|wt<|ws fun K11 hK11=>wr [(0,0)]<|gb0 [0] [(4,.bool false)]<|gn hK11 ?_
  obtain rfl:=si h
  exact we_ret fun a hF=>hQ _ _ _ (Outs.out nofun (Exits.on ⟨rfl,(pr0 [.tmp 4] [.bool false] ⟨rfl,hS1⟩) a hF⟩))
 rw [if_neg hc2] at h
 refine wk 14 (decide ((i1:Int)<(l0.length:Int))) false (decide_eq_false hc2)<|wf ?_
 obtain rfl:=si h
 exact we_exit fun a hF=>hQ _ _ _ (Outs.out nofun (Exits.here ⟨hS,hF.weaken trivial⟩))
theorem punctualsame_Same_api_Ins_ok (K:Nat) (l0:List SIns) (A0:OA) (c0:Nat) (l1:List SIns) (A1:OA) (c1:Nat) (w0:World) (hR0:RdL w0 A0 l0) (hL0:l0.length≤c0) (hR1:RdL w0 A1 l1) (hL1:l1.length≤c1) (r:Bool) (h:punctualsame_Same_api_Ins.f K l0 l1=some r) :
  Calls Try.prog 40 #[.slice A0 l0.length c0,.slice A1 l1.length c1] w0 (punctualsame_Same_api_Ins.Post w0 r):=by
 have hS:=St.start w0
 unfold punctualsame_Same_api_Ins.f at h
 refine calls_enter (n:=26) (args:=[.slice A0 l0.length c0,.slice A1 l1.length c1]) (fn:=Try.f40) rfl rfl rfl rfl ?_
 show WE _ _ _ _ [(0,.slice A0 l0.length c0),(1,.slice A1 l1.length c1)] _
 refine ws fun K1 hK1=>wr [(0,0)]<|gb0 [0] [(4,.bool false)]<|gn hK1<|ws fun K2 hK2=>ws fun K3 hK3=>wr [(0,0),(1,0),(2,0),(3,0),(4,0)]<|gb0 [0,1,2,3,4] [(10,.bool ((l0.length:Int) != (l1.length:Int))),(9,vI (l1.length:Int)),(8,.slice A1 l1.length c1),(7,vI (l0.length:Int)),(6,.slice A0 l0.length c0)]<|gn hK3 ?_
 by_cases hc1:(l0.length:Int)=(l1.length:Int)
 ·rw [if_pos hc1] at h
  refine wk 10 ((l0.length:Int) != (l1.length:Int)) false (bne_eq_false_iff_eq.2 hc1)<|wf<|we_skip fun a hF=>hK2 _ _ ?_ a hF
  refine ws fun K4 hK4=>ws fun K5 hK5=>wr [(0,0),(1,0),(2,0)]<|gb0 [0,1,2] [(13,vI 0),(12,vI (l0.length:Int)),(11,.slice A0 l0.length c0)]<|gn hK5<|we_block ?_
  rcases hq1:iter (punctualsame_Same_api_Ins.r0 l0 l1) K 0 with _ | (_ | rr1)
  ·rw [hq1] at h; cases h
  ·rw [hq1] at h
   simp only [] at h
   refine we_iter (A:=punctualsame_Same_api_Ins.A0 w0 l0 A0 c0 l1 A1 c1) (B:=punctualsame_Same_api_Ins.B0 w0) hq1 (fun a hF=>⟨hS,hF.weaken ea⟩) (fun s o hf a w hA Q hQ=>punctualsame_Same_api_Ins_r0 K w0 l0 A0 c0 l1 A1 c1 hR0 hL0 hR1 hL1 hc1 s o hf a w hA Q hQ) ?_
   rintro _ a w1 _ ⟨rfl,hS2,hF⟩
   replace hS2:St w0 w1 []:=hS2
   refine hK4 [] w1 ?_ a hF
   refine ws fun K12 hK12=>wr [(0,0)]<|gb0 [0] [(4,.bool true)]<|gn hK12 ?_
   obtain rfl:=si h
   exact we_ret (pr0 [.tmp 4] [.bool true] ⟨rfl,hS2⟩)
  rw [hq1] at h
  simp only [] at h
  refine we_iter (A:=punctualsame_Same_api_Ins.A0 w0 l0 A0 c0 l1 A1 c1) (B:=punctualsame_Same_api_Ins.B0 w0) hq1 (fun a hF=>⟨hS,hF.weaken ea⟩) (fun s o hf a w hA Q hQ=>punctualsame_Same_api_Ins_r0 K w0 l0 A0 c0 l1 A1 c1 hR0 hL0 hR1 hL1 hc1 s o hf a w hA Q hQ) ?_
  rintro _ a w1 _ ⟨rfl,hb⟩
  obtain rfl:=si h
  exact hb
 rw [if_neg hc1] at h
 refine wk 10 ((l0.length:Int) != (l1.length:Int)) true (bne_iff_ne.2 hc1)<|wt<|ws fun K13 hK13=>wr [(0,0)]<|gb0 [0] [(4,.bool false)]<|gn hK13 ?_
 obtain rfl:=si h
 exact we_ret (pr0 [.tmp 4] [.bool false] ⟨rfl,hS⟩)

/-! punctual/punctualsame.deepExpr -/
abbrev punctualsame_deepExpr.Post (w0:World) (r:Int) (e:Ending) (w:World):Prop:=e=.returned (vI r)∧St w0 w []
abbrev punctualsame_deepExpr.Rec (rec_punctualsame_deepExpr:Int→Int→(List SExpr)→Option Int):Prop:=∀ (Z:Zone) (x0_0:Int) (x0_1:Int) (l0_2:List SExpr) (A0_2:OA) (c0_2:Nat) (w0:World) (hZ:∀ w,Sub w0 w→Z w) (hR0_2:RdZ Z A0_2 l0_2) (hL0_2:l0_2.length≤c0_2) (r:Int) (h:rec_punctualsame_deepExpr x0_0 x0_1 l0_2=some r),Calls Try.prog 77 #[.agg #[vI x0_0,vI x0_1,.slice A0_2 l0_2.length c0_2]] w0 (punctualsame_deepExpr.Post w0 r)
def punctualsame_deepExpr.r0 (l0_2 : List SExpr) (rec_punctualsame_deepExpr : Int → Int → (List SExpr) → Option Int) : Int × Nat → Option ((Int × Nat) ⊕ (Int ⊕ Int))
 | (z1,i1) =>
  if (i1:Int)<(l0_2.length:Int) then
   match l0_2[i1]? with
   | none=>none
   | some e1 =>
    match rec_punctualsame_deepExpr e1.Kind e1.N e1.A with
    | none=>none
    | some r1 =>
     some (.inl (gmax z1 (IntKind.i64.wrap (1+r1)),(i1+1)))
  else
   some (.inr (.inl z1))
def punctualsame_deepExpr.b (K : Nat) (rec_punctualsame_deepExpr : Int → Int → (List SExpr) → Option Int) (x0_0 : Int) (x0_1 : Int) (l0_2 : List SExpr) : Option Int :=
 match iter (punctualsame_deepExpr.r0 l0_2 rec_punctualsame_deepExpr) K (1,0) with
 | none=>none
 | some (.inl z3) =>
  some z3
 | some (.inr rr1) =>
  some rr1
abbrev punctualsame_deepExpr.A0 (w0:World) (l0_2:List SExpr) (A0_2:OA) (c0_2:Nat):(Int×Nat)→Act→World→Prop:=fun (s:Int×Nat) a w=>St w0 w []∧Frm 20 a [(3,vI s.1),(7,.slice A0_2 l0_2.length c0_2),(8,vI (l0_2.length:Int)),(9,vI (s.2:Int))]
abbrev punctualsame_deepExpr.B0 (w0:World):(Int ⊕ Int)→Exit→Act→World→Prop:=Exits 0 (fun (s:Int) a w=>St w0 w []∧Frm 20 a [(3,vI s)]) (Rets Try.prog Try.f77 (punctualsame_deepExpr.Post w0))
theorem punctualsame_deepExpr_r0 (K:Nat) (w0:World) (Z:Zone) (x0_0 x0_1:Int) (l0_2:List SExpr) (A0_2:OA) (c0_2:Nat) (hZ:∀ w,Sub w0 w→Z w) (hR0_2:RdZ Z A0_2 l0_2) (hL0_2:l0_2.length≤c0_2) (rec_punctualsame_deepExpr:Int→Int→(List SExpr)→Option Int) (hr_punctualsame_deepExpr:punctualsame_deepExpr.Rec rec_punctualsame_deepExpr) (b1:Nat) (s:Int×Nat) (o:(Int×Nat) ⊕ (Int ⊕ Int)) (h:punctualsame_deepExpr.r0 l0_2 rec_punctualsame_deepExpr s=some o) (a:Act) (w:World) (hA:punctualsame_deepExpr.A0 w0 l0_2 A0_2 c0_2 s a w) (Q:Exit→Act→World→Prop) (hQ:∀ x a w,Outs (punctualsame_deepExpr.A0 w0 l0_2 A0_2 c0_2) (punctualsame_deepExpr.B0 w0) o x a w→Q x a w):(subF Try.f77 [1,1,0,1,0,0]).wp Try.prog Q a w:=by
 obtain ⟨z1,i1⟩:=s
 obtain ⟨hS,hF⟩:=hA
 replace hS:St w0 w []:=hS
 simp only [punctualsame_deepExpr.r0] at h
 refine (?_:WE Try.prog 20 (subF Try.f77 [1,1,0,1,0,0]) Q [(3,vI z1),(7,.slice A0_2 l0_2.length c0_2),(8,vI (l0_2.length:Int)),(9,vI (i1:Int))] w) a hF
 clear hF a
 refine ws fun K5 hK5=>wr [(0,0)]<|gb0 [0] [(10,.bool (decide ((i1:Int)<(l0_2.length:Int))))]<|gn hK5<|ws fun K6 hK6=>?_
 by_cases hc1:(i1:Int)<(l0_2.length:Int)
 ·rw [if_pos hc1] at h
  refine wk 10 (decide ((i1:Int)<(l0_2.length:Int))) true (decide_eq_true hc1)<|wt<|we_skip fun a hF=>hK6 _ _ ?_ a hF
  refine ws fun K7 hK7=>we_block<|ws fun K8 hK8=>wr [(0,0),(1,0),(2,1),(3,2)] ?_
  rcases hx2:l0_2[i1]? with _ | e1
  ·rw [hx2] at h; cases h
  rw [hx2] at h
  simp only [] at h
  obtain ⟨An1,cn1,hCs1,hLn1,hRn1⟩:=SExpr.getZ hR0_2 hx2
  refine gi 11 0 43 45 3 l0_2.length c0_2 (.tmp 7) (.tmp 9) A0_2 .i64 (i1:Int) i1 (hR0_2.eqSome (hZ _ hS.subw) (pos_of_get hx2)) rfl (lt_of_get hx2) ?_
  refine gb [1] [(12,.agg #[vI e1.Kind,vI e1.N,.slice An1 e1.A.length cn1])] [.loaded ⟨blkOf A0_2,offOf A0_2+i1*3,none⟩ (vI e1.Kind),.loaded ⟨blkOf A0_2,offOf A0_2+i1*3+1,none⟩ (vI e1.N),.loaded ⟨blkOf A0_2,offOf A0_2+i1*3+2,none⟩ (.slice An1 e1.A.length cn1)] ⟨hCs1 _ (hZ _ hS.subw) 0 _ rfl,hCs1 _ (hZ _ hS.subw) 1 _ rfl,hCs1 _ (hZ _ hS.subw) 2 _ rfl,trivial⟩<|gw (some 5) (.cells #[vI 0,vI 0,.slice none 0 0] 45) (fun b=>pP b 0) hS fun b2 w2 hx3 hS3=>?_
  refine gs b2 0 #[vI 0,vI 0,.slice none 0 0] 45 [vI e1.Kind,vI e1.N,.slice An1 e1.A.length cn1] hS3 fun w3 hS4=>?_
  have hS5:=hS4.nc #[vI e1.Kind,vI e1.N,.slice An1 e1.A.length cn1] (by kernel_rfl)
  refine gn hK8<|wr [(0,0),(1,0),(2,1),(3,0),(4,0),(5,0)] ?_
  rcases hq1:rec_punctualsame_deepExpr e1.Kind e1.N e1.A with _ | r1
  ·rw [hq1] at h; cases h
  rw [hq1] at h
  simp only [] at h
  refine gb [0,1] [(14,.agg #[vI e1.Kind,vI e1.N,.slice An1 e1.A.length cn1]),(13,vI z1)] [ld b2 0 (vI e1.Kind),ld b2 1 (vI e1.N),ld b2 2 (.slice An1 e1.A.length cn1)] ⟨hS5.c 0,hS5.c 0,hS5.c 0,trivial⟩<|ge_call (d:=some 15) (f:=77) (args:=#[.agg #[vI e1.Kind,vI e1.N,.slice An1 e1.A.length cn1]]) (by kernel_rfl) (hr_punctualsame_deepExpr Z e1.Kind e1.N e1.A An1 cn1 _ (fun w' k=>(hZ w' (hS5.subw.trans k))) hRn1 hLn1 _ hq1) ?_
  rintro _ w4 ⟨rfl,hS6⟩
  refine ⟨_,rfl,hS6.below,?_⟩
  have hS7:=hS5.call hS6
  refine gb0 [3,4,5] [(3,vI (gmax z1 (IntKind.i64.wrap (1+r1)))),(17,vI (gmax z1 (IntKind.i64.wrap (1+r1)))),(16,vI (IntKind.i64.wrap (1+r1)))]<|gn hK7<|wr [(0,0),(1,0)]<|ge_addn (d:=18) (ty:=3) (x:=(.tmp 9)) (y:=(.const (vI 1))) (t:=3) (t2:=3) (k:=.i64) (m:=i1) (by kernel_rfl) (by kernel_rfl) (by kernel_rfl) (by have h0:=RdZ.small hR0_2 (hZ _ hS7.subw); omega) ?_
  refine gb0 [1] [(9,vI ((i1+1:Nat):Int))] ?_
  have hS8:=hS7.takeN 0
  obtain rfl:=si h
  exact ge_nil fun a hF=>hQ _ _ _ (Outs.again ⟨hS8,hF.weaken ea⟩)
 rw [if_neg hc1] at h
 refine wk 10 (decide ((i1:Int)<(l0_2.length:Int))) false (decide_eq_false hc1)<|wf ?_
 obtain rfl:=si h
 exact we_exit fun a hF=>hQ _ _ _ (Outs.out nofun (Exits.here ⟨hS,hF.weaken ea⟩))
theorem punctualsame_deepExpr_step (K:Nat) (rec_punctualsame_deepExpr:Int→Int→(List SExpr)→Option Int) (hr_punctualsame_deepExpr:punctualsame_deepExpr.Rec rec_punctualsame_deepExpr) (Z:Zone) (x0_0 x0_1:Int) (l0_2:List SExpr) (A0_2:OA) (c0_2:Nat) (w0:World) (hZ:∀ w,Sub w0 w→Z w) (hR0_2:RdZ Z A0_2 l0_2) (hL0_2:l0_2.length≤c0_2) (r:Int) (h:punctualsame_deepExpr.b K rec_punctualsame_deepExpr x0_0 x0_1 l0_2=some r) :
  Calls Try.prog 77 #[.agg #[vI x0_0,vI x0_1,.slice A0_2 l0_2.length c0_2]] w0 (punctualsame_deepExpr.Post w0 r):=by
 have hS:=St.start w0
 unfold punctualsame_deepExpr.b at h
 refine calls_enter (n:=20) (args:=[.agg #[vI x0_0,vI x0_1,.slice A0_2 l0_2.length c0_2]]) (fn:=Try.f77) rfl rfl rfl rfl ?_
 show WE _ _ _ _ [(0,.agg #[vI x0_0,vI x0_1,.slice A0_2 l0_2.length c0_2])] _
 refine ws fun K1 hK1=>wr [(0,1),(1,0)]<|gw (some 1) (.cells #[vI x0_0,vI x0_1,.slice A0_2 l0_2.length c0_2] 45) (fun b=>pP b 0) hS fun b1 w1 hx1 hS1=>?_
 refine gb0 [1] [(2,vI 0)]<|gn hK1<|ws fun K2 hK2=>wr [(0,0)]<|gb0 [0] [(3,vI 1)]<|gn hK2<|ws fun K3 hK3=>ws fun K4 hK4=>wr [(0,0),(1,0),(2,0),(3,0)]<|gb [0,1,2,3] [(9,vI 0),(8,vI (l0_2.length:Int)),(7,.slice A0_2 l0_2.length c0_2),(6,pP b1 2)] [ld b1 2 (.slice A0_2 l0_2.length c0_2)] ⟨hS1.c 0,trivial⟩<|gn hK4<|we_block ?_
 have hS2:=hS1.takeN 0
 rcases hq2:iter (punctualsame_deepExpr.r0 l0_2 rec_punctualsame_deepExpr) K (1,0) with _ | (z3 | rr1)
 ·rw [hq2] at h; cases h
 ·rw [hq2] at h
  simp only [] at h
  refine we_iter (A:=punctualsame_deepExpr.A0 w0 l0_2 A0_2 c0_2) (B:=punctualsame_deepExpr.B0 w0) hq2 (fun a hF=>⟨hS2,hF.weaken ea⟩) (fun s o hf a w hA Q hQ=>punctualsame_deepExpr_r0 K w0 Z x0_0 x0_1 l0_2 A0_2 c0_2 hZ hR0_2 hL0_2 rec_punctualsame_deepExpr hr_punctualsame_deepExpr b1 s o hf a w hA Q hQ) ?_
  rintro _ a w5 _ ⟨rfl,hS9,hF⟩
  replace hS9:St w0 w5 []:=hS9
  refine hK3 [(3,vI z3)] w5 ?_ a hF
  refine ws fun K9 hK9=>wr [(0,0),(1,0)]<|gb0 [0,1] [(2,vI z3),(19,vI z3)]<|gn hK9 ?_
  obtain rfl:=si h
  exact we_ret (pr0 [.tmp 2] [vI z3] ⟨rfl,hS9⟩)
 rw [hq2] at h
 simp only [] at h
 refine we_iter (A:=punctualsame_deepExpr.A0 w0 l0_2 A0_2 c0_2) (B:=punctualsame_deepExpr.B0 w0) hq2 (fun a hF=>⟨hS2,hF.weaken ea⟩) (fun s o hf a w hA Q hQ=>punctualsame_deepExpr_r0 K w0 Z x0_0 x0_1 l0_2 A0_2 c0_2 hZ hR0_2 hL0_2 rec_punctualsame_deepExpr hr_punctualsame_deepExpr b1 s o hf a w hA Q hQ) ?_
 rintro _ a w1 _ ⟨rfl,hb⟩
 obtain rfl:=si h
 exact hb
def punctualsame_deepExpr.recs (K : Nat) : Nat → (Int → Int → (List SExpr) → Option Int)
 | 0=>fun _ _ _=>none
 | n+1=>punctualsame_deepExpr.b K (punctualsame_deepExpr.recs K n)
theorem punctualsame_deepExpr_all (K n:Nat):punctualsame_deepExpr.Rec (punctualsame_deepExpr.recs K n):=by
 induction n with
 | zero=>exact (by unfold punctualsame_deepExpr.Rec; intros; rename_i h; cases (show none=some _ from h))
 | succ n ih=>exact punctualsame_deepExpr_step K _ ih
def punctualsame_deepExpr.f (K : Nat) (x0_0 : Int) (x0_1 : Int) (l0_2 : List SExpr) : Option Int := (punctualsame_deepExpr.recs K K) x0_0 x0_1 l0_2
theorem punctualsame_deepExpr_ok (K:Nat) (Z:Zone) (x0_0 x0_1:Int) (l0_2:List SExpr) (A0_2:OA) (c0_2:Nat) (w0:World) (hZ:∀ w,Sub w0 w→Z w) (hR0_2:RdZ Z A0_2 l0_2) (hL0_2:l0_2.length≤c0_2) (r:Int) (h:punctualsame_deepExpr.f K x0_0 x0_1 l0_2=some r):Calls Try.prog 77 #[.agg #[vI x0_0,vI x0_1,.slice A0_2 l0_2.length c0_2]] w0 (punctualsame_deepExpr.Post w0 r):=(punctualsame_deepExpr_all K K) Z x0_0 x0_1 l0_2 A0_2 c0_2 w0 hZ hR0_2 hL0_2 r h

/-! punctual/punctualsame.Deep -/
abbrev punctualsame_Deep.Post (w0:World) (r:Int) (e:Ending) (w:World):Prop:=e=.returned (vI r)∧St w0 w []
abbrev punctualsame_Deep.Rec (rec_punctualsame_Deep:(List SStmt)→Option Int):Prop:=∀ (Z:Zone) (l0:List SStmt) (A0:OA) (c0:Nat) (w0:World) (hZ:∀ w,Sub w0 w→Z w) (hR0:RdZ Z A0 l0) (hL0:l0.length≤c0) (r:Int) (h:rec_punctualsame_Deep l0=some r),Calls Try.prog 52 #[.slice A0 l0.length c0] w0 (punctualsame_Deep.Post w0 r)
def punctualsame_Deep.r0 (K : Nat) (l0 : List SStmt) (rec_punctualsame_Deep : (List SStmt) → Option Int) : Int × Nat → Option ((Int × Nat) ⊕ (Int ⊕ Int))
 | (z1,i1) =>
  if (i1:Int)<(l0.length:Int) then
   match l0[i1]? with
   | none=>none
   | some e1 =>
    match rec_punctualsame_Deep e1.Body with
    | none=>none
    | some r1 =>
     match rec_punctualsame_Deep e1.Else with
     | none=>none
     | some r2 =>
      match punctualsame_deepExpr.f K e1.E.Kind e1.E.N e1.E.A with
      | none=>none
      | some r3 =>
       match punctualsame_deepExpr.f K e1.If.A.Kind e1.If.A.N e1.If.A.A with
       | none=>none
       | some r4 =>
        match punctualsame_deepExpr.f K e1.If.B.Kind e1.If.B.N e1.If.B.A with
        | none=>none
        | some r5 =>
         some (.inl (gmax (gmax (gmax (gmax z1 (IntKind.i64.wrap (1+(gmax r1 r2)))) r3) r4) r5,(i1+1)))
  else
   some (.inr (.inl z1))
def punctualsame_Deep.b (K : Nat) (rec_punctualsame_Deep : (List SStmt) → Option Int) (l0 : List SStmt) : Option Int :=
 match iter (punctualsame_Deep.r0 K l0 rec_punctualsame_Deep) K (0,0) with
 | none=>none
 | some (.inl z3) =>
  some z3
 | some (.inr rr1) =>
  some rr1
abbrev punctualsame_Deep.A0 (w0:World) (l0:List SStmt) (A0:OA) (c0:Nat):(Int×Nat)→Act→World→Prop:=fun (s:Int×Nat) a w=>St w0 w []∧Frm 35 a [(3,vI s.1),(6,.slice A0 l0.length c0),(7,vI (l0.length:Int)),(8,vI (s.2:Int))]
abbrev punctualsame_Deep.B0 (w0:World):(Int ⊕ Int)→Exit→Act→World→Prop:=Exits 0 (fun (s:Int) a w=>St w0 w []∧Frm 35 a [(3,vI s)]) (Rets Try.prog Try.f52 (punctualsame_Deep.Post w0))
theorem punctualsame_Deep_r0 (K:Nat) (w0:World) (Z:Zone) (l0:List SStmt) (A0:OA) (c0:Nat) (hZ:∀ w,Sub w0 w→Z w) (hR0:RdZ Z A0 l0) (hL0:l0.length≤c0) (rec_punctualsame_Deep:(List SStmt)→Option Int) (hr_punctualsame_Deep:punctualsame_Deep.Rec rec_punctualsame_Deep) (s:Int×Nat) (o:(Int×Nat) ⊕ (Int ⊕ Int)) (h:punctualsame_Deep.r0 K l0 rec_punctualsame_Deep s=some o) (a:Act) (w:World) (hA:punctualsame_Deep.A0 w0 l0 A0 c0 s a w) (Q:Exit→Act→World→Prop) (hQ:∀ x a w,Outs (punctualsame_Deep.A0 w0 l0 A0 c0) (punctualsame_Deep.B0 w0) o x a w→Q x a w):(subF Try.f52 [1,1,0,1,0,0]).wp Try.prog Q a w:=by
 obtain ⟨z1,i1⟩:=s
 obtain ⟨hS,hF⟩:=hA
 replace hS:St w0 w []:=hS
 simp only [punctualsame_Deep.r0] at h
 refine (?_:WE Try.prog 35 (subF Try.f52 [1,1,0,1,0,0]) Q [(3,vI z1),(6,.slice A0 l0.length c0),(7,vI (l0.length:Int)),(8,vI (i1:Int))] w) a hF
 clear hF a
 refine ws fun K5 hK5=>wr [(0,0)]<|gb0 [0] [(9,.bool (decide ((i1:Int)<(l0.length:Int))))]<|gn hK5<|ws fun K6 hK6=>?_
 by_cases hc1:(i1:Int)<(l0.length:Int)
 ·rw [if_pos hc1] at h
  refine wk 9 (decide ((i1:Int)<(l0.length:Int))) true (decide_eq_true hc1)<|wt<|we_skip fun a hF=>hK6 _ _ ?_ a hF
  refine ws fun K7 hK7=>we_block<|ws fun K8 hK8=>wr [(0,0),(1,0),(2,1),(3,2)] ?_
  rcases hx1:l0[i1]? with _ | e1
  ·rw [hx1] at h; cases h
  rw [hx1] at h
  simp only [] at h
  obtain ⟨An1,cn1,An2,cn2,An3,cn3,An4,cn4,An5,cn5,hCs1,hLn1,hRn1,hLn2,hRn2,hLn3,hRn3,hLn4,hRn4,hLn5,hRn5⟩:=SStmt.getZ hR0 hx1
  refine gi 10 0 38 49 14 l0.length c0 (.tmp 6) (.tmp 8) A0 .i64 (i1:Int) i1 (hR0.eqSome (hZ _ hS.subw) (pos_of_get hx1)) rfl (lt_of_get hx1) ?_
  refine gb [1] [(11,.agg #[vI e1.Kind,vI e1.N,vI e1.E.Kind,vI e1.E.N,.slice An1 e1.E.A.length cn1,vI e1.If.Kind,vI e1.If.A.Kind,vI e1.If.A.N,.slice An2 e1.If.A.A.length cn2,vI e1.If.B.Kind,vI e1.If.B.N,.slice An3 e1.If.B.A.length cn3,.slice An4 e1.Body.length cn4,.slice An5 e1.Else.length cn5])] [.loaded ⟨blkOf A0,offOf A0+i1*14,none⟩ (vI e1.Kind),.loaded ⟨blkOf A0,offOf A0+i1*14+1,none⟩ (vI e1.N),.loaded ⟨blkOf A0,offOf A0+i1*14+2,none⟩ (vI e1.E.Kind),.loaded ⟨blkOf A0,offOf A0+i1*14+3,none⟩ (vI e1.E.N),.loaded ⟨blkOf A0,offOf A0+i1*14+4,none⟩ (.slice An1 e1.E.A.length cn1),.loaded ⟨blkOf A0,offOf A0+i1*14+5,none⟩ (vI e1.If.Kind),.loaded ⟨blkOf A0,offOf A0+i1*14+6,none⟩ (vI e1.If.A.Kind),.loaded ⟨blkOf A0,offOf A0+i1*14+7,none⟩ (vI e1.If.A.N),.loaded ⟨blkOf A0,offOf A0+i1*14+8,none⟩ (.slice An2 e1.If.A.A.length cn2),.loaded ⟨blkOf A0,offOf A0+i1*14+9,none⟩ (vI e1.If.B.Kind),.loaded ⟨blkOf A0,offOf A0+i1*14+10,none⟩ (vI e1.If.B.N),.loaded ⟨blkOf A0,offOf A0+i1*14+11,none⟩ (.slice An3 e1.If.B.A.length cn3),.loaded ⟨blkOf A0,offOf A0+i1*14+12,none⟩ (.slice An4 e1.Body.length cn4),.loaded ⟨blkOf A0,offOf A0+i1*14+13,none⟩ (.slice An5 e1.Else.length cn5)] ⟨hCs1 _ (hZ _ hS.subw) 0 _ rfl,hCs1 _ (hZ _ hS.subw) 1 _ rfl,hCs1 _ (hZ _ hS.subw) 2 _ rfl,hCs1 _ (hZ _ hS.subw) 3 _ rfl,hCs1 _ (hZ _ hS.subw) 4 _ rfl,hCs1 _ (hZ _ hS.subw) 5 _ rfl,hCs1 _ (hZ _ hS.subw) 6 _ rfl,hCs1 _ (hZ _ hS.subw) 7 _ rfl,hCs1 _ (hZ _ hS.subw) 8 _ rfl,hCs1 _ (hZ _ hS.subw) 9 _ rfl,hCs1 _ (hZ _ hS.subw) 10 _ rfl,hCs1 _ (hZ _ hS.subw) 11 _ rfl,hCs1 _ (hZ _ hS.subw) 12 _ rfl,hCs1 _ (hZ _ hS.subw) 13 _ rfl,trivial⟩<|gw (some 5) (.cells #[vI 0,vI 0,vI 0,vI 0,.slice none 0 0,vI 0,vI 0,vI 0,.slice none 0 0,vI 0,vI 0,.slice none 0 0,.slice none 0 0,.slice none 0 0] 49) (fun b=>pP b 0) hS fun b1 w1 hx2 hS1=>?_
  refine gs b1 0 #[vI 0,vI 0,vI 0,vI 0,.slice none 0 0,vI 0,vI 0,vI 0,.slice none 0 0,vI 0,vI 0,.slice none 0 0,.slice none 0 0,.slice none 0 0] 49 [vI e1.Kind,vI e1.N,vI e1.E.Kind,vI e1.E.N,.slice An1 e1.E.A.length cn1,vI e1.If.Kind,vI e1.If.A.Kind,vI e1.If.A.N,.slice An2 e1.If.A.A.length cn2,vI e1.If.B.Kind,vI e1.If.B.N,.slice An3 e1.If.B.A.length cn3,.slice An4 e1.Body.length cn4,.slice An5 e1.Else.length cn5] hS1 fun w2 hS2=>?_
  have hS3:=hS2.nc #[vI e1.Kind,vI e1.N,vI e1.E.Kind,vI e1.E.N,.slice An1 e1.E.A.length cn1,vI e1.If.Kind,vI e1.If.A.Kind,vI e1.If.A.N,.slice An2 e1.If.A.A.length cn2,vI e1.If.B.Kind,vI e1.If.B.N,.slice An3 e1.If.B.A.length cn3,.slice An4 e1.Body.length cn4,.slice An5 e1.Else.length cn5] (by kernel_rfl)
  refine gn hK8<|we_draws (by kernel_rfl) [(0,0),(1,0),(2,0),(4,0),(5,0),(9,0),(10,0),(12,0),(13,0),(14,0),(16,0),(17,0),(18,0),(3,1),(6,1),(7,0),(8,0),(11,1),(15,1),(19,1),(20,0),(21,0)] (by kernel_rfl) ?_
  have hS4:=hS3.drew
  rcases hq1:rec_punctualsame_Deep e1.Body with _ | r1
  ·rw [hq1] at h; cases h
  rw [hq1] at h
  simp only [] at h
  refine gb [0,1,2,4,5,9,10,12,13,14,16,17,18] [(30,.agg #[vI e1.If.B.Kind,vI e1.If.B.N,.slice An3 e1.If.B.A.length cn3]),(29,pP b1 9),(28,pP b1 5),(26,.agg #[vI e1.If.A.Kind,vI e1.If.A.N,.slice An2 e1.If.A.A.length cn2]),(25,pP b1 6),(24,pP b1 5),(22,.agg #[vI e1.E.Kind,vI e1.E.N,.slice An1 e1.E.A.length cn1]),(21,pP b1 2),(17,.slice An5 e1.Else.length cn5),(16,pP b1 13),(14,.slice An4 e1.Body.length cn4),(13,pP b1 12),(12,vI z1)] [ld b1 12 (.slice An4 e1.Body.length cn4),ld b1 13 (.slice An5 e1.Else.length cn5),ld b1 2 (vI e1.E.Kind),ld b1 3 (vI e1.E.N),ld b1 4 (.slice An1 e1.E.A.length cn1),ld b1 6 (vI e1.If.A.Kind),ld b1 7 (vI e1.If.A.N),ld b1 8 (.slice An2 e1.If.A.A.length cn2),ld b1 9 (vI e1.If.B.Kind),ld b1 10 (vI e1.If.B.N),ld b1 11 (.slice An3 e1.If.B.A.length cn3)] ⟨hS4.c 0,hS4.c 0,hS4.c 0,hS4.c 0,hS4.c 0,hS4.c 0,hS4.c 0,hS4.c 0,hS4.c 0,hS4.c 0,hS4.c 0,trivial⟩<|ge_call (d:=some 15) (f:=52) (args:=#[.slice An4 e1.Body.length cn4]) (by kernel_rfl) (hr_punctualsame_Deep Z e1.Body An4 cn4 _ (fun w' k=>(hZ w' (hS4.subw.trans k))) hRn4 hLn4 _ hq1) ?_
  rintro _ w3 ⟨rfl,hS5⟩
  refine ⟨_,rfl,hS5.below,?_⟩
  have hS6:=hS4.call hS5
  rcases hq2:rec_punctualsame_Deep e1.Else with _ | r2
  ·rw [hq2] at h; cases h
  rw [hq2] at h
  simp only [] at h
  refine ge_call (d:=some 18) (f:=52) (args:=#[.slice An5 e1.Else.length cn5]) (by kernel_rfl) (hr_punctualsame_Deep Z e1.Else An5 cn5 _ (fun w' k=>(hZ w' (hS6.subw.trans k))) hRn5 hLn5 _ hq2) ?_
  rintro _ w4 ⟨rfl,hS7⟩
  refine ⟨_,rfl,hS7.below,?_⟩
  have hS8:=hS6.call hS7
  rcases hq3:punctualsame_deepExpr.f K e1.E.Kind e1.E.N e1.E.A with _ | r3
  ·rw [hq3] at h; cases h
  rw [hq3] at h
  simp only [] at h
  refine gb0 [7,8] [(20,vI (IntKind.i64.wrap (1+(gmax r1 r2)))),(19,vI (gmax r1 r2))]<|ge_call (d:=some 23) (f:=77) (args:=#[.agg #[vI e1.E.Kind,vI e1.E.N,.slice An1 e1.E.A.length cn1]]) (by kernel_rfl) (punctualsame_deepExpr_ok K Z e1.E.Kind e1.E.N e1.E.A An1 cn1 _ (fun w' k=>(hZ w' (hS8.subw.trans k))) hRn1 hLn1 _ hq3) ?_
  rintro _ w5 ⟨rfl,hS9⟩
  refine ⟨_,rfl,hS9.below,?_⟩
  have hS10:=hS8.call hS9
  rcases hq4:punctualsame_deepExpr.f K e1.If.A.Kind e1.If.A.N e1.If.A.A with _ | r4
  ·rw [hq4] at h; cases h
  rw [hq4] at h
  simp only [] at h
  refine ge_call (d:=some 27) (f:=77) (args:=#[.agg #[vI e1.If.A.Kind,vI e1.If.A.N,.slice An2 e1.If.A.A.length cn2]]) (by kernel_rfl) (punctualsame_deepExpr_ok K Z e1.If.A.Kind e1.If.A.N e1.If.A.A An2 cn2 _ (fun w' k=>(hZ w' (hS10.subw.trans k))) hRn2 hLn2 _ hq4) ?_
  rintro _ w6 ⟨rfl,hS11⟩
  refine ⟨_,rfl,hS11.below,?_⟩
  have hS12:=hS10.call hS11
  rcases hq5:punctualsame_deepExpr.f K e1.If.B.Kind e1.If.B.N e1.If.B.A with _ | r5
  ·rw [hq5] at h; cases h
  rw [hq5] at h
  simp only [] at h
  refine ge_call (d:=some 31) (f:=77) (args:=#[.agg #[vI e1.If.B.Kind,vI e1.If.B.N,.slice An3 e1.If.B.A.length cn3]]) (by kernel_rfl) (punctualsame_deepExpr_ok K Z e1.If.B.Kind e1.If.B.N e1.If.B.A An3 cn3 _ (fun w' k=>(hZ w' (hS12.subw.trans k))) hRn3 hLn3 _ hq5) ?_
  rintro _ w7 ⟨rfl,hS13⟩
  refine ⟨_,rfl,hS13.below,?_⟩
  have hS14:=hS12.call hS13
  refine gb0 [20,21] [(3,vI (gmax (gmax (gmax (gmax z1 (IntKind.i64.wrap (1+(gmax r1 r2)))) r3) r4) r5)),(32,vI (gmax (gmax (gmax (gmax z1 (IntKind.i64.wrap (1+(gmax r1 r2)))) r3) r4) r5))]<|gn hK7<|wr [(0,0),(1,0)]<|ge_addn (d:=33) (ty:=3) (x:=(.tmp 8)) (y:=(.const (vI 1))) (t:=3) (t2:=3) (k:=.i64) (m:=i1) (by kernel_rfl) (by kernel_rfl) (by kernel_rfl) (by have h0:=RdZ.small hR0 (hZ _ hS14.subw); omega) ?_
  refine gb0 [1] [(8,vI ((i1+1:Nat):Int))] ?_
  have hS15:=hS14.takeN 0
  obtain rfl:=si h
  exact ge_nil fun a hF=>hQ _ _ _ (Outs.again ⟨hS15,hF.weaken ea⟩)
 rw [if_neg hc1] at h
 refine wk 9 (decide ((i1:Int)<(l0.length:Int))) false (decide_eq_false hc1)<|wf ?_
 obtain rfl:=si h
 exact we_exit fun a hF=>hQ _ _ _ (Outs.out nofun (Exits.here ⟨hS,hF.weaken ea⟩))
theorem punctualsame_Deep_step (K:Nat) (rec_punctualsame_Deep:(List SStmt)→Option Int) (hr_punctualsame_Deep:punctualsame_Deep.Rec rec_punctualsame_Deep) (Z:Zone) (l0:List SStmt) (A0:OA) (c0:Nat) (w0:World) (hZ:∀ w,Sub w0 w→Z w) (hR0:RdZ Z A0 l0) (hL0:l0.length≤c0) (r:Int) (h:punctualsame_Deep.b K rec_punctualsame_Deep l0=some r) :
  Calls Try.prog 52 #[.slice A0 l0.length c0] w0 (punctualsame_Deep.Post w0 r):=by
 have hS:=St.start w0
 unfold punctualsame_Deep.b at h
 refine calls_enter (n:=35) (args:=[.slice A0 l0.length c0]) (fn:=Try.f52) rfl rfl rfl rfl ?_
 show WE _ _ _ _ [(0,.slice A0 l0.length c0)] _
 refine ws fun K1 hK1=>wr [(0,0)]<|gb0 [0] [(2,vI 0)]<|gn hK1<|ws fun K2 hK2=>wr [(0,0)]<|gb0 [0] [(3,vI 0)]<|gn hK2<|ws fun K3 hK3=>ws fun K4 hK4=>wr [(0,0),(1,0),(2,0)]<|gb0 [0,1,2] [(8,vI 0),(7,vI (l0.length:Int)),(6,.slice A0 l0.length c0)]<|gn hK4<|we_block ?_
 rcases hq6:iter (punctualsame_Deep.r0 K l0 rec_punctualsame_Deep) K (0,0) with _ | (z3 | rr1)
 ·rw [hq6] at h; cases h
 ·rw [hq6] at h
  simp only [] at h
  refine we_iter (A:=punctualsame_Deep.A0 w0 l0 A0 c0) (B:=punctualsame_Deep.B0 w0) hq6 (fun a hF=>⟨hS,hF.weaken ea⟩) (fun s o hf a w hA Q hQ=>punctualsame_Deep_r0 K w0 Z l0 A0 c0 hZ hR0 hL0 rec_punctualsame_Deep hr_punctualsame_Deep s o hf a w hA Q hQ) ?_
  rintro _ a w8 _ ⟨rfl,hS16,hF⟩
  replace hS16:St w0 w8 []:=hS16
  refine hK3 [(3,vI z3)] w8 ?_ a hF
  refine ws fun K9 hK9=>wr [(0,0),(1,0)]<|gb0 [0,1] [(2,vI z3),(34,vI z3)]<|gn hK9 ?_
  obtain rfl:=si h
  exact we_ret (pr0 [.tmp 2] [vI z3] ⟨rfl,hS16⟩)
 rw [hq6] at h
 simp only [] at h
 refine we_iter (A:=punctualsame_Deep.A0 w0 l0 A0 c0) (B:=punctualsame_Deep.B0 w0) hq6 (fun a hF=>⟨hS,hF.weaken ea⟩) (fun s o hf a w hA Q hQ=>punctualsame_Deep_r0 K w0 Z l0 A0 c0 hZ hR0 hL0 rec_punctualsame_Deep hr_punctualsame_Deep s o hf a w hA Q hQ) ?_
 rintro _ a w1 _ ⟨rfl,hb⟩
 obtain rfl:=si h
 exact hb
def punctualsame_Deep.recs (K : Nat) : Nat → ((List SStmt) → Option Int)
 | 0=>fun _=>none
 | n+1=>punctualsame_Deep.b K (punctualsame_Deep.recs K n)
theorem punctualsame_Deep_all (K n:Nat):punctualsame_Deep.Rec (punctualsame_Deep.recs K n):=by
 induction n with
 | zero=>exact (by unfold punctualsame_Deep.Rec; intros; rename_i h; cases (show none=some _ from h))
 | succ n ih=>exact punctualsame_Deep_step K _ ih
def punctualsame_Deep.f (K : Nat) (l0 : List SStmt) : Option Int := (punctualsame_Deep.recs K K) l0
theorem punctualsame_Deep_ok (K:Nat) (Z:Zone) (l0:List SStmt) (A0:OA) (c0:Nat) (w0:World) (hZ:∀ w,Sub w0 w→Z w) (hR0:RdZ Z A0 l0) (hL0:l0.length≤c0) (r:Int) (h:punctualsame_Deep.f K l0=some r):Calls Try.prog 52 #[.slice A0 l0.length c0] w0 (punctualsame_Deep.Post w0 r):=(punctualsame_Deep_all K K) Z l0 A0 c0 w0 hZ hR0 hL0 r h

/-! punctual/punctualref.Size -/
abbrev punctualref_Size.Post (w0:World) (r:Int) (e:Ending) (w:World):Prop:=e=.returned (vI r)∧St w0 w []
abbrev punctualref_Size.Rec (rec_punctualref_Size:(List SStmt)→Option Int):Prop:=∀ (Z:Zone) (l0:List SStmt) (A0:OA) (c0:Nat) (w0:World) (hZ:∀ w,Sub w0 w→Z w) (hR0:RdZ Z A0 l0) (hL0:l0.length≤c0) (r:Int) (h:rec_punctualref_Size l0=some r),Calls Try.prog 27 #[.slice A0 l0.length c0] w0 (punctualref_Size.Post w0 r)
def punctualref_Size.r0 (l0 : List SStmt) (rec_punctualref_Size : (List SStmt) → Option Int) : Int × Nat → Option ((Int × Nat) ⊕ (Int ⊕ Int))
 | (z1,i1) =>
  if (i1:Int)<(l0.length:Int) then
   match l0[i1]? with
   | none=>none
   | some e1 =>
    match rec_punctualref_Size e1.Body with
    | none=>none
    | some r1 =>
     match rec_punctualref_Size e1.Else with
     | none=>none
     | some r2 =>
      some (.inl (IntKind.i64.wrap ((IntKind.i64.wrap ((IntKind.i64.wrap (z1+1))+r1))+r2),(i1+1)))
  else
   some (.inr (.inl z1))
def punctualref_Size.b (K : Nat) (rec_punctualref_Size : (List SStmt) → Option Int) (l0 : List SStmt) : Option Int :=
 match iter (punctualref_Size.r0 l0 rec_punctualref_Size) K (0,0) with
 | none=>none
 | some (.inl z3) =>
  some z3
 | some (.inr rr1) =>
  some rr1
abbrev punctualref_Size.A0 (w0:World) (l0:List SStmt) (A0:OA) (c0:Nat):(Int×Nat)→Act→World→Prop:=fun (s:Int×Nat) a w=>St w0 w []∧Frm 24 a [(3,vI s.1),(6,.slice A0 l0.length c0),(7,vI (l0.length:Int)),(8,vI (s.2:Int))]
abbrev punctualref_Size.B0 (w0:World):(Int ⊕ Int)→Exit→Act→World→Prop:=Exits 0 (fun (s:Int) a w=>St w0 w []∧Frm 24 a [(3,vI s)]) (Rets Try.prog Try.f27 (punctualref_Size.Post w0))
theorem punctualref_Size_r0 (K:Nat) (w0:World) (Z:Zone) (l0:List SStmt) (A0:OA) (c0:Nat) (hZ:∀ w,Sub w0 w→Z w) (hR0:RdZ Z A0 l0) (hL0:l0.length≤c0) (rec_punctualref_Size:(List SStmt)→Option Int) (hr_punctualref_Size:punctualref_Size.Rec rec_punctualref_Size) (s:Int×Nat) (o:(Int×Nat) ⊕ (Int ⊕ Int)) (h:punctualref_Size.r0 l0 rec_punctualref_Size s=some o) (a:Act) (w:World) (hA:punctualref_Size.A0 w0 l0 A0 c0 s a w) (Q:Exit→Act→World→Prop) (hQ:∀ x a w,Outs (punctualref_Size.A0 w0 l0 A0 c0) (punctualref_Size.B0 w0) o x a w→Q x a w):(subF Try.f27 [1,1,0,1,0,0]).wp Try.prog Q a w:=by
 obtain ⟨z1,i1⟩:=s
 obtain ⟨hS,hF⟩:=hA
 replace hS:St w0 w []:=hS
 simp only [punctualref_Size.r0] at h
 refine (?_:WE Try.prog 24 (subF Try.f27 [1,1,0,1,0,0]) Q [(3,vI z1),(6,.slice A0 l0.length c0),(7,vI (l0.length:Int)),(8,vI (i1:Int))] w) a hF
 clear hF a
 refine ws fun K5 hK5=>wr [(0,0)]<|gb0 [0] [(9,.bool (decide ((i1:Int)<(l0.length:Int))))]<|gn hK5<|ws fun K6 hK6=>?_
 by_cases hc1:(i1:Int)<(l0.length:Int)
 ·rw [if_pos hc1] at h
  refine wk 9 (decide ((i1:Int)<(l0.length:Int))) true (decide_eq_true hc1)<|wt<|we_skip fun a hF=>hK6 _ _ ?_ a hF
  refine ws fun K7 hK7=>we_block<|ws fun K8 hK8=>wr [(0,0),(1,0),(2,1),(3,2)] ?_
  rcases hx1:l0[i1]? with _ | e1
  ·rw [hx1] at h; cases h
  rw [hx1] at h
  simp only [] at h
  obtain ⟨An1,cn1,An2,cn2,An3,cn3,An4,cn4,An5,cn5,hCs1,hLn1,hRn1,hLn2,hRn2,hLn3,hRn3,hLn4,hRn4,hLn5,hRn5⟩:=SStmt.getZ hR0 hx1
  refine gi 10 0 38 49 14 l0.length c0 (.tmp 6) (.tmp 8) A0 .i64 (i1:Int) i1 (hR0.eqSome (hZ _ hS.subw) (pos_of_get hx1)) rfl (lt_of_get hx1) ?_
  refine gb [1] [(11,.agg #[vI e1.Kind,vI e1.N,vI e1.E.Kind,vI e1.E.N,.slice An1 e1.E.A.length cn1,vI e1.If.Kind,vI e1.If.A.Kind,vI e1.If.A.N,.slice An2 e1.If.A.A.length cn2,vI e1.If.B.Kind,vI e1.If.B.N,.slice An3 e1.If.B.A.length cn3,.slice An4 e1.Body.length cn4,.slice An5 e1.Else.length cn5])] [.loaded ⟨blkOf A0,offOf A0+i1*14,none⟩ (vI e1.Kind),.loaded ⟨blkOf A0,offOf A0+i1*14+1,none⟩ (vI e1.N),.loaded ⟨blkOf A0,offOf A0+i1*14+2,none⟩ (vI e1.E.Kind),.loaded ⟨blkOf A0,offOf A0+i1*14+3,none⟩ (vI e1.E.N),.loaded ⟨blkOf A0,offOf A0+i1*14+4,none⟩ (.slice An1 e1.E.A.length cn1),.loaded ⟨blkOf A0,offOf A0+i1*14+5,none⟩ (vI e1.If.Kind),.loaded ⟨blkOf A0,offOf A0+i1*14+6,none⟩ (vI e1.If.A.Kind),.loaded ⟨blkOf A0,offOf A0+i1*14+7,none⟩ (vI e1.If.A.N),.loaded ⟨blkOf A0,offOf A0+i1*14+8,none⟩ (.slice An2 e1.If.A.A.length cn2),.loaded ⟨blkOf A0,offOf A0+i1*14+9,none⟩ (vI e1.If.B.Kind),.loaded ⟨blkOf A0,offOf A0+i1*14+10,none⟩ (vI e1.If.B.N),.loaded ⟨blkOf A0,offOf A0+i1*14+11,none⟩ (.slice An3 e1.If.B.A.length cn3),.loaded ⟨blkOf A0,offOf A0+i1*14+12,none⟩ (.slice An4 e1.Body.length cn4),.loaded ⟨blkOf A0,offOf A0+i1*14+13,none⟩ (.slice An5 e1.Else.length cn5)] ⟨hCs1 _ (hZ _ hS.subw) 0 _ rfl,hCs1 _ (hZ _ hS.subw) 1 _ rfl,hCs1 _ (hZ _ hS.subw) 2 _ rfl,hCs1 _ (hZ _ hS.subw) 3 _ rfl,hCs1 _ (hZ _ hS.subw) 4 _ rfl,hCs1 _ (hZ _ hS.subw) 5 _ rfl,hCs1 _ (hZ _ hS.subw) 6 _ rfl,hCs1 _ (hZ _ hS.subw) 7 _ rfl,hCs1 _ (hZ _ hS.subw) 8 _ rfl,hCs1 _ (hZ _ hS.subw) 9 _ rfl,hCs1 _ (hZ _ hS.subw) 10 _ rfl,hCs1 _ (hZ _ hS.subw) 11 _ rfl,hCs1 _ (hZ _ hS.subw) 12 _ rfl,hCs1 _ (hZ _ hS.subw) 13 _ rfl,trivial⟩<|gw (some 5) (.cells #[vI 0,vI 0,vI 0,vI 0,.slice none 0 0,vI 0,vI 0,vI 0,.slice none 0 0,vI 0,vI 0,.slice none 0 0,.slice none 0 0,.slice none 0 0] 49) (fun b=>pP b 0) hS fun b1 w1 hx2 hS1=>?_
  refine gs b1 0 #[vI 0,vI 0,vI 0,vI 0,.slice none 0 0,vI 0,vI 0,vI 0,.slice none 0 0,vI 0,vI 0,.slice none 0 0,.slice none 0 0,.slice none 0 0] 49 [vI e1.Kind,vI e1.N,vI e1.E.Kind,vI e1.E.N,.slice An1 e1.E.A.length cn1,vI e1.If.Kind,vI e1.If.A.Kind,vI e1.If.A.N,.slice An2 e1.If.A.A.length cn2,vI e1.If.B.Kind,vI e1.If.B.N,.slice An3 e1.If.B.A.length cn3,.slice An4 e1.Body.length cn4,.slice An5 e1.Else.length cn5] hS1 fun w2 hS2=>?_
  have hS3:=hS2.nc #[vI e1.Kind,vI e1.N,vI e1.E.Kind,vI e1.E.N,.slice An1 e1.E.A.length cn1,vI e1.If.Kind,vI e1.If.A.Kind,vI e1.If.A.N,.slice An2 e1.If.A.A.length cn2,vI e1.If.B.Kind,vI e1.If.B.N,.slice An3 e1.If.B.A.length cn3,.slice An4 e1.Body.length cn4,.slice An5 e1.Else.length cn5] (by kernel_rfl)
  refine gn hK8<|we_draws (by kernel_rfl) [(0,0),(1,0),(2,0),(3,0),(6,0),(7,0),(4,1),(5,0),(8,1),(9,0),(10,0)] (by kernel_rfl) ?_
  have hS4:=hS3.drew
  rcases hq1:rec_punctualref_Size e1.Body with _ | r1
  ·rw [hq1] at h; cases h
  rw [hq1] at h
  simp only [] at h
  refine gb [0,1,2,3,6,7] [(19,.slice An5 e1.Else.length cn5),(18,pP b1 13),(15,.slice An4 e1.Body.length cn4),(14,pP b1 12),(13,vI (IntKind.i64.wrap (z1+1))),(12,vI z1)] [ld b1 12 (.slice An4 e1.Body.length cn4),ld b1 13 (.slice An5 e1.Else.length cn5)] ⟨hS4.c 0,hS4.c 0,trivial⟩<|ge_call (d:=some 16) (f:=27) (args:=#[.slice An4 e1.Body.length cn4]) (by kernel_rfl) (hr_punctualref_Size Z e1.Body An4 cn4 _ (fun w' k=>(hZ w' (hS4.subw.trans k))) hRn4 hLn4 _ hq1) ?_
  rintro _ w3 ⟨rfl,hS5⟩
  refine ⟨_,rfl,hS5.below,?_⟩
  have hS6:=hS4.call hS5
  rcases hq2:rec_punctualref_Size e1.Else with _ | r2
  ·rw [hq2] at h; cases h
  rw [hq2] at h
  simp only [] at h
  refine gb0 [5] [(17,vI (IntKind.i64.wrap ((IntKind.i64.wrap (z1+1))+r1)))]<|ge_call (d:=some 20) (f:=27) (args:=#[.slice An5 e1.Else.length cn5]) (by kernel_rfl) (hr_punctualref_Size Z e1.Else An5 cn5 _ (fun w' k=>(hZ w' (hS6.subw.trans k))) hRn5 hLn5 _ hq2) ?_
  rintro _ w4 ⟨rfl,hS7⟩
  refine ⟨_,rfl,hS7.below,?_⟩
  have hS8:=hS6.call hS7
  refine gb0 [9,10] [(3,vI (IntKind.i64.wrap ((IntKind.i64.wrap ((IntKind.i64.wrap (z1+1))+r1))+r2))),(21,vI (IntKind.i64.wrap ((IntKind.i64.wrap ((IntKind.i64.wrap (z1+1))+r1))+r2)))]<|gn hK7<|wr [(0,0),(1,0)]<|ge_addn (d:=22) (ty:=3) (x:=(.tmp 8)) (y:=(.const (vI 1))) (t:=3) (t2:=3) (k:=.i64) (m:=i1) (by kernel_rfl) (by kernel_rfl) (by kernel_rfl) (by have h0:=RdZ.small hR0 (hZ _ hS8.subw); omega) ?_
  refine gb0 [1] [(8,vI ((i1+1:Nat):Int))] ?_
  have hS9:=hS8.takeN 0
  obtain rfl:=si h
  exact ge_nil fun a hF=>hQ _ _ _ (Outs.again ⟨hS9,hF.weaken ea⟩)
 rw [if_neg hc1] at h
 refine wk 9 (decide ((i1:Int)<(l0.length:Int))) false (decide_eq_false hc1)<|wf ?_
 obtain rfl:=si h
 exact we_exit fun a hF=>hQ _ _ _ (Outs.out nofun (Exits.here ⟨hS,hF.weaken ea⟩))
theorem punctualref_Size_step (K:Nat) (rec_punctualref_Size:(List SStmt)→Option Int) (hr_punctualref_Size:punctualref_Size.Rec rec_punctualref_Size) (Z:Zone) (l0:List SStmt) (A0:OA) (c0:Nat) (w0:World) (hZ:∀ w,Sub w0 w→Z w) (hR0:RdZ Z A0 l0) (hL0:l0.length≤c0) (r:Int) (h:punctualref_Size.b K rec_punctualref_Size l0=some r) :
  Calls Try.prog 27 #[.slice A0 l0.length c0] w0 (punctualref_Size.Post w0 r):=by
 have hS:=St.start w0
 unfold punctualref_Size.b at h
 refine calls_enter (n:=24) (args:=[.slice A0 l0.length c0]) (fn:=Try.f27) rfl rfl rfl rfl ?_
 show WE _ _ _ _ [(0,.slice A0 l0.length c0)] _
 refine ws fun K1 hK1=>wr [(0,0)]<|gb0 [0] [(2,vI 0)]<|gn hK1<|ws fun K2 hK2=>wr [(0,0)]<|gb0 [0] [(3,vI 0)]<|gn hK2<|ws fun K3 hK3=>ws fun K4 hK4=>wr [(0,0),(1,0),(2,0)]<|gb0 [0,1,2] [(8,vI 0),(7,vI (l0.length:Int)),(6,.slice A0 l0.length c0)]<|gn hK4<|we_block ?_
 rcases hq3:iter (punctualref_Size.r0 l0 rec_punctualref_Size) K (0,0) with _ | (z3 | rr1)
 ·rw [hq3] at h; cases h
 ·rw [hq3] at h
  simp only [] at h
  refine we_iter (A:=punctualref_Size.A0 w0 l0 A0 c0) (B:=punctualref_Size.B0 w0) hq3 (fun a hF=>⟨hS,hF.weaken ea⟩) (fun s o hf a w hA Q hQ=>punctualref_Size_r0 K w0 Z l0 A0 c0 hZ hR0 hL0 rec_punctualref_Size hr_punctualref_Size s o hf a w hA Q hQ) ?_
  rintro _ a w5 _ ⟨rfl,hS10,hF⟩
  replace hS10:St w0 w5 []:=hS10
  refine hK3 [(3,vI z3)] w5 ?_ a hF
  refine ws fun K9 hK9=>wr [(0,0),(1,0)]<|gb0 [0,1] [(2,vI z3),(23,vI z3)]<|gn hK9 ?_
  obtain rfl:=si h
  exact we_ret (pr0 [.tmp 2] [vI z3] ⟨rfl,hS10⟩)
 rw [hq3] at h
 simp only [] at h
 refine we_iter (A:=punctualref_Size.A0 w0 l0 A0 c0) (B:=punctualref_Size.B0 w0) hq3 (fun a hF=>⟨hS,hF.weaken ea⟩) (fun s o hf a w hA Q hQ=>punctualref_Size_r0 K w0 Z l0 A0 c0 hZ hR0 hL0 rec_punctualref_Size hr_punctualref_Size s o hf a w hA Q hQ) ?_
 rintro _ a w1 _ ⟨rfl,hb⟩
 obtain rfl:=si h
 exact hb
def punctualref_Size.recs (K : Nat) : Nat → ((List SStmt) → Option Int)
 | 0=>fun _=>none
 | n+1=>punctualref_Size.b K (punctualref_Size.recs K n)
theorem punctualref_Size_all (K n:Nat):punctualref_Size.Rec (punctualref_Size.recs K n):=by
 induction n with
 | zero=>exact (by unfold punctualref_Size.Rec; intros; rename_i h; cases (show none=some _ from h))
 | succ n ih=>exact punctualref_Size_step K _ ih
def punctualref_Size.f (K : Nat) (l0 : List SStmt) : Option Int := (punctualref_Size.recs K K) l0
theorem punctualref_Size_ok (K:Nat) (Z:Zone) (l0:List SStmt) (A0:OA) (c0:Nat) (w0:World) (hZ:∀ w,Sub w0 w→Z w) (hR0:RdZ Z A0 l0) (hL0:l0.length≤c0) (r:Int) (h:punctualref_Size.f K l0=some r):Calls Try.prog 27 #[.slice A0 l0.length c0] w0 (punctualref_Size.Post w0 r):=(punctualref_Size_all K K) Z l0 A0 c0 w0 hZ hR0 hL0 r h

/-! punctual/punctuallaw.claims -/
abbrev claims.Post (w0:World) (r:Bool) (e:Ending) (w:World):Prop:=e=.returned (.bool r)∧St w0 w []
def claims.f (K : Nat) (l0 : List SStmt) : Option Bool :=
 match punctualsame_Deep.f K l0 with
 | none=>none
 | some r1 =>
  if r1≤300 then
   match punctualref_Size.f K l0 with
   | none=>none
   | some r2 =>
    some (decide (r2≤2000))
  else
   some false
theorem claims_ok (K:Nat) (Z:Zone) (l0:List SStmt) (A0:OA) (c0:Nat) (w0:World) (hZ:∀ w,Sub w0 w→Z w) (hR0:RdZ Z A0 l0) (hL0:l0.length≤c0) (r:Bool) (h:claims.f K l0=some r) :
  Calls Try.prog 24 #[.slice A0 l0.length c0] w0 (claims.Post w0 r):=by
 have hS:=St.start w0
 unfold claims.f at h
 refine calls_enter (n:=11) (args:=[.slice A0 l0.length c0]) (fn:=Try.f24) rfl rfl rfl rfl ?_
 show WE _ _ _ _ [(0,.slice A0 l0.length c0)] _
 refine ws fun K1 hK1=>wr [(0,0)]<|gb0 [0] [(2,.bool false)]<|gn hK1<|ws fun K2 hK2=>wr [(0,0),(1,1),(2,0),(3,0),(4,0),(5,1),(6,0),(7,0),(8,0)] ?_
 rcases hq1:punctualsame_Deep.f K l0 with _ | r1
 ·rw [hq1] at h; cases h
 rw [hq1] at h
 simp only [] at h
 refine gb0 [0] [(3,.slice A0 l0.length c0)]<|ge_call (d:=some 4) (f:=52) (args:=#[.slice A0 l0.length c0]) (by kernel_rfl) (punctualsame_Deep_ok K Z l0 A0 c0 _ (fun w' k=>(hZ w' (hS.subw.trans k))) hR0 hL0 _ hq1) ?_
 rintro _ w1 ⟨rfl,hS1⟩
 refine ⟨_,rfl,hS1.below,?_⟩
 have hS2:=hS.call hS1
 refine gb0 [2,3] [(6,.bool (decide (r1≤300))),(5,.bool (decide (r1≤300)))] ?_
 by_cases hc1:r1≤300
 ·rw [if_pos hc1] at h
  refine gk 6 (decide (r1≤300)) true (decide_eq_true hc1) ?_
  rcases hq2:punctualref_Size.f K l0 with _ | r2
  ·rw [hq2] at h; cases h
  rw [hq2] at h
  simp only [] at h
  refine gb0 [4] [(7,.slice A0 l0.length c0)]<|ge_call (d:=some 8) (f:=27) (args:=#[.slice A0 l0.length c0]) (by kernel_rfl) (punctualref_Size_ok K Z l0 A0 c0 _ (fun w' k=>(hZ w' (hS2.subw.trans k))) hR0 hL0 _ hq2) ?_
  rintro _ w2 ⟨rfl,hS3⟩
  refine ⟨_,rfl,hS3.below,?_⟩
  have hS4:=hS2.call hS3
  refine gb0 [6,7,8] [(2,.bool (decide (r2≤2000))),(10,.bool (decide (r2≤2000))),(9,.bool (decide (r2≤2000)))]<|gn hK2 ?_
  obtain rfl:=si h
  exact we_ret (pr0 [.tmp 2] [.bool (decide (r2≤2000))] ⟨rfl,hS4⟩)
 rw [if_neg hc1] at h
 refine gk 6 (decide (r1≤300)) false (decide_eq_false hc1)<|gb0 [4] [(7,undef)]<|ge_off rfl rfl rfl (by kernel_rfl) ?_
 refine gb0 [6,7,8] [(2,.bool false),(10,.bool false),(9,undef)]<|gn hK2 ?_
 obtain rfl:=si h
 exact we_ret (pr0 [.tmp 2] [.bool false] ⟨rfl,hS2⟩)

/-! punctual/punctualref.F -/
abbrev punctualref_F.Post (w0:World) (r:SFault) (e:Ending) (w:World):Prop:=e=.returned (.agg #[vI r.Code,vI r.At])∧St w0 w []
def punctualref_F.f (x0 : Int) (x1 : Int) : SFault :=
 (⟨x0,x1⟩:SFault)
theorem punctualref_F_ok (x0 x1:Int) (w0:World) (r:SFault) (h:punctualref_F.f x0 x1=r) :
  Calls Try.prog 22 #[vI x0,vI x1] w0 (punctualref_F.Post w0 r):=by
 have hS:=St.start w0
 unfold punctualref_F.f at h
 refine calls_enter (n:=8) (args:=[vI x0,vI x1]) (fn:=Try.f22) rfl rfl rfl rfl ?_
 show WE _ _ _ _ [(0,vI x0),(1,vI x1)] _
 refine ws fun K1 hK1=>wr [(0,1)]<|gw (some 4) (.cells #[vI 0,vI 0] 40) (fun b=>pP b 0) hS fun b1 w1 hx1 hS1=>?_
 refine gn hK1<|ws fun K2 hK2=>wr [(0,0),(1,0),(2,0),(3,2)]<|gb0 [0,1,2] [(7,.agg #[vI x0,vI x1]),(6,vI x1),(5,vI x0)]<|gs b1 0 #[vI 0,vI 0] 40 [vI x0,vI x1] hS1 fun w2 hS2=>?_
 have hS3:=hS2.nc #[vI x0,vI x1] (by kernel_rfl)
 refine gn hK2 ?_
 have hS4:=hS3.takeN 0
 subst h
 exact we_ret (pr [.cell 4 40] [.agg #[vI x0,vI x1]] [ld b1 0 (vI x0),ld b1 1 (vI x1)] ⟨hS3.c 0,hS3.c 0,trivial⟩ ⟨rfl,hS4⟩)

structure Sstatement where
 s:SStmt
 deep:Int
 locks:List Int

structure Hstatement where
 f0:Int
 f1:Int
 f2:Int
 f3:Int
 f4:Hdr
 f5:Int
 f6:Int
 f7:Int
 f8:Hdr
 f9:Int
 f10:Int
 f11:Hdr
 f12:Hdr
 f13:Hdr
 f14:Int
 f15:Hdr
instance : Flat Hstatement := ⟨16, fun x => [vI x.f0, vI x.f1, vI x.f2, vI x.f3, .slice x.f4.A x.f4.n x.f4.c, vI x.f5, vI x.f6, vI x.f7, .slice x.f8.A x.f8.n x.f8.c, vI x.f9, vI x.f10, .slice x.f11.A x.f11.n x.f11.c, .slice x.f12.A x.f12.n x.f12.c, .slice x.f13.A x.f13.n x.f13.c, vI x.f14, .slice x.f15.A x.f15.n x.f15.c], fun _ => rfl, fun _ => rfl, by decide⟩
def Rstatement (Z : Zone) (h : Hstatement) (x : Sstatement) : Prop := h.f0 = x.s.Kind ∧ h.f1 = x.s.N ∧ h.f2 = x.s.E.Kind ∧ h.f3 = x.s.E.N ∧ (h.f4.n = x.s.E.A.length ∧ x.s.E.A.length ≤ h.f4.c ∧ RdZ Z h.f4.A x.s.E.A) ∧ h.f5 = x.s.If.Kind ∧ h.f6 = x.s.If.A.Kind ∧ h.f7 = x.s.If.A.N ∧ (h.f8.n = x.s.If.A.A.length ∧ x.s.If.A.A.length ≤ h.f8.c ∧ RdZ Z h.f8.A x.s.If.A.A) ∧ h.f9 = x.s.If.B.Kind ∧ h.f10 = x.s.If.B.N ∧ (h.f11.n = x.s.If.B.A.length ∧ x.s.If.B.A.length ≤ h.f11.c ∧ RdZ Z h.f11.A x.s.If.B.A) ∧ (h.f12.n = x.s.Body.length ∧ x.s.Body.length ≤ h.f12.c ∧ RdZ Z h.f12.A x.s.Body) ∧ (h.f13.n = x.s.Else.length ∧ x.s.Else.length ≤ h.f13.c ∧ RdZ Z h.f13.A x.s.Else) ∧ h.f14 = x.deep ∧ (h.f15.n = x.locks.length ∧ x.locks.length ≤ h.f15.c ∧ RdF Z h.f15.A x.locks) ∧ True
theorem Rstatement.up  {Z Z':Zone} {h:Hstatement} {x:Sstatement} (k:ZLe Z Z') (r:Rstatement Z h x):Rstatement Z' h x:=by
 obtain ⟨e0,e1,e2,e3,⟨q4,k4,r4⟩,e5,e6,e7,⟨q8,k8,r8⟩,e9,e10,⟨q11,k11,r11⟩,⟨q12,k12,r12⟩,⟨q13,k13,r13⟩,e14,⟨q15,k15,r15⟩,_⟩:=r
 exact ⟨e0,e1,e2,e3,⟨q4,k4,r4.up k⟩,e5,e6,e7,⟨q8,k8,r8.up k⟩,e9,e10,⟨q11,k11,r11.up k⟩,⟨q12,k12,r12.up k⟩,⟨q13,k13,r13.up k⟩,e14,⟨q15,k15,r15.up k⟩,trivial⟩
instance : DRep Sstatement := ⟨Hstatement, inferInstance, Rstatement, fun k r => Rstatement.up k r⟩
theorem Sstatement.getZ  {Z:Zone} {A:Option Addr} {l:List Sstatement} (h:RdZ Z A l) {k:Nat} {x:Sstatement} (hx:l[k]?=some x):∃ (A4:OA) (c4:Nat) (A8:OA) (c8:Nat) (A11:OA) (c11:Nat) (A12:OA) (c12:Nat) (A13:OA) (c13:Nat) (A15:OA) (c15:Nat),CellsAt Z A (k*16) [vI x.s.Kind,vI x.s.N,vI x.s.E.Kind,vI x.s.E.N,.slice A4 x.s.E.A.length c4,vI x.s.If.Kind,vI x.s.If.A.Kind,vI x.s.If.A.N,.slice A8 x.s.If.A.A.length c8,vI x.s.If.B.Kind,vI x.s.If.B.N,.slice A11 x.s.If.B.A.length c11,.slice A12 x.s.Body.length c12,.slice A13 x.s.Else.length c13,vI x.deep,.slice A15 x.locks.length c15]∧x.s.E.A.length≤c4∧RdZ Z A4 x.s.E.A∧x.s.If.A.A.length≤c8∧RdZ Z A8 x.s.If.A.A∧x.s.If.B.A.length≤c11∧RdZ Z A11 x.s.If.B.A∧x.s.Body.length≤c12∧RdZ Z A12 x.s.Body∧x.s.Else.length≤c13∧RdZ Z A13 x.s.Else∧x.locks.length≤c15∧RdF Z A15 x.locks:=by
 obtain ⟨(y:Hstatement),r,hc⟩:=h.get hx
 have r':Rstatement Z y x:=r
 have hc':CellsAt Z A (k*16) [vI y.f0,vI y.f1,vI y.f2,vI y.f3,.slice y.f4.A y.f4.n y.f4.c,vI y.f5,vI y.f6,vI y.f7,.slice y.f8.A y.f8.n y.f8.c,vI y.f9,vI y.f10,.slice y.f11.A y.f11.n y.f11.c,.slice y.f12.A y.f12.n y.f12.c,.slice y.f13.A y.f13.n y.f13.c,vI y.f14,.slice y.f15.A y.f15.n y.f15.c]:=hc
 obtain ⟨e0,e1,e2,e3,⟨q4,k4,r4⟩,e5,e6,e7,⟨q8,k8,r8⟩,e9,e10,⟨q11,k11,r11⟩,⟨q12,k12,r12⟩,⟨q13,k13,r13⟩,e14,⟨q15,k15,r15⟩,_⟩:=r'
 rw [e0,e1,e2,e3,q4,e5,e6,e7,q8,e9,e10,q11,q12,q13,e14,q15] at hc'
 exact ⟨y.f4.A,y.f4.c,y.f8.A,y.f8.c,y.f11.A,y.f11.c,y.f12.A,y.f12.c,y.f13.A,y.f13.c,y.f15.A,y.f15.c,hc',k4,r4,k8,r8,k11,r11,k12,r12,k13,r13,k15,r15⟩
instance : Ok Sstatement := ⟨fun x => Ok.ok x.s.Kind ∧ Ok.ok x.s.N ∧ Ok.ok x.s.E.Kind ∧ Ok.ok x.s.E.N ∧ (x.s.E.A.length * 40 ≤ 140737488351232 ∧ ∀ z ∈ x.s.E.A, Ok.ok z) ∧ Ok.ok x.s.If.Kind ∧ Ok.ok x.s.If.A.Kind ∧ Ok.ok x.s.If.A.N ∧ (x.s.If.A.A.length * 40 ≤ 140737488351232 ∧ ∀ z ∈ x.s.If.A.A, Ok.ok z) ∧ Ok.ok x.s.If.B.Kind ∧ Ok.ok x.s.If.B.N ∧ (x.s.If.B.A.length * 40 ≤ 140737488351232 ∧ ∀ z ∈ x.s.If.B.A, Ok.ok z) ∧ (x.s.Body.length * 192 ≤ 140737488351232 ∧ ∀ z ∈ x.s.Body, Ok.ok z) ∧ (x.s.Else.length * 192 ≤ 140737488351232 ∧ ∀ z ∈ x.s.Else, Ok.ok z) ∧ Ok.ok x.deep ∧ (x.locks.length * 8 ≤ 140737488351232 ∧ ∀ z ∈ x.locks, Ok.ok z) ∧ True⟩
theorem Sstatement.mkZ  {Z:Zone} (x:Sstatement) {A4:Option Addr} {c4:Nat} {A8:Option Addr} {c8:Nat} {A11:Option Addr} {c11:Nat} {A12:Option Addr} {c12:Nat} {A13:Option Addr} {c13:Nat} {A15:Option Addr} {c15:Nat} (k4:x.s.E.A.length≤c4) (r4:RdZ Z A4 x.s.E.A) (k8:x.s.If.A.A.length≤c8) (r8:RdZ Z A8 x.s.If.A.A) (k11:x.s.If.B.A.length≤c11) (r11:RdZ Z A11 x.s.If.B.A) (k12:x.s.Body.length≤c12) (r12:RdZ Z A12 x.s.Body) (k13:x.s.Else.length≤c13) (r13:RdZ Z A13 x.s.Else) (k15:x.locks.length≤c15) (r15:RdF Z A15 x.locks):DRep.rel (α:=Sstatement) Z (⟨x.s.Kind,x.s.N,x.s.E.Kind,x.s.E.N,⟨A4,x.s.E.A.length,c4⟩,x.s.If.Kind,x.s.If.A.Kind,x.s.If.A.N,⟨A8,x.s.If.A.A.length,c8⟩,x.s.If.B.Kind,x.s.If.B.N,⟨A11,x.s.If.B.A.length,c11⟩,⟨A12,x.s.Body.length,c12⟩,⟨A13,x.s.Else.length,c13⟩,x.deep,⟨A15,x.locks.length,c15⟩⟩:Hstatement) x:=by
 exact ⟨rfl,rfl,rfl,rfl,⟨rfl,k4,r4⟩,rfl,rfl,rfl,⟨rfl,k8,r8⟩,rfl,rfl,⟨rfl,k11,r11⟩,⟨rfl,k12,r12⟩,⟨rfl,k13,r13⟩,rfl,⟨rfl,k15,r15⟩,trivial⟩
mutual
def Sstatement.blk : Sstatement → Nat
 | ⟨⟨_,_,⟨_,_,a4⟩,⟨_,⟨_,_,a8⟩,⟨_,_,a11⟩⟩,a12,a13⟩,_,a15⟩=>1+SExpr.blkL a4+SExpr.blkL a8+SExpr.blkL a11+SStmt.blkL a12+SStmt.blkL a13+a15.length
def Sstatement.blkL : List Sstatement → Nat
 | []=>0
 | x::l=>x.blk+Sstatement.blkL l
end
theorem Sstatement.blkL_sum:∀ l:List Sstatement,Sstatement.blkL l=(l.map Sstatement.blk).sum
 | []=>by simp [Sstatement.blkL]
 | x::l=>by simp [Sstatement.blkL,Sstatement.blkL_sum l]

/-! punctual/punctualref.Flat -/
abbrev punctualref_Flat.Post (w0:World) (Z:Zone) (r:List Sstatement) (e:Ending) (w:World):Prop:=∃ (v1:Value) (hds1:List Hstatement) (ft:List Nat) (wf:World),e=.returned (v1)∧DRows (Zand Z wf) hds1 r∧St w0 w [Own.of v1 99 hds1,Own.frz ft wf]
abbrev punctualref_Flat.Rec (rec_punctualref_Flat:(List SStmt)→Int→(List Int)→Int→Option (List Sstatement)):Prop:=∀ (Z:Zone) (l0:List SStmt) (A0:OA) (c0:Nat) (x1:Int) (l2:List Int) (A2:OA) (c2:Nat) (x3:Int) (w0:World) (hZ:∀ w,Sub w0 w→Z w) (hR0:RdZ Z A0 l0) (hL0:l0.length≤c0) (hR2:RdF Z A2 l2) (hL2:l2.length≤c2) (r:List Sstatement) (h:rec_punctualref_Flat l0 x1 l2 x3=some r),Calls Try.prog 54 #[.slice A0 l0.length c0,vI x1,.slice A2 l2.length c2,vI x3] w0 (punctualref_Flat.Post w0 Z r)
def punctualref_Flat.p1 (l2 : List Int) (e1 : SStmt) : Option ((List Int) ⊕ (List Sstatement)) :=
  if e1.Kind=6 then
   if 0+l2.length≤17592186044416 then
    if l2.length<17592186044416 then
     some (.inl (l2++[e1.N]))
    else
     none
   else
    none
  else
   some (.inl l2)
def punctualref_Flat.r0 (l0 : List SStmt) (x1 : Int) (l2 : List Int) (x3 : Int) (rec_punctualref_Flat : (List SStmt) → Int → (List Int) → Int → Option (List Sstatement)) : (List Sstatement) × Nat → Option (((List Sstatement) × Nat) ⊕ ((List Sstatement) ⊕ (List Sstatement)))
 | (m1,i1) =>
  if (i1:Int)<(l0.length:Int) then
   match l0[i1]? with
   | none=>none
   | some e1 =>
    if (m1.length:Int) > x3 then
     some (.inr (.inr m1))
    else
     if m1.length<628292358729 then
      match punctualref_Flat.p1 l2 e1 with
      | none=>none
      | some (.inl m4) =>
       match rec_punctualref_Flat e1.Body (IntKind.i64.wrap (x1+1)) m4 x3 with
       | none=>none
       | some r1 =>
        if (m1++[(⟨e1,x1,l2⟩:Sstatement)]).length+r1.length≤628292358729 then
         match rec_punctualref_Flat e1.Else (IntKind.i64.wrap (x1+1)) m4 x3 with
         | none=>none
         | some r2 =>
          if ((m1++[(⟨e1,x1,l2⟩:Sstatement)])++r1).length+r2.length≤628292358729 then
           some (.inl ((((m1++[(⟨e1,x1,l2⟩:Sstatement)])++r1)++r2),(i1+1)))
          else
           none
        else
         none
      | some (.inr rr1) =>
       some (.inr (.inr rr1))
     else
      none
  else
   some (.inr (.inl m1))
def punctualref_Flat.b (K : Nat) (rec_punctualref_Flat : (List SStmt) → Int → (List Int) → Int → Option (List Sstatement)) (l0 : List SStmt) (x1 : Int) (l2 : List Int) (x3 : Int) : Option (List Sstatement) :=
 match iter (punctualref_Flat.r0 l0 x1 l2 x3 rec_punctualref_Flat) K (([]:List Sstatement),0) with
 | none=>none
 | some (.inl m5) =>
  some m5
 | some (.inr rr2) =>
  some rr2
abbrev punctualref_Flat.A1 (w0:World) (Z:Zone) (l0:List SStmt) (A0:OA) (c0:Nat) (x1:Int) (l2:List Int) (A2:OA) (c2:Nat) (x3:Int) (wf2:World) (hds1:List Hstatement) (i1:Nat) (e1:SStmt) (An1:OA) (cn1:Nat) (An2:OA) (cn2:Nat) (An3:OA) (cn3:Nat) (An4:OA) (cn4:Nat) (An5:OA) (cn5 b1:Nat) (v3:Value):(List Int)→Act→World→Prop:=fun (s:(List Int)) a w=>∃ (ft4:List Nat) (wf4:World) (Z2:OA) (cz2:Nat),Sub wf2 wf4∧RdF (Zand Z wf4) Z2 s∧s.length≤cz2∧St w0 w [bk b1 #[vI e1.Kind,vI e1.N,vI e1.E.Kind,vI e1.E.N,.slice An1 e1.E.A.length cn1,vI e1.If.Kind,vI e1.If.A.Kind,vI e1.If.A.N,.slice An2 e1.If.A.A.length cn2,vI e1.If.B.Kind,vI e1.If.B.N,.slice An3 e1.If.B.A.length cn3,.slice An4 e1.Body.length cn4,.slice An5 e1.Else.length cn5] 49,Own.of v3 99 (hds1++[(⟨e1.Kind,e1.N,e1.E.Kind,e1.E.N,⟨An1,e1.E.A.length,cn1⟩,e1.If.Kind,e1.If.A.Kind,e1.If.A.N,⟨An2,e1.If.A.A.length,cn2⟩,e1.If.B.Kind,e1.If.B.N,⟨An3,e1.If.B.A.length,cn3⟩,⟨An4,e1.Body.length,cn4⟩,⟨An5,e1.Else.length,cn5⟩,x1,⟨A2,l2.length,c2⟩⟩:Hstatement)]),Own.frz ft4 wf4]∧Frm 62 a [(1,vI x1),(2,.slice A2 l2.length c2),(3,vI x3),(9,v3),(11,pP b1 0),(12,.slice Z2 s.length cz2),(13,.slice A0 l0.length c0),(14,vI (l0.length:Int)),(15,vI (i1:Int))]
abbrev punctualref_Flat.B1 (w0:World) (Z:Zone):(List Sstatement)→Exit→Act→World→Prop:=Rets Try.prog Try.f54 (punctualref_Flat.Post w0 Z)
theorem punctualref_Flat_p1 (K:Nat) (w0:World) (Z:Zone) (l0:List SStmt) (A0:OA) (c0:Nat) (x1:Int) (l2:List Int) (A2:OA) (c2:Nat) (x3:Int) (hZ:∀ w,Sub w0 w→Z w) (hR0:RdZ Z A0 l0) (hL0:l0.length≤c0) (hR2:RdF Z A2 l2) (hL2:l2.length≤c2) (rec_punctualref_Flat:(List SStmt)→Int→(List Int)→Int→Option (List Sstatement)) (hr_punctualref_Flat:punctualref_Flat.Rec rec_punctualref_Flat) (ft1:List Nat) (wf1:World) (ft2:List Nat) (wf2:World) (m1:List Sstatement) (hds1:List Hstatement) (i1:Nat) (hsb1:Sub wf1 wf2) (hd1:DRows (Zand Z wf2) hds1 m1) (hc1:(i1:Int)<(l0.length:Int)) (e1:SStmt) (hx1:l0[i1]?=some e1) (An1:OA) (cn1:Nat) (An2:OA) (cn2:Nat) (An3:OA) (cn3:Nat) (An4:OA) (cn4:Nat) (An5:OA) (cn5:Nat) (hCs1:CellsAt Z A0 (i1*14) [vI e1.Kind,vI e1.N,vI e1.E.Kind,vI e1.E.N,.slice An1 e1.E.A.length cn1,vI e1.If.Kind,vI e1.If.A.Kind,vI e1.If.A.N,.slice An2 e1.If.A.A.length cn2,vI e1.If.B.Kind,vI e1.If.B.N,.slice An3 e1.If.B.A.length cn3,.slice An4 e1.Body.length cn4,.slice An5 e1.Else.length cn5]) (hLn1:e1.E.A.length≤cn1) (hRn1:RdZ Z An1 e1.E.A) (hLn2:e1.If.A.A.length≤cn2) (hRn2:RdZ Z An2 e1.If.A.A) (hLn3:e1.If.B.A.length≤cn3) (hRn3:RdZ Z An3 e1.If.B.A) (hLn4:e1.Body.length≤cn4) (hRn4:RdZ Z An4 e1.Body) (hLn5:e1.Else.length≤cn5) (hRn5:RdZ Z An5 e1.Else) (b1:Nat) (Z1:OA) (cz1:Nat) (hc2:¬ ((m1.length:Int) > x3)) (b2:Nat) (hc3:m1.length<628292358729) (v3:Value) (hd3:DRows (Zand Z wf2) (hds1++[(⟨e1.Kind,e1.N,e1.E.Kind,e1.E.N,⟨An1,e1.E.A.length,cn1⟩,e1.If.Kind,e1.If.A.Kind,e1.If.A.N,⟨An2,e1.If.A.A.length,cn2⟩,e1.If.B.Kind,e1.If.B.N,⟨An3,e1.If.B.A.length,cn3⟩,⟨An4,e1.Body.length,cn4⟩,⟨An5,e1.Else.length,cn5⟩,x1,⟨A2,l2.length,c2⟩⟩:Hstatement)]) (m1++[(⟨e1,x1,l2⟩:Sstatement)])) (o:(List Int) ⊕ (List Sstatement)) (h:punctualref_Flat.p1 l2 e1=some o) (w:World) (hS:St w0 w [Own.of v3 99 (hds1++[(⟨e1.Kind,e1.N,e1.E.Kind,e1.E.N,⟨An1,e1.E.A.length,cn1⟩,e1.If.Kind,e1.If.A.Kind,e1.If.A.N,⟨An2,e1.If.A.A.length,cn2⟩,e1.If.B.Kind,e1.If.B.N,⟨An3,e1.If.B.A.length,cn3⟩,⟨An4,e1.Body.length,cn4⟩,⟨An5,e1.Else.length,cn5⟩,x1,⟨A2,l2.length,c2⟩⟩:Hstatement)]),bk b1 #[vI e1.Kind,vI e1.N,vI e1.E.Kind,vI e1.E.N,.slice An1 e1.E.A.length cn1,vI e1.If.Kind,vI e1.If.A.Kind,vI e1.If.A.N,.slice An2 e1.If.A.A.length cn2,vI e1.If.B.Kind,vI e1.If.B.N,.slice An3 e1.If.B.A.length cn3,.slice An4 e1.Body.length cn4,.slice An5 e1.Else.length cn5] 49,Own.frz ft2 wf2]) (Q:Exit→Act→World→Prop) (hQ:∀ x a w,Outs (punctualref_Flat.A1 w0 Z l0 A0 c0 x1 l2 A2 c2 x3 wf2 hds1 i1 e1 An1 cn1 An2 cn2 An3 cn3 An4 cn4 An5 cn5 b1 v3) (punctualref_Flat.B1 w0 Z) o x a w→Q x a w):WE Try.prog 62 (subF Try.f54 [1,1,0,1,0,0,1,1,0,0,1,1,1,1,0]) Q [(1,vI x1),(2,.slice A2 l2.length c2),(3,vI x3),(9,v3),(11,pP b1 0),(12,.slice A2 l2.length c2),(13,.slice A0 l0.length c0),(14,vI (l0.length:Int)),(15,vI (i1:Int)),(16,.bool true),(17,.pointer (some ⟨blkOf A0,offOf A0+i1*14,none⟩)),(18,.agg #[vI e1.Kind,vI e1.N,vI e1.E.Kind,vI e1.E.N,.slice An1 e1.E.A.length cn1,vI e1.If.Kind,vI e1.If.A.Kind,vI e1.If.A.N,.slice An2 e1.If.A.A.length cn2,vI e1.If.B.Kind,vI e1.If.B.N,.slice An3 e1.If.B.A.length cn3,.slice An4 e1.Body.length cn4,.slice An5 e1.Else.length cn5]),(19,(.slice Z1 m1.length cz1)),(20,vI (m1.length:Int)),(21,vI x3),(22,.bool false),(24,(.slice Z1 m1.length cz1)),(25,.agg #[vI e1.Kind,vI e1.N,vI e1.E.Kind,vI e1.E.N,.slice An1 e1.E.A.length cn1,vI e1.If.Kind,vI e1.If.A.Kind,vI e1.If.A.N,.slice An2 e1.If.A.A.length cn2,vI e1.If.B.Kind,vI e1.If.B.N,.slice An3 e1.If.B.A.length cn3,.slice An4 e1.Body.length cn4,.slice An5 e1.Else.length cn5]),(26,vI x1),(27,.slice A2 l2.length c2),(28,.agg #[vI e1.Kind,vI e1.N,vI e1.E.Kind,vI e1.E.N,.slice An1 e1.E.A.length cn1,vI e1.If.Kind,vI e1.If.A.Kind,vI e1.If.A.N,.slice An2 e1.If.A.A.length cn2,vI e1.If.B.Kind,vI e1.If.B.N,.slice An3 e1.If.B.A.length cn3,.slice An4 e1.Body.length cn4,.slice An5 e1.Else.length cn5,vI x1,.slice A2 l2.length c2]),(29,.slice (some ⟨b2,0,none⟩) 1 1),(30,v3),(31,.slice A2 l2.length c2)] w:=by
 simp only [punctualref_Flat.p1] at h
 refine ws fun K15 hK15=>wr [(0,0),(1,0),(2,0)]<|gb [0,1,2] [(34,.bool (e1.Kind==6)),(33,vI e1.Kind),(32,pP b1 0)] [ld b1 0 (vI e1.Kind)] ⟨hS.c 1,trivial⟩<|gn hK15 ?_
 by_cases hc4:e1.Kind=6
 ·rw [if_pos hc4] at h
  refine wk 34 (e1.Kind==6) true (beq_iff_eq.2 hc4)<|wt<|we_orders3 (by kernel_rfl) [(4,[⟨b1,1,none⟩],[5,6],[])] (.vals [1] (.vals [3] (.vals [4] (.alt 0 1 (.alt 2 2 (.alt 5 1 (.alt 6 2 (.vals [7] .fin) .nomore) .nomore) (.alt 5 1 (.alt 2 2 (.alt 6 2 (.vals [7] .fin) .nomore) .nomore) .nomore)) (.alt 5 1 (.alt 0 1 (.alt 2 2 (.alt 6 2 (.vals [7] .fin) .nomore) .nomore) .nomore) .nomore))))) (by kernel_rfl) (by kernel_rfl) ?_
  have hS14:=hS.drew
  refine g30 [1,3] [(38,pP b1 1),(36,.slice A2 l2.length c2)]<|g3 4 [(39,vI e1.N)] [ld b1 1 (vI e1.N)] ⟨hS14.c 1,trivial⟩<|go_alt3 (fun KK hKK=>?_) ?_
  ·refine ge_one2<|gw (some 35) (.cells #[] 3) (fun b=>.slice (some ⟨b,0,none⟩) 0 0) hS14 fun b3 w5 hx4 hS15=>?_
   refine ge_nil fun a hF=>hKK _ _ (RS.of2 (l:=[ld b1 1 (vI e1.N)]) (by kernel_rfl) ⟨hS14.c 1,trivial⟩ ⟨hS15.c 2,trivial⟩) ?_ a hF
   refine go_alt3 (fun KK hKK=>?_) ?_
   ·have hS16:=hS15.asRow (α:=Int) (c:=0) ([]:List Int) (Nat.le_refl _) (by decide) rfl rfl
    by_cases hc5:0+l2.length≤17592186044416
    ·rw [if_pos hc5] at h
     refine ge_appendL (α:=Int) (m:=0) (d:=37) (t:=24) (el:=3) (bytes:=8) (c1:=c2) (A1:=A2) (x:=(.tmp 35)) (y:=(.tmp 36)) (ty:=24) (v:=(.slice (some ⟨b3,0,none⟩) 0 0)) (z:=vI 0) (l:=([]:List Int)) (us:=l2) (by kernel_rfl) (by kernel_rfl) (by kernel_rfl) (by kernel_rfl) (by kernel_rfl) rfl hS16 (hR2 _ (hZ _ hS16.subw)) rfl (Nat.mul_le_of_le_div _ _ _ hc5) fun v4 w6 hS17=>?_
     have hS18:St w0 w6 [Own.of v4 3 l2,Own.of v3 99 (hds1++[(⟨e1.Kind,e1.N,e1.E.Kind,e1.E.N,⟨An1,e1.E.A.length,cn1⟩,e1.If.Kind,e1.If.A.Kind,e1.If.A.N,⟨An2,e1.If.A.A.length,cn2⟩,e1.If.B.Kind,e1.If.B.N,⟨An3,e1.If.B.A.length,cn3⟩,⟨An4,e1.Body.length,cn4⟩,⟨An5,e1.Else.length,cn5⟩,x1,⟨A2,l2.length,c2⟩⟩:Hstatement)]),bk b1 #[vI e1.Kind,vI e1.N,vI e1.E.Kind,vI e1.E.N,.slice An1 e1.E.A.length cn1,vI e1.If.Kind,vI e1.If.A.Kind,vI e1.If.A.N,.slice An2 e1.If.A.A.length cn2,vI e1.If.B.Kind,vI e1.If.B.N,.slice An3 e1.If.B.A.length cn3,.slice An4 e1.Body.length cn4,.slice An5 e1.Else.length cn5] 49,Own.frz ft2 wf2]:=hS17
     refine ge_nil fun a hF=>hKK _ _ (RS.of2 (l:=[ld b1 1 (vI e1.N)]) (by kernel_rfl) ⟨hS15.c 2,trivial⟩ ⟨hS18.c 2,trivial⟩) ?_ a hF
     refine go_alt3 (fun KK hKK=>?_) ?_
     ·refine ge_one2<|gw (some 40) (.cells #[vI e1.N] 3) (fun b=>.slice (some ⟨b,0,none⟩) 1 1) hS18 fun b4 w7 hx5 hS19=>?_
      refine g2 hKK<|go_alt3 (fun KK hKK=>?_) ?_
      ·have hS20:=hS19.b 1
       by_cases hc6:l2.length<17592186044416
       ·rw [if_pos hc6] at h
        refine ge_append (α:=Int) (m:=0) (d:=41) (t:=24) (el:=3) (bytes:=8) (c1:=1) (b1:=b4) (x:=(.tmp 37)) (y:=(.tmp 40)) (ty:=24) (v:=v4) (z:=vI 0) (l:=l2) (u:=e1.N) (by kernel_rfl) (by kernel_rfl) (by kernel_rfl) (by kernel_rfl) (by kernel_rfl) rfl hS20 rfl (by omega) fun v5 w8 hS21=>?_
        refine g2 hKK<|g30 [7] [(12,v5)] ?_
        obtain ⟨Z3,cz3,rfl⟩:=hS21.open 0 rfl
        have hS23:=(hS21.b 3).b 1
        obtain ⟨ft5,wf5,hsb4,-,hRd1,hLd1,hS24⟩:=hS23.ffrz Z
        have hS26:=(hS24.b 1).b 2
        obtain rfl:=si h
        exact go_fin3 fun a hF=>hQ _ _ _ (Outs.again ⟨ft5,wf5,Z3,cz3,hsb4,hRd1,hLd1,hS26,hF.weaken ea⟩)
       rw [if_neg hc6] at h
       cases h
      exact go_nomore3
     exact go_nomore3
    rw [if_neg hc5] at h
    cases h
   refine go_alt3 (fun KK hKK=>?_) ?_
   ·refine ge_one2<|gw (some 40) (.cells #[vI e1.N] 3) (fun b=>.slice (some ⟨b,0,none⟩) 1 1) hS15 fun b4 w6 hx5 hS16=>?_
    refine g2 hKK<|go_alt3 (fun KK hKK=>?_) ?_
    ·have hS18:=(hS16.b 1).asRow (α:=Int) (c:=0) ([]:List Int) (Nat.le_refl _) (by decide) rfl rfl
     by_cases hc5:0+l2.length≤17592186044416
     ·rw [if_pos hc5] at h
      refine ge_appendL (α:=Int) (m:=0) (d:=37) (t:=24) (el:=3) (bytes:=8) (c1:=c2) (A1:=A2) (x:=(.tmp 35)) (y:=(.tmp 36)) (ty:=24) (v:=(.slice (some ⟨b3,0,none⟩) 0 0)) (z:=vI 0) (l:=([]:List Int)) (us:=l2) (by kernel_rfl) (by kernel_rfl) (by kernel_rfl) (by kernel_rfl) (by kernel_rfl) rfl hS18 (hR2 _ (hZ _ hS18.subw)) rfl (Nat.mul_le_of_le_div _ _ _ hc5) fun v4 w7 hS19=>?_
      have hS20:St w0 w7 [Own.of v4 3 l2,bk b4 #[vI e1.N] 3,Own.of v3 99 (hds1++[(⟨e1.Kind,e1.N,e1.E.Kind,e1.E.N,⟨An1,e1.E.A.length,cn1⟩,e1.If.Kind,e1.If.A.Kind,e1.If.A.N,⟨An2,e1.If.A.A.length,cn2⟩,e1.If.B.Kind,e1.If.B.N,⟨An3,e1.If.B.A.length,cn3⟩,⟨An4,e1.Body.length,cn4⟩,⟨An5,e1.Else.length,cn5⟩,x1,⟨A2,l2.length,c2⟩⟩:Hstatement)]),bk b1 #[vI e1.Kind,vI e1.N,vI e1.E.Kind,vI e1.E.N,.slice An1 e1.E.A.length cn1,vI e1.If.Kind,vI e1.If.A.Kind,vI e1.If.A.N,.slice An2 e1.If.A.A.length cn2,vI e1.If.B.Kind,vI e1.If.B.N,.slice An3 e1.If.B.A.length cn3,.slice An4 e1.Body.length cn4,.slice An5 e1.Else.length cn5] 49,Own.frz ft2 wf2]:=hS19
      refine ge_nil fun a hF=>hKK _ _ (RS.of2 (l:=[ld b1 1 (vI e1.N)]) (by kernel_rfl) ⟨hS16.c 3,trivial⟩ ⟨hS20.c 3,trivial⟩) ?_ a hF
      refine go_alt3 (fun KK hKK=>?_) ?_
      ·have hS22:=(hS20.b 1).b 1
       by_cases hc6:l2.length<17592186044416
       ·rw [if_pos hc6] at h
        refine ge_append (α:=Int) (m:=0) (d:=41) (t:=24) (el:=3) (bytes:=8) (c1:=1) (b1:=b4) (x:=(.tmp 37)) (y:=(.tmp 40)) (ty:=24) (v:=v4) (z:=vI 0) (l:=l2) (u:=e1.N) (by kernel_rfl) (by kernel_rfl) (by kernel_rfl) (by kernel_rfl) (by kernel_rfl) rfl hS22 rfl (by omega) fun v5 w8 hS23=>?_
        refine g2 hKK<|g30 [7] [(12,v5)] ?_
        obtain ⟨Z3,cz3,rfl⟩:=hS23.open 0 rfl
        have hS25:=(hS23.b 3).b 1
        obtain ⟨ft5,wf5,hsb4,-,hRd1,hLd1,hS26⟩:=hS25.ffrz Z
        have hS28:=(hS26.b 1).b 2
        obtain rfl:=si h
        exact go_fin3 fun a hF=>hQ _ _ _ (Outs.again ⟨ft5,wf5,Z3,cz3,hsb4,hRd1,hLd1,hS28,hF.weaken ea⟩)
       rw [if_neg hc6] at h
       cases h
      exact go_nomore3
     rw [if_neg hc5] at h
     cases h
    exact go_nomore3
   exact go_nomore3
  refine go_alt3 (fun KK hKK=>?_) ?_
  ·refine ge_one2<|gw (some 40) (.cells #[vI e1.N] 3) (fun b=>.slice (some ⟨b,0,none⟩) 1 1) hS14 fun b3 w5 hx4 hS15=>?_
   refine g2 hKK<|go_alt3 (fun KK hKK=>?_) ?_
   ·refine ge_one2<|gw (some 35) (.cells #[] 3) (fun b=>.slice (some ⟨b,0,none⟩) 0 0) hS15 fun b4 w6 hx5 hS16=>?_
    refine ge_nil fun a hF=>hKK _ _ (RS.of2 (l:=[ld b1 1 (vI e1.N)]) (by kernel_rfl) ⟨hS15.c 2,trivial⟩ ⟨hS16.c 3,trivial⟩) ?_ a hF
    refine go_alt3 (fun KK hKK=>?_) ?_
    ·have hS17:=hS16.asRow (α:=Int) (c:=0) ([]:List Int) (Nat.le_refl _) (by decide) rfl rfl
     by_cases hc5:0+l2.length≤17592186044416
     ·rw [if_pos hc5] at h
      refine ge_appendL (α:=Int) (m:=0) (d:=37) (t:=24) (el:=3) (bytes:=8) (c1:=c2) (A1:=A2) (x:=(.tmp 35)) (y:=(.tmp 36)) (ty:=24) (v:=(.slice (some ⟨b4,0,none⟩) 0 0)) (z:=vI 0) (l:=([]:List Int)) (us:=l2) (by kernel_rfl) (by kernel_rfl) (by kernel_rfl) (by kernel_rfl) (by kernel_rfl) rfl hS17 (hR2 _ (hZ _ hS17.subw)) rfl (Nat.mul_le_of_le_div _ _ _ hc5) fun v4 w7 hS18=>?_
      have hS19:St w0 w7 [Own.of v4 3 l2,bk b3 #[vI e1.N] 3,Own.of v3 99 (hds1++[(⟨e1.Kind,e1.N,e1.E.Kind,e1.E.N,⟨An1,e1.E.A.length,cn1⟩,e1.If.Kind,e1.If.A.Kind,e1.If.A.N,⟨An2,e1.If.A.A.length,cn2⟩,e1.If.B.Kind,e1.If.B.N,⟨An3,e1.If.B.A.length,cn3⟩,⟨An4,e1.Body.length,cn4⟩,⟨An5,e1.Else.length,cn5⟩,x1,⟨A2,l2.length,c2⟩⟩:Hstatement)]),bk b1 #[vI e1.Kind,vI e1.N,vI e1.E.Kind,vI e1.E.N,.slice An1 e1.E.A.length cn1,vI e1.If.Kind,vI e1.If.A.Kind,vI e1.If.A.N,.slice An2 e1.If.A.A.length cn2,vI e1.If.B.Kind,vI e1.If.B.N,.slice An3 e1.If.B.A.length cn3,.slice An4 e1.Body.length cn4,.slice An5 e1.Else.length cn5] 49,Own.frz ft2 wf2]:=hS18
      refine ge_nil fun a hF=>hKK _ _ (RS.of2 (l:=[ld b1 1 (vI e1.N)]) (by kernel_rfl) ⟨hS16.c 3,trivial⟩ ⟨hS19.c 3,trivial⟩) ?_ a hF
      refine go_alt3 (fun KK hKK=>?_) ?_
      ·have hS21:=(hS19.b 1).b 1
       by_cases hc6:l2.length<17592186044416
       ·rw [if_pos hc6] at h
        refine ge_append (α:=Int) (m:=0) (d:=41) (t:=24) (el:=3) (bytes:=8) (c1:=1) (b1:=b3) (x:=(.tmp 37)) (y:=(.tmp 40)) (ty:=24) (v:=v4) (z:=vI 0) (l:=l2) (u:=e1.N) (by kernel_rfl) (by kernel_rfl) (by kernel_rfl) (by kernel_rfl) (by kernel_rfl) rfl hS21 rfl (by omega) fun v5 w8 hS22=>?_
        refine g2 hKK<|g30 [7] [(12,v5)] ?_
        obtain ⟨Z3,cz3,rfl⟩:=hS22.open 0 rfl
        have hS24:=(hS22.b 3).b 1
        obtain ⟨ft5,wf5,hsb4,-,hRd1,hLd1,hS25⟩:=hS24.ffrz Z
        have hS27:=(hS25.b 1).b 2
        obtain rfl:=si h
        exact go_fin3 fun a hF=>hQ _ _ _ (Outs.again ⟨ft5,wf5,Z3,cz3,hsb4,hRd1,hLd1,hS27,hF.weaken ea⟩)
       rw [if_neg hc6] at h
       cases h
      exact go_nomore3
     rw [if_neg hc5] at h
     cases h
    exact go_nomore3
   exact go_nomore3
  exact go_nomore3
 rw [if_neg hc4] at h
 refine wk 34 (e1.Kind==6) false (beq_eq_false_iff_ne.2 hc4)<|wf ?_
 have hS30:=((hS.b 2).b 1).b 2
 obtain rfl:=si h
 exact we_skip fun a hF=>hQ _ _ _ (Outs.again ⟨ft2,wf2,A2,c2,(Sub.refl _),(hR2.up (ZLe.in _ _)),hL2,hS30,hF.weaken ea⟩)
abbrev punctualref_Flat.A0 (w0:World) (Z:Zone) (l0:List SStmt) (A0:OA) (c0:Nat) (x1:Int) (l2:List Int) (A2:OA) (c2:Nat) (x3:Int) (wf1:World):((List Sstatement)×Nat)→Act→World→Prop:=fun (s:(List Sstatement)×Nat) a w=>∃ (ft2:List Nat) (wf2:World) (v1:Value) (hds1:List Hstatement),Sub wf1 wf2∧DRows (Zand Z wf2) hds1 s.1∧St w0 w [Own.of v1 99 hds1,Own.frz ft2 wf2]∧Frm 62 a [(1,vI x1),(2,.slice A2 l2.length c2),(3,vI x3),(9,v1),(13,.slice A0 l0.length c0),(14,vI (l0.length:Int)),(15,vI (s.2:Int))]
abbrev punctualref_Flat.B0 (w0:World) (Z:Zone) (wf1:World):((List Sstatement) ⊕ (List Sstatement))→Exit→Act→World→Prop:=Exits 0 (fun (s:(List Sstatement)) a w=>∃ (ft3:List Nat) (wf3:World) (v2:Value) (hds2:List Hstatement),Sub wf1 wf3∧DRows (Zand Z wf3) hds2 s∧St w0 w [Own.of v2 99 hds2,Own.frz ft3 wf3]∧Frm 62 a [(9,v2)]) (Rets Try.prog Try.f54 (punctualref_Flat.Post w0 Z))
theorem punctualref_Flat_r0 (K:Nat) (w0:World) (Z:Zone) (l0:List SStmt) (A0:OA) (c0:Nat) (x1:Int) (l2:List Int) (A2:OA) (c2:Nat) (x3:Int) (hZ:∀ w,Sub w0 w→Z w) (hR0:RdZ Z A0 l0) (hL0:l0.length≤c0) (hR2:RdF Z A2 l2) (hL2:l2.length≤c2) (rec_punctualref_Flat:(List SStmt)→Int→(List Int)→Int→Option (List Sstatement)) (hr_punctualref_Flat:punctualref_Flat.Rec rec_punctualref_Flat) (ft1:List Nat) (wf1:World) (s:(List Sstatement)×Nat) (o:((List Sstatement)×Nat) ⊕ ((List Sstatement) ⊕ (List Sstatement))) (h:punctualref_Flat.r0 l0 x1 l2 x3 rec_punctualref_Flat s=some o) (a:Act) (w:World) (hA:punctualref_Flat.A0 w0 Z l0 A0 c0 x1 l2 A2 c2 x3 wf1 s a w) (Q:Exit→Act→World→Prop) (hQ:∀ x a w,Outs (punctualref_Flat.A0 w0 Z l0 A0 c0 x1 l2 A2 c2 x3 wf1) (punctualref_Flat.B0 w0 Z wf1) o x a w→Q x a w):(subF Try.f54 [1,1,0,1,0,0]).wp Try.prog Q a w:=by
 obtain ⟨m1,i1⟩:=s
 obtain ⟨ft2,wf2,v1,hds1,hsb1,hd1,hS,hF⟩:=hA
 replace hS:St w0 w [Own.of v1 99 hds1,Own.frz ft2 wf2]:=hS
 simp only [punctualref_Flat.r0] at h
 refine (?_:WE Try.prog 62 (subF Try.f54 [1,1,0,1,0,0]) Q [(1,vI x1),(2,.slice A2 l2.length c2),(3,vI x3),(9,v1),(13,.slice A0 l0.length c0),(14,vI (l0.length:Int)),(15,vI (i1:Int))] w) a hF
 clear hF a
 refine ws fun K5 hK5=>wr [(0,0)]<|gb0 [0] [(16,.bool (decide ((i1:Int)<(l0.length:Int))))]<|gn hK5<|ws fun K6 hK6=>?_
 by_cases hc1:(i1:Int)<(l0.length:Int)
 ·rw [if_pos hc1] at h
  refine wk 16 (decide ((i1:Int)<(l0.length:Int))) true (decide_eq_true hc1)<|wt<|we_skip fun a hF=>hK6 _ _ ?_ a hF
  refine ws fun K7 hK7=>we_block<|ws fun K8 hK8=>wr [(0,0),(1,0),(2,1),(3,2)] ?_
  rcases hx1:l0[i1]? with _ | e1
  ·rw [hx1] at h; cases h
  rw [hx1] at h
  simp only [] at h
  obtain ⟨An1,cn1,An2,cn2,An3,cn3,An4,cn4,An5,cn5,hCs1,hLn1,hRn1,hLn2,hRn2,hLn3,hRn3,hLn4,hRn4,hLn5,hRn5⟩:=SStmt.getZ hR0 hx1
  refine gi 17 0 38 49 14 l0.length c0 (.tmp 13) (.tmp 15) A0 .i64 (i1:Int) i1 (hR0.eqSome (hZ _ hS.subw) (pos_of_get hx1)) rfl (lt_of_get hx1) ?_
  refine gb [1] [(18,.agg #[vI e1.Kind,vI e1.N,vI e1.E.Kind,vI e1.E.N,.slice An1 e1.E.A.length cn1,vI e1.If.Kind,vI e1.If.A.Kind,vI e1.If.A.N,.slice An2 e1.If.A.A.length cn2,vI e1.If.B.Kind,vI e1.If.B.N,.slice An3 e1.If.B.A.length cn3,.slice An4 e1.Body.length cn4,.slice An5 e1.Else.length cn5])] [.loaded ⟨blkOf A0,offOf A0+i1*14,none⟩ (vI e1.Kind),.loaded ⟨blkOf A0,offOf A0+i1*14+1,none⟩ (vI e1.N),.loaded ⟨blkOf A0,offOf A0+i1*14+2,none⟩ (vI e1.E.Kind),.loaded ⟨blkOf A0,offOf A0+i1*14+3,none⟩ (vI e1.E.N),.loaded ⟨blkOf A0,offOf A0+i1*14+4,none⟩ (.slice An1 e1.E.A.length cn1),.loaded ⟨blkOf A0,offOf A0+i1*14+5,none⟩ (vI e1.If.Kind),.loaded ⟨blkOf A0,offOf A0+i1*14+6,none⟩ (vI e1.If.A.Kind),.loaded ⟨blkOf A0,offOf A0+i1*14+7,none⟩ (vI e1.If.A.N),.loaded ⟨blkOf A0,offOf A0+i1*14+8,none⟩ (.slice An2 e1.If.A.A.length cn2),.loaded ⟨blkOf A0,offOf A0+i1*14+9,none⟩ (vI e1.If.B.Kind),.loaded ⟨blkOf A0,offOf A0+i1*14+10,none⟩ (vI e1.If.B.N),.loaded ⟨blkOf A0,offOf A0+i1*14+11,none⟩ (.slice An3 e1.If.B.A.length cn3),.loaded ⟨blkOf A0,offOf A0+i1*14+12,none⟩ (.slice An4 e1.Body.length cn4),.loaded ⟨blkOf A0,offOf A0+i1*14+13,none⟩ (.slice An5 e1.Else.length cn5)] ⟨hCs1 _ (hZ _ hS.subw) 0 _ rfl,hCs1 _ (hZ _ hS.subw) 1 _ rfl,hCs1 _ (hZ _ hS.subw) 2 _ rfl,hCs1 _ (hZ _ hS.subw) 3 _ rfl,hCs1 _ (hZ _ hS.subw) 4 _ rfl,hCs1 _ (hZ _ hS.subw) 5 _ rfl,hCs1 _ (hZ _ hS.subw) 6 _ rfl,hCs1 _ (hZ _ hS.subw) 7 _ rfl,hCs1 _ (hZ _ hS.subw) 8 _ rfl,hCs1 _ (hZ _ hS.subw) 9 _ rfl,hCs1 _ (hZ _ hS.subw) 10 _ rfl,hCs1 _ (hZ _ hS.subw) 11 _ rfl,hCs1 _ (hZ _ hS.subw) 12 _ rfl,hCs1 _ (hZ _ hS.subw) 13 _ rfl,trivial⟩<|gw (some 11) (.cells #[vI 0,vI 0,vI 0,vI 0,.slice none 0 0,vI 0,vI 0,vI 0,.slice none 0 0,vI 0,vI 0,.slice none 0 0,.slice none 0 0,.slice none 0 0] 49) (fun b=>pP b 0) hS fun b1 w1 hx2 hS5=>?_
  refine gs b1 0 #[vI 0,vI 0,vI 0,vI 0,.slice none 0 0,vI 0,vI 0,vI 0,.slice none 0 0,vI 0,vI 0,.slice none 0 0,.slice none 0 0,.slice none 0 0] 49 [vI e1.Kind,vI e1.N,vI e1.E.Kind,vI e1.E.N,.slice An1 e1.E.A.length cn1,vI e1.If.Kind,vI e1.If.A.Kind,vI e1.If.A.N,.slice An2 e1.If.A.A.length cn2,vI e1.If.B.Kind,vI e1.If.B.N,.slice An3 e1.If.B.A.length cn3,.slice An4 e1.Body.length cn4,.slice An5 e1.Else.length cn5] hS5 fun w2 hS6=>?_
  have hS7:=hS6.nc #[vI e1.Kind,vI e1.N,vI e1.E.Kind,vI e1.E.N,.slice An1 e1.E.A.length cn1,vI e1.If.Kind,vI e1.If.A.Kind,vI e1.If.A.N,.slice An2 e1.If.A.A.length cn2,vI e1.If.B.Kind,vI e1.If.B.N,.slice An3 e1.If.B.A.length cn3,.slice An4 e1.Body.length cn4,.slice An5 e1.Else.length cn5] (by kernel_rfl)
  refine gn hK8<|ws fun K9 hK9=>ws fun K10 hK10=>wr [(0,0),(1,0),(2,0),(3,0)]<|gb0 [0] [(19,v1)] ?_
  obtain ⟨Z1,cz1,rfl⟩:=hS7.dopen 1 rfl hd1
  refine gb0 [1,2,3] [(22,.bool (decide ((m1.length:Int) > x3))),(21,vI x3),(20,vI (m1.length:Int))]<|gn hK10 ?_
  by_cases hc2:(m1.length:Int) > x3
  ·rw [if_pos hc2] at h
   refine wk 22 (decide ((m1.length:Int) > x3)) true (decide_eq_true hc2)<|wt<|ws fun K11 hK11=>wr [(0,0),(1,0)]<|gb0 [0,1] [(8,(.slice Z1 m1.length cz1)),(23,(.slice Z1 m1.length cz1))]<|gn hK11 ?_
   have hS10:=hS7.p [1,2] rfl
   obtain rfl:=si h
   exact we_ret fun a hF=>hQ _ _ _ (Outs.out nofun (Exits.on ⟨rfl,(pr0 [.tmp 8] [(.slice Z1 m1.length cz1)] ⟨(.slice Z1 m1.length cz1),hds1,ft2,wf2,rfl,hd1,hS10⟩) a hF⟩))
  rw [if_neg hc2] at h
  refine wk 22 (decide ((m1.length:Int) > x3)) false (decide_eq_false hc2)<|wf<|we_skip fun a hF=>hK9 _ _ ?_ a hF
  refine ws fun K12 hK12=>wr [(0,0),(1,0),(2,0),(3,0),(4,0),(5,1),(6,2),(7,0)]<|gb [0,1,2,3,4] [(28,.agg #[vI e1.Kind,vI e1.N,vI e1.E.Kind,vI e1.E.N,.slice An1 e1.E.A.length cn1,vI e1.If.Kind,vI e1.If.A.Kind,vI e1.If.A.N,.slice An2 e1.If.A.A.length cn2,vI e1.If.B.Kind,vI e1.If.B.N,.slice An3 e1.If.B.A.length cn3,.slice An4 e1.Body.length cn4,.slice An5 e1.Else.length cn5,vI x1,.slice A2 l2.length c2]),(27,.slice A2 l2.length c2),(26,vI x1),(25,.agg #[vI e1.Kind,vI e1.N,vI e1.E.Kind,vI e1.E.N,.slice An1 e1.E.A.length cn1,vI e1.If.Kind,vI e1.If.A.Kind,vI e1.If.A.N,.slice An2 e1.If.A.A.length cn2,vI e1.If.B.Kind,vI e1.If.B.N,.slice An3 e1.If.B.A.length cn3,.slice An4 e1.Body.length cn4,.slice An5 e1.Else.length cn5]),(24,(.slice Z1 m1.length cz1))] [ld b1 0 (vI e1.Kind),ld b1 1 (vI e1.N),ld b1 2 (vI e1.E.Kind),ld b1 3 (vI e1.E.N),ld b1 4 (.slice An1 e1.E.A.length cn1),ld b1 5 (vI e1.If.Kind),ld b1 6 (vI e1.If.A.Kind),ld b1 7 (vI e1.If.A.N),ld b1 8 (.slice An2 e1.If.A.A.length cn2),ld b1 9 (vI e1.If.B.Kind),ld b1 10 (vI e1.If.B.N),ld b1 11 (.slice An3 e1.If.B.A.length cn3),ld b1 12 (.slice An4 e1.Body.length cn4),ld b1 13 (.slice An5 e1.Else.length cn5)] ⟨hS7.c 0,hS7.c 0,hS7.c 0,hS7.c 0,hS7.c 0,hS7.c 0,hS7.c 0,hS7.c 0,hS7.c 0,hS7.c 0,hS7.c 0,hS7.c 0,hS7.c 0,hS7.c 0,trivial⟩<|gw (some 29) (.cells #[vI e1.Kind,vI e1.N,vI e1.E.Kind,vI e1.E.N,.slice An1 e1.E.A.length cn1,vI e1.If.Kind,vI e1.If.A.Kind,vI e1.If.A.N,.slice An2 e1.If.A.A.length cn2,vI e1.If.B.Kind,vI e1.If.B.N,.slice An3 e1.If.B.A.length cn3,.slice An4 e1.Body.length cn4,.slice An5 e1.Else.length cn5,vI x1,.slice A2 l2.length c2] 99) (fun b=>.slice (some ⟨b,0,none⟩) 1 1) hS7 fun b2 w3 hx3 hS11=>?_
  have hS12:=hS11.b 2
  by_cases hc3:m1.length<628292358729
  ·rw [if_pos hc3] at h
   have hd3:DRows (Zand Z wf2) (hds1++[(⟨e1.Kind,e1.N,e1.E.Kind,e1.E.N,⟨An1,e1.E.A.length,cn1⟩,e1.If.Kind,e1.If.A.Kind,e1.If.A.N,⟨An2,e1.If.A.A.length,cn2⟩,e1.If.B.Kind,e1.If.B.N,⟨An3,e1.If.B.A.length,cn3⟩,⟨An4,e1.Body.length,cn4⟩,⟨An5,e1.Else.length,cn5⟩,x1,⟨A2,l2.length,c2⟩⟩:Hstatement)]) (m1++[(⟨e1,x1,l2⟩:Sstatement)]):=DRows.add hd1 (Sstatement.mkZ (⟨e1,x1,l2⟩:Sstatement) hLn1 (hRn1.up (ZLe.in _ _)) hLn2 (hRn2.up (ZLe.in _ _)) hLn3 (hRn3.up (ZLe.in _ _)) hLn4 (hRn4.up (ZLe.in _ _)) hLn5 (hRn5.up (ZLe.in _ _)) hL2 (hR2.up (ZLe.in _ _)))
   refine ge_append (α:=Hstatement) (m:=0) (d:=30) (t:=96) (el:=99) (bytes:=224) (c1:=1) (b1:=b2) (x:=(.tmp 24)) (y:=(.tmp 29)) (ty:=96) (v:=(.slice Z1 m1.length cz1)) (z:=.agg #[vI 0,vI 0,vI 0,vI 0,.slice none 0 0,vI 0,vI 0,vI 0,.slice none 0 0,vI 0,vI 0,.slice none 0 0,.slice none 0 0,.slice none 0 0,vI 0,.slice none 0 0]) (l:=hds1) (u:=(⟨e1.Kind,e1.N,e1.E.Kind,e1.E.N,⟨An1,e1.E.A.length,cn1⟩,e1.If.Kind,e1.If.A.Kind,e1.If.A.N,⟨An2,e1.If.A.A.length,cn2⟩,e1.If.B.Kind,e1.If.B.N,⟨An3,e1.If.B.A.length,cn3⟩,⟨An4,e1.Body.length,cn4⟩,⟨An5,e1.Else.length,cn5⟩,x1,⟨A2,l2.length,c2⟩⟩:Hstatement)) (by kernel_rfl) (by kernel_rfl) (by kernel_rfl) (by kernel_rfl) (by kernel_rfl) rfl hS12 rfl (by have h0:hds1.length=m1.length:=DRows.len hd1; omega) fun v3 w4 hS13=>?_
   refine gb0 [7] [(9,v3)]<|gn hK12<|ws fun K13 hK13=>wr [(0,0),(1,0)]<|gb0 [0,1] [(12,.slice A2 l2.length c2),(31,.slice A2 l2.length c2)]<|gn hK13<|ws fun K14 hK14=>?_
   rcases hq1:punctualref_Flat.p1 l2 e1 with _ | (m4 | rr1)
   ·rw [hq1] at h; cases h
   ·rw [hq1] at h
    simp only [] at h
    refine kp (punctualref_Flat_p1 K w0 Z l0 A0 c0 x1 l2 A2 c2 x3 hZ hR0 hL0 hR2 hL2 rec_punctualref_Flat hr_punctualref_Flat ft1 wf1 ft2 wf2 m1 hds1 i1 hsb1 hd1 hc1 e1 hx1 An1 cn1 An2 cn2 An3 cn3 An4 cn4 An5 cn5 hCs1 hLn1 hRn1 hLn2 hRn2 hLn3 hRn3 hLn4 hRn4 hLn5 hRn5 b1 Z1 cz1 hc2 b2 hc3 v3 hd3 _ hq1 _ hS13 _ ?_)
    rintro _ a w9 ⟨rfl,ft6,wf6,Z4,cz4,hRz2,hRz3,hRz4,hS31,hF⟩
    replace hS31:St w0 w9 [bk b1 #[vI e1.Kind,vI e1.N,vI e1.E.Kind,vI e1.E.N,.slice An1 e1.E.A.length cn1,vI e1.If.Kind,vI e1.If.A.Kind,vI e1.If.A.N,.slice An2 e1.If.A.A.length cn2,vI e1.If.B.Kind,vI e1.If.B.N,.slice An3 e1.If.B.A.length cn3,.slice An4 e1.Body.length cn4,.slice An5 e1.Else.length cn5] 49,Own.of v3 99 (hds1++[(⟨e1.Kind,e1.N,e1.E.Kind,e1.E.N,⟨An1,e1.E.A.length,cn1⟩,e1.If.Kind,e1.If.A.Kind,e1.If.A.N,⟨An2,e1.If.A.A.length,cn2⟩,e1.If.B.Kind,e1.If.B.N,⟨An3,e1.If.B.A.length,cn3⟩,⟨An4,e1.Body.length,cn4⟩,⟨An5,e1.Else.length,cn5⟩,x1,⟨A2,l2.length,c2⟩⟩:Hstatement)]),Own.frz ft6 wf6]:=hS31
    refine hK14 [(1,vI x1),(2,.slice A2 l2.length c2),(3,vI x3),(9,v3),(11,pP b1 0),(12,.slice Z4 m4.length cz4),(13,.slice A0 l0.length c0),(14,vI (l0.length:Int)),(15,vI (i1:Int))] w9 ?_ a hF
    refine ws fun K16 hK16=>wr [(0,0),(1,0),(2,0),(3,0),(4,0),(5,0),(6,0),(7,1),(8,2),(9,0)] ?_
    rcases hq2:rec_punctualref_Flat e1.Body (IntKind.i64.wrap (x1+1)) m4 x3 with _ | r1
    ·rw [hq2] at h; cases h
    rw [hq2] at h
    simp only [] at h
    refine gb [0,1,2,3,4,5,6] [(48,vI x3),(47,.slice Z4 m4.length cz4),(46,vI (IntKind.i64.wrap (x1+1))),(45,vI x1),(44,.slice An4 e1.Body.length cn4),(43,pP b1 12),(42,v3)] [ld b1 12 (.slice An4 e1.Body.length cn4)] ⟨hS31.c 0,trivial⟩<|ge_call (d:=some 49) (f:=54) (args:=#[.slice An4 e1.Body.length cn4,vI (IntKind.i64.wrap (x1+1)),.slice Z4 m4.length cz4,vI x3]) (by kernel_rfl) (hr_punctualref_Flat (Zand Z wf6) e1.Body An4 cn4 (IntKind.i64.wrap (x1+1)) m4 Z4 cz4 x3 _ (fun w' k=>⟨(hZ w' (hS31.subw.trans k)),(hS31.frzSub 2 rfl).trans k⟩) (hRn4.up (ZLe.in _ _)) hLn4 hRz3 hRz4 _ hq2) ?_
    rintro _ w10 ⟨v6,hds3,ft7,wf7,rfl,hd4,hS32⟩
    refine ⟨_,rfl,hS32.below,?_⟩
    have hS35:=((hS31.call hS32).b 4).b 2
    obtain ⟨ft8,wf8,hsb5,hsb6,hS36⟩:=hS35.frzMerge
    replace hd4:DRows (Zand Z wf8) hds3 r1:=hd4.up (ZLe.both hsb6 hsb5)
    obtain ⟨Z5,cz5,rfl⟩:=hS36.dopen 1 rfl hd4
    have hS37:=hS36.b 1
    obtain ⟨ft9,wf9,hsb7,-,hRd2,hLd2,hS38⟩:=hS37.dfrz (Z:=Z) hd4
    obtain ⟨hds4,hd5,hf1⟩:=hRd2.ex
    have hS39:=hS38.b 2
    by_cases hc7:(m1++[(⟨e1,x1,l2⟩:Sstatement)]).length+r1.length≤628292358729
    ·rw [if_pos hc7] at h
     have hd6:DRows (Zand Z wf9) ((hds1++[(⟨e1.Kind,e1.N,e1.E.Kind,e1.E.N,⟨An1,e1.E.A.length,cn1⟩,e1.If.Kind,e1.If.A.Kind,e1.If.A.N,⟨An2,e1.If.A.A.length,cn2⟩,e1.If.B.Kind,e1.If.B.N,⟨An3,e1.If.B.A.length,cn3⟩,⟨An4,e1.Body.length,cn4⟩,⟨An5,e1.Else.length,cn5⟩,x1,⟨A2,l2.length,c2⟩⟩:Hstatement)])++hds4) ((m1++[(⟨e1,x1,l2⟩:Sstatement)])++r1):=DRows.app (hd3.up (ZLe.up ((hRz2.trans hsb6).trans hsb7))) hd5
     refine ge_same (t:=49) (v:=.slice Z5 r1.length cz5) (v':=.slice Z5 hds4.length cz5) (by kernel_rfl) (congrArg (fun z=>Value.slice Z5 z cz5) (show r1.length=hds4.length from (DRows.len hd5).symm)) ?_
     refine ge_appendL (α:=Hstatement) (m:=0) (d:=50) (t:=96) (el:=99) (bytes:=224) (c1:=cz5) (A1:=Z5) (x:=(.tmp 42)) (y:=(.tmp 49)) (ty:=96) (v:=v3) (z:=.agg #[vI 0,vI 0,vI 0,vI 0,.slice none 0 0,vI 0,vI 0,vI 0,.slice none 0 0,vI 0,vI 0,.slice none 0 0,.slice none 0 0,.slice none 0 0,vI 0,.slice none 0 0]) (l:=(hds1++[(⟨e1.Kind,e1.N,e1.E.Kind,e1.E.N,⟨An1,e1.E.A.length,cn1⟩,e1.If.Kind,e1.If.A.Kind,e1.If.A.N,⟨An2,e1.If.A.A.length,cn2⟩,e1.If.B.Kind,e1.If.B.N,⟨An3,e1.If.B.A.length,cn3⟩,⟨An4,e1.Body.length,cn4⟩,⟨An5,e1.Else.length,cn5⟩,x1,⟨A2,l2.length,c2⟩⟩:Hstatement)])) (us:=hds4) (by kernel_rfl) (by kernel_rfl) (by kernel_rfl) (by kernel_rfl) (by kernel_rfl) rfl hS39 (hf1 _ ⟨(hZ _ hS39.subw),(hS39.frzSub 1 rfl)⟩) rfl (Nat.mul_le_of_le_div _ _ _ (by have h0:(hds1++[(⟨e1.Kind,e1.N,e1.E.Kind,e1.E.N,⟨An1,e1.E.A.length,cn1⟩,e1.If.Kind,e1.If.A.Kind,e1.If.A.N,⟨An2,e1.If.A.A.length,cn2⟩,e1.If.B.Kind,e1.If.B.N,⟨An3,e1.If.B.A.length,cn3⟩,⟨An4,e1.Body.length,cn4⟩,⟨An5,e1.Else.length,cn5⟩,x1,⟨A2,l2.length,c2⟩⟩:Hstatement)]).length=(m1++[(⟨e1,x1,l2⟩:Sstatement)]).length:=DRows.len (hd3.up (ZLe.up ((hRz2.trans hsb6).trans hsb7))); have h1:hds4.length=r1.length:=DRows.len hd5; omega)) fun v7 w11 hS40=>?_
     have hS41:St w0 w11 [Own.of v7 99 ((hds1++[(⟨e1.Kind,e1.N,e1.E.Kind,e1.E.N,⟨An1,e1.E.A.length,cn1⟩,e1.If.Kind,e1.If.A.Kind,e1.If.A.N,⟨An2,e1.If.A.A.length,cn2⟩,e1.If.B.Kind,e1.If.B.N,⟨An3,e1.If.B.A.length,cn3⟩,⟨An4,e1.Body.length,cn4⟩,⟨An5,e1.Else.length,cn5⟩,x1,⟨A2,l2.length,c2⟩⟩:Hstatement)])++hds4),Own.frz ft9 wf9,bk b1 #[vI e1.Kind,vI e1.N,vI e1.E.Kind,vI e1.E.N,.slice An1 e1.E.A.length cn1,vI e1.If.Kind,vI e1.If.A.Kind,vI e1.If.A.N,.slice An2 e1.If.A.A.length cn2,vI e1.If.B.Kind,vI e1.If.B.N,.slice An3 e1.If.B.A.length cn3,.slice An4 e1.Body.length cn4,.slice An5 e1.Else.length cn5] 49]:=hS40
     refine gb0 [9] [(9,v7)]<|gn hK16<|wr [(0,0),(1,0),(2,0),(3,0),(4,0),(5,0),(6,0),(7,1),(8,2),(9,0)] ?_
     rcases hq3:rec_punctualref_Flat e1.Else (IntKind.i64.wrap (x1+1)) m4 x3 with _ | r2
     ·rw [hq3] at h; cases h
     rw [hq3] at h
     simp only [] at h
     refine gb [0,1,2,3,4,5,6] [(57,vI x3),(56,.slice Z4 m4.length cz4),(55,vI (IntKind.i64.wrap (x1+1))),(54,vI x1),(53,.slice An5 e1.Else.length cn5),(52,pP b1 13),(51,v7)] [ld b1 13 (.slice An5 e1.Else.length cn5)] ⟨hS41.c 2,trivial⟩<|ge_call (d:=some 58) (f:=54) (args:=#[.slice An5 e1.Else.length cn5,vI (IntKind.i64.wrap (x1+1)),.slice Z4 m4.length cz4,vI x3]) (by kernel_rfl) (hr_punctualref_Flat (Zand Z wf9) e1.Else An5 cn5 (IntKind.i64.wrap (x1+1)) m4 Z4 cz4 x3 _ (fun w' k=>⟨(hZ w' (hS41.subw.trans k)),(hS41.frzSub 1 rfl).trans k⟩) (hRn5.up (ZLe.in _ _)) hLn5 (hRz3.up (ZLe.up (hsb6.trans hsb7))) hRz4 _ hq3) ?_
     rintro _ w12 ⟨v8,hds5,ft10,wf10,rfl,hd7,hS42⟩
     refine ⟨_,rfl,hS42.below,?_⟩
     have hS45:=((hS41.call hS42).b 3).b 2
     obtain ⟨ft11,wf11,hsb8,hsb9,hS46⟩:=hS45.frzMerge
     replace hd7:DRows (Zand Z wf11) hds5 r2:=hd7.up (ZLe.both hsb9 hsb8)
     obtain ⟨Z6,cz6,rfl⟩:=hS46.dopen 1 rfl hd7
     have hS47:=hS46.b 1
     obtain ⟨ft12,wf12,hsb10,-,hRd3,hLd3,hS48⟩:=hS47.dfrz (Z:=Z) hd7
     obtain ⟨hds6,hd8,hf2⟩:=hRd3.ex
     have hS49:=hS48.b 1
     by_cases hc8:((m1++[(⟨e1,x1,l2⟩:Sstatement)])++r1).length+r2.length≤628292358729
     ·rw [if_pos hc8] at h
      have hd9:DRows (Zand Z wf12) (((hds1++[(⟨e1.Kind,e1.N,e1.E.Kind,e1.E.N,⟨An1,e1.E.A.length,cn1⟩,e1.If.Kind,e1.If.A.Kind,e1.If.A.N,⟨An2,e1.If.A.A.length,cn2⟩,e1.If.B.Kind,e1.If.B.N,⟨An3,e1.If.B.A.length,cn3⟩,⟨An4,e1.Body.length,cn4⟩,⟨An5,e1.Else.length,cn5⟩,x1,⟨A2,l2.length,c2⟩⟩:Hstatement)])++hds4)++hds6) (((m1++[(⟨e1,x1,l2⟩:Sstatement)])++r1)++r2):=DRows.app (hd6.up (ZLe.up (hsb9.trans hsb10))) hd8
      refine ge_same (t:=58) (v:=.slice Z6 r2.length cz6) (v':=.slice Z6 hds6.length cz6) (by kernel_rfl) (congrArg (fun z=>Value.slice Z6 z cz6) (show r2.length=hds6.length from (DRows.len hd8).symm)) ?_
      refine ge_appendL (α:=Hstatement) (m:=0) (d:=59) (t:=96) (el:=99) (bytes:=224) (c1:=cz6) (A1:=Z6) (x:=(.tmp 51)) (y:=(.tmp 58)) (ty:=96) (v:=v7) (z:=.agg #[vI 0,vI 0,vI 0,vI 0,.slice none 0 0,vI 0,vI 0,vI 0,.slice none 0 0,vI 0,vI 0,.slice none 0 0,.slice none 0 0,.slice none 0 0,vI 0,.slice none 0 0]) (l:=((hds1++[(⟨e1.Kind,e1.N,e1.E.Kind,e1.E.N,⟨An1,e1.E.A.length,cn1⟩,e1.If.Kind,e1.If.A.Kind,e1.If.A.N,⟨An2,e1.If.A.A.length,cn2⟩,e1.If.B.Kind,e1.If.B.N,⟨An3,e1.If.B.A.length,cn3⟩,⟨An4,e1.Body.length,cn4⟩,⟨An5,e1.Else.length,cn5⟩,x1,⟨A2,l2.length,c2⟩⟩:Hstatement)])++hds4)) (us:=hds6) (by kernel_rfl) (by kernel_rfl) (by kernel_rfl) (by kernel_rfl) (by kernel_rfl) rfl hS49 (hf2 _ ⟨(hZ _ hS49.subw),(hS49.frzSub 1 rfl)⟩) rfl (Nat.mul_le_of_le_div _ _ _ (by have h0:((hds1++[(⟨e1.Kind,e1.N,e1.E.Kind,e1.E.N,⟨An1,e1.E.A.length,cn1⟩,e1.If.Kind,e1.If.A.Kind,e1.If.A.N,⟨An2,e1.If.A.A.length,cn2⟩,e1.If.B.Kind,e1.If.B.N,⟨An3,e1.If.B.A.length,cn3⟩,⟨An4,e1.Body.length,cn4⟩,⟨An5,e1.Else.length,cn5⟩,x1,⟨A2,l2.length,c2⟩⟩:Hstatement)])++hds4).length=((m1++[(⟨e1,x1,l2⟩:Sstatement)])++r1).length:=DRows.len (hd6.up (ZLe.up (hsb9.trans hsb10))); have h1:hds6.length=r2.length:=DRows.len hd8; omega)) fun v9 w13 hS50=>?_
      have hS51:St w0 w13 [Own.of v9 99 (((hds1++[(⟨e1.Kind,e1.N,e1.E.Kind,e1.E.N,⟨An1,e1.E.A.length,cn1⟩,e1.If.Kind,e1.If.A.Kind,e1.If.A.N,⟨An2,e1.If.A.A.length,cn2⟩,e1.If.B.Kind,e1.If.B.N,⟨An3,e1.If.B.A.length,cn3⟩,⟨An4,e1.Body.length,cn4⟩,⟨An5,e1.Else.length,cn5⟩,x1,⟨A2,l2.length,c2⟩⟩:Hstatement)])++hds4)++hds6),Own.frz ft12 wf12,bk b1 #[vI e1.Kind,vI e1.N,vI e1.E.Kind,vI e1.E.N,.slice An1 e1.E.A.length cn1,vI e1.If.Kind,vI e1.If.A.Kind,vI e1.If.A.N,.slice An2 e1.If.A.A.length cn2,vI e1.If.B.Kind,vI e1.If.B.N,.slice An3 e1.If.B.A.length cn3,.slice An4 e1.Body.length cn4,.slice An5 e1.Else.length cn5] 49]:=hS50
      refine gb0 [9] [(9,v9)]<|gn hK7<|wr [(0,0),(1,0)]<|ge_addn (d:=60) (ty:=3) (x:=(.tmp 15)) (y:=(.const (vI 1))) (t:=3) (t2:=3) (k:=.i64) (m:=i1) (by kernel_rfl) (by kernel_rfl) (by kernel_rfl) (by have h0:=RdZ.small hR0 (hZ _ hS51.subw); omega) ?_
      refine gb0 [1] [(15,vI ((i1+1:Nat):Int))] ?_
      have hS54:=hS51.p [0,1] rfl
      obtain rfl:=si h
      exact ge_nil fun a hF=>hQ _ _ _ (Outs.again ⟨ft12,wf12,v9,(((hds1++[(⟨e1.Kind,e1.N,e1.E.Kind,e1.E.N,⟨An1,e1.E.A.length,cn1⟩,e1.If.Kind,e1.If.A.Kind,e1.If.A.N,⟨An2,e1.If.A.A.length,cn2⟩,e1.If.B.Kind,e1.If.B.N,⟨An3,e1.If.B.A.length,cn3⟩,⟨An4,e1.Body.length,cn4⟩,⟨An5,e1.Else.length,cn5⟩,x1,⟨A2,l2.length,c2⟩⟩:Hstatement)])++hds4)++hds6),(((((hsb1.trans hRz2).trans hsb6).trans hsb7).trans hsb9).trans hsb10),hd9,hS54,hF.weaken ea⟩)
     rw [if_neg hc8] at h
     cases h
    rw [if_neg hc7] at h
    cases h
   rw [hq1] at h
   simp only [] at h
   refine kp (punctualref_Flat_p1 K w0 Z l0 A0 c0 x1 l2 A2 c2 x3 hZ hR0 hL0 hR2 hL2 rec_punctualref_Flat hr_punctualref_Flat ft1 wf1 ft2 wf2 m1 hds1 i1 hsb1 hd1 hc1 e1 hx1 An1 cn1 An2 cn2 An3 cn3 An4 cn4 An5 cn5 hCs1 hLn1 hRn1 hLn2 hRn2 hLn3 hRn3 hLn4 hRn4 hLn5 hRn5 b1 Z1 cz1 hc2 b2 hc3 v3 hd3 _ hq1 _ hS13 _ ?_)
   rintro _ a w1 ⟨_,rfl,hb⟩
   obtain rfl:=si h
   exact hQ _ _ _ (Outs.out nofun (Exits.on ⟨rfl,hb⟩))
  rw [if_neg hc3] at h
  cases h
 rw [if_neg hc1] at h
 refine wk 16 (decide ((i1:Int)<(l0.length:Int))) false (decide_eq_false hc1)<|wf ?_
 have hS56:=(hS.b 1).b 1
 obtain rfl:=si h
 exact we_exit fun a hF=>hQ _ _ _ (Outs.out nofun (Exits.here ⟨ft2,wf2,v1,hds1,hsb1,hd1,hS56,hF.weaken ea⟩))
theorem punctualref_Flat_step (K:Nat) (rec_punctualref_Flat:(List SStmt)→Int→(List Int)→Int→Option (List Sstatement)) (hr_punctualref_Flat:punctualref_Flat.Rec rec_punctualref_Flat) (Z:Zone) (l0:List SStmt) (A0:OA) (c0:Nat) (x1:Int) (l2:List Int) (A2:OA) (c2:Nat) (x3:Int) (w0:World) (hZ:∀ w,Sub w0 w→Z w) (hR0:RdZ Z A0 l0) (hL0:l0.length≤c0) (hR2:RdF Z A2 l2) (hL2:l2.length≤c2) (r:List Sstatement) (h:punctualref_Flat.b K rec_punctualref_Flat l0 x1 l2 x3=some r) :
  Calls Try.prog 54 #[.slice A0 l0.length c0,vI x1,.slice A2 l2.length c2,vI x3] w0 (punctualref_Flat.Post w0 Z r):=by
 have hS:=St.start w0
 unfold punctualref_Flat.b at h
 refine calls_enter (n:=62) (args:=[.slice A0 l0.length c0,vI x1,.slice A2 l2.length c2,vI x3]) (fn:=Try.f54) rfl rfl rfl rfl ?_
 show WE _ _ _ _ [(0,.slice A0 l0.length c0),(1,vI x1),(2,.slice A2 l2.length c2),(3,vI x3)] _
 obtain ⟨ft1,wf1,hS1⟩:=hS.frz0
 refine ws fun K1 hK1=>wr [(0,0)]<|gb0 [0] [(8,.slice none 0 0)]<|gn hK1<|ws fun K2 hK2=>wr [(0,0)]<|gb0 [0] [(9,.slice none 0 0)]<|gn hK2<|ws fun K3 hK3=>ws fun K4 hK4=>wr [(0,0),(1,0),(2,0)]<|gb0 [0,1,2] [(15,vI 0),(14,vI (l0.length:Int)),(13,.slice A0 l0.length c0)]<|gn hK4<|we_block ?_
 have hS4:=((hS1.nil (α:=Hstatement) 99).b 1).b 1
 rcases hq4:iter (punctualref_Flat.r0 l0 x1 l2 x3 rec_punctualref_Flat) K (([]:List Sstatement),0) with _ | (m5 | rr2)
 ·rw [hq4] at h; cases h
 ·rw [hq4] at h
  simp only [] at h
  refine we_iter (A:=punctualref_Flat.A0 w0 Z l0 A0 c0 x1 l2 A2 c2 x3 wf1) (B:=punctualref_Flat.B0 w0 Z wf1) hq4 (fun a hF=>⟨ft1,wf1,(.slice none 0 0),([]:List Hstatement),(Sub.refl _),(DRows.nil _),hS4,hF.weaken ea⟩) (fun s o hf a w hA Q hQ=>punctualref_Flat_r0 K w0 Z l0 A0 c0 x1 l2 A2 c2 x3 hZ hR0 hL0 hR2 hL2 rec_punctualref_Flat hr_punctualref_Flat ft1 wf1 s o hf a w hA Q hQ) ?_
  rintro _ a w14 _ ⟨rfl,ft13,wf13,v10,hds7,hRz5,hRz6,hS57,hF⟩
  replace hS57:St w0 w14 [Own.of v10 99 hds7,Own.frz ft13 wf13]:=hS57
  refine hK3 [(9,v10)] w14 ?_ a hF
  refine ws fun K17 hK17=>wr [(0,0),(1,0)]<|gb0 [0,1] [(8,v10),(61,v10)]<|gn hK17 ?_
  have hS59:=(hS57.b 1).b 1
  obtain rfl:=si h
  exact we_ret (pr0 [.tmp 8] [v10] ⟨v10,hds7,ft13,wf13,rfl,hRz6,hS59⟩)
 rw [hq4] at h
 simp only [] at h
 refine we_iter (A:=punctualref_Flat.A0 w0 Z l0 A0 c0 x1 l2 A2 c2 x3 wf1) (B:=punctualref_Flat.B0 w0 Z wf1) hq4 (fun a hF=>⟨ft1,wf1,(.slice none 0 0),([]:List Hstatement),(Sub.refl _),(DRows.nil _),hS4,hF.weaken ea⟩) (fun s o hf a w hA Q hQ=>punctualref_Flat_r0 K w0 Z l0 A0 c0 x1 l2 A2 c2 x3 hZ hR0 hL0 hR2 hL2 rec_punctualref_Flat hr_punctualref_Flat ft1 wf1 s o hf a w hA Q hQ) ?_
 rintro _ a w1 _ ⟨rfl,hb⟩
 obtain rfl:=si h
 exact hb
def punctualref_Flat.recs (K : Nat) : Nat → ((List SStmt) → Int → (List Int) → Int → Option (List Sstatement))
 | 0=>fun _ _ _ _=>none
 | n+1=>punctualref_Flat.b K (punctualref_Flat.recs K n)
theorem punctualref_Flat_all (K n:Nat):punctualref_Flat.Rec (punctualref_Flat.recs K n):=by
 induction n with
 | zero=>exact (by unfold punctualref_Flat.Rec; intros; rename_i h; cases (show none=some _ from h))
 | succ n ih=>exact punctualref_Flat_step K _ ih
def punctualref_Flat.f (K : Nat) (l0 : List SStmt) (x1 : Int) (l2 : List Int) (x3 : Int) : Option (List Sstatement) := (punctualref_Flat.recs K K) l0 x1 l2 x3
theorem punctualref_Flat_ok (K:Nat) (Z:Zone) (l0:List SStmt) (A0:OA) (c0:Nat) (x1:Int) (l2:List Int) (A2:OA) (c2:Nat) (x3:Int) (w0:World) (hZ:∀ w,Sub w0 w→Z w) (hR0:RdZ Z A0 l0) (hL0:l0.length≤c0) (hR2:RdF Z A2 l2) (hL2:l2.length≤c2) (r:List Sstatement) (h:punctualref_Flat.f K l0 x1 l2 x3=some r):Calls Try.prog 54 #[.slice A0 l0.length c0,vI x1,.slice A2 l2.length c2,vI x3] w0 (punctualref_Flat.Post w0 Z r):=(punctualref_Flat_all K K) Z l0 A0 c0 x1 l2 A2 c2 x3 w0 hZ hR0 hL0 hR2 hL2 r h

/-! punctual/punctualref.emptyExpr -/
abbrev punctualref_emptyExpr.Post (w0:World) (r:Bool) (e:Ending) (w:World):Prop:=e=.returned (.bool r)∧St w0 w []
def punctualref_emptyExpr.f (x0_0 : Int) (x0_1 : Int) (l0_2 : List SExpr) : Bool :=
 if x0_0=0 then
  if x0_1=0 then
   ((l0_2.length:Int)==0)
  else
   false
 else
  false
theorem punctualref_emptyExpr_ok (Z:Zone) (x0_0 x0_1:Int) (l0_2:List SExpr) (A0_2:OA) (c0_2:Nat) (w0:World) (hZ:∀ w,Sub w0 w→Z w) (hR0_2:RdZ Z A0_2 l0_2) (hL0_2:l0_2.length≤c0_2) (r:Bool) (h:punctualref_emptyExpr.f x0_0 x0_1 l0_2=r) :
  Calls Try.prog 78 #[.agg #[vI x0_0,vI x0_1,.slice A0_2 l0_2.length c0_2]] w0 (punctualref_emptyExpr.Post w0 r):=by
 have hS:=St.start w0
 unfold punctualref_emptyExpr.f at h
 refine calls_enter (n:=17) (args:=[.agg #[vI x0_0,vI x0_1,.slice A0_2 l0_2.length c0_2]]) (fn:=Try.f78) rfl rfl rfl rfl ?_
 show WE _ _ _ _ [(0,.agg #[vI x0_0,vI x0_1,.slice A0_2 l0_2.length c0_2])] _
 refine ws fun K1 hK1=>wr [(0,1),(1,0)]<|gw (some 1) (.cells #[vI x0_0,vI x0_1,.slice A0_2 l0_2.length c0_2] 45) (fun b=>pP b 0) hS fun b1 w1 hx1 hS1=>?_
 refine gb0 [1] [(2,.bool false)]<|gn hK1<|ws fun K2 hK2=>wr [(0,0),(1,0),(2,0),(3,0),(4,0),(5,0),(6,0),(7,0),(8,0),(9,0),(10,0),(11,0),(12,0),(13,0),(14,0)]<|gb [0,1,2,3] [(6,.bool (x0_0==0)),(5,.bool (x0_0==0)),(4,vI x0_0),(3,pP b1 0)] [ld b1 0 (vI x0_0)] ⟨hS1.c 0,trivial⟩ ?_
 by_cases hc1:x0_0=0
 ·rw [if_pos hc1] at h
  refine gk 6 (x0_0==0) true (beq_iff_eq.2 hc1)<|gb [4,5,6,7,8] [(11,.bool (x0_1==0)),(10,.bool (x0_1==0)),(9,.bool (x0_1==0)),(8,vI x0_1),(7,pP b1 1)] [ld b1 1 (vI x0_1)] ⟨hS1.c 0,trivial⟩ ?_
  by_cases hc2:x0_1=0
  ·rw [if_pos hc2] at h
   refine gk 11 (x0_1==0) true (beq_iff_eq.2 hc2)<|gb [9,10,11,12,13,14] [(2,.bool ((l0_2.length:Int)==0)),(16,.bool ((l0_2.length:Int)==0)),(15,.bool ((l0_2.length:Int)==0)),(14,vI (l0_2.length:Int)),(13,.slice A0_2 l0_2.length c0_2),(12,pP b1 2)] [ld b1 2 (.slice A0_2 l0_2.length c0_2)] ⟨hS1.c 0,trivial⟩<|gn hK2 ?_
   have hS2:=hS1.takeN 0
   subst h
   exact we_ret (pr0 [.tmp 2] [.bool ((l0_2.length:Int)==0)] ⟨rfl,hS2⟩)
  rw [if_neg hc2] at h
  refine gk 11 (x0_1==0) false (beq_eq_false_iff_ne.2 hc2)<|gb0 [9,10,11,12,13,14] [(2,.bool false),(16,.bool false),(15,undef),(14,undef),(13,undef),(12,undef)]<|gn hK2 ?_
  have hS3:=hS1.takeN 0
  subst h
  exact we_ret (pr0 [.tmp 2] [.bool false] ⟨rfl,hS3⟩)
 rw [if_neg hc1] at h
 refine gk 6 (x0_0==0) false (beq_eq_false_iff_ne.2 hc1)<|gb0 [4,5,6,7,8,9,10,11,12,13,14] [(2,.bool false),(16,.bool false),(15,undef),(14,undef),(13,undef),(12,undef),(11,.bool false),(10,.bool false),(9,undef),(8,undef),(7,undef)]<|gn hK2 ?_
 have hS4:=hS1.takeN 0
 subst h
 exact we_ret (pr0 [.tmp 2] [.bool false] ⟨rfl,hS4⟩)
end Go.Proofs.Ytnckikjcjgmdlaa.GV
