/- Walks of single functions, written by a program of this work. -/
import Derived.Test.YtcjphfmmmlgcbaaGWMeaningRuns4
namespace Go.Proofs.Ytcjphfmmmlgcbaa.GV
open Go Go.RowKit
set_option linter.unusedVariables false
set_option linter.unusedSimpArgs false
set_option maxRecDepth 100000

/-! (*punctual/punctualref.mean).worth -/
abbrev pr_mean_worth.Post (w0:World) (Z:Zone) (bp0:Nat) (lp0_0:List Int) (Ap0_0:OA) (cp0_0:Nat) (lp0_1:List SPut) (Ap0_1:OA) (cp0_1:Nat) (sp0_2:Int) (lp0_3:List Int) (Ap0_3:OA) (cp0_3:Nat) (sp0_4 x1_0 x1_1:Int) (l1_2:List SExpr) (A1_2:OA) (c1_2:Nat) (LT:List Own) (r:Int) (e:Ending) (w:World):Prop:=e=.returned (vI r)∧St w0 w [bk bp0 #[(.slice Ap0_0 lp0_0.length cp0_0),(.slice Ap0_1 lp0_1.length cp0_1),vI sp0_2,.slice Ap0_3 lp0_3.length cp0_3,vI sp0_4] 62,ro Ap0_0 cp0_0 3 lp0_0,ro Ap0_1 cp0_1 42 lp0_1,Own.all LT]
abbrev pr_mean_worth.Rec (rec_pr_mean_worth:(List Int)→(List SPut)→Int→(List Int)→Int→Int→Int→(List SExpr)→Option Int):Prop:=∀ (Z:Zone) (bp0:Nat) (lp0_0:List Int) (Ap0_0:OA) (cp0_0:Nat) (lp0_1:List SPut) (Ap0_1:OA) (cp0_1:Nat) (sp0_2:Int) (lp0_3:List Int) (Ap0_3:OA) (cp0_3:Nat) (sp0_4:Int) (x1_0:Int) (x1_1:Int) (l1_2:List SExpr) (A1_2:OA) (c1_2:Nat) (w0 wE:World) (LT:List Own) (hS:St w0 wE [bk bp0 #[(.slice Ap0_0 lp0_0.length cp0_0),(.slice Ap0_1 lp0_1.length cp0_1),vI sp0_2,.slice Ap0_3 lp0_3.length cp0_3,vI sp0_4] 62,ro Ap0_0 cp0_0 3 lp0_0,ro Ap0_1 cp0_1 42 lp0_1,Own.all LT]) (hZ:∀ w L,St w0 w (Own.all LT::L)→∀ w',Sub w w'→Z w') (hRp0_3:RdL w0 Ap0_3 lp0_3) (hLp0_3:lp0_3.length≤cp0_3) (hR1_2:RdZ Z A1_2 l1_2) (hL1_2:l1_2.length≤c1_2) (r:Int) (h:rec_pr_mean_worth lp0_0 lp0_1 sp0_2 lp0_3 sp0_4 x1_0 x1_1 l1_2=some r),Calls Try.prog 62 #[pP bp0 0,.agg #[vI x1_0,vI x1_1,.slice A1_2 l1_2.length c1_2]] wE (pr_mean_worth.Post w0 Z bp0 lp0_0 Ap0_0 cp0_0 lp0_1 Ap0_1 cp0_1 sp0_2 lp0_3 Ap0_3 cp0_3 sp0_4 x1_0 x1_1 l1_2 A1_2 c1_2 LT r)
def pr_mean_worth.r0 (lp0_0 : List Int) (lp0_1 : List SPut) (sp0_2 : Int) (lp0_3 : List Int) (sp0_4 : Int) (l1_2 : List SExpr) (rec_pr_mean_worth : (List Int) → (List SPut) → Int → (List Int) → Int → Int → Int → (List SExpr) → Option Int) : (List Int) × Nat → Option (((List Int) × Nat) ⊕ ((List Int) ⊕ Int))
 | (m1,i1) =>
  if (i1:Int)<(l1_2.length:Int) then
   match l1_2[i1]? with
   | none=>none
   | some e1 =>
    match rec_pr_mean_worth lp0_0 lp0_1 sp0_2 lp0_3 sp0_4 e1.Kind e1.N e1.A with
    | none=>none
    | some r1 =>
     if m1.length<17592186044416 then
      some (.inl ((m1++[r1]),(i1+1)))
     else
      none
  else
   some (.inr (.inl m1))
def pr_mean_worth.b (K : Nat) (rec_pr_mean_worth : (List Int) → (List SPut) → Int → (List Int) → Int → Int → Int → (List SExpr) → Option Int) (lp0_0 : List Int) (lp0_1 : List SPut) (sp0_2 : Int) (lp0_3 : List Int) (sp0_4 : Int) (x1_0 : Int) (x1_1 : Int) (l1_2 : List SExpr) : Option Int :=
 match iter (pr_mean_worth.r0 lp0_0 lp0_1 sp0_2 lp0_3 sp0_4 l1_2 rec_pr_mean_worth) K (([]:List Int),0) with
 | none=>none
 | some (.inl m3) =>
  if x1_0=1 then
   some x1_1
  else
   if x1_0=2 then
    if 0≤x1_1 then
     match lp0_0[(x1_1).toNat]? with
     | none=>none
     | some e2 =>
      some e2
    else
     none
   else
    if x1_0=3 then
     if 0≤x1_1 then
      match lp0_3[(x1_1).toNat]? with
      | none=>none
      | some e3 =>
       some e3
     else
      none
    else
     if x1_0=4 then
      match m3[0]? with
      | none=>none
      | some e4 =>
       some (IntKind.i64.wrap (0-e4))
     else
      if x1_0=5 then
       match m3[0]? with
       | none=>none
       | some e5 =>
        match m3[1]? with
        | none=>none
        | some e6 =>
         some (IntKind.i64.wrap (e5+e6))
      else
       if x1_0=6 then
        match m3[0]? with
        | none=>none
        | some e7 =>
         match m3[1]? with
         | none=>none
         | some e8 =>
          some (IntKind.i64.wrap (e7-e8))
       else
        match m3[0]? with
        | none=>none
        | some e9 =>
         match m3[1]? with
         | none=>none
         | some e10 =>
          some (IntKind.i64.wrap (e9*e10))
 | some (.inr rr1) =>
  some rr1
abbrev pr_mean_worth.A0 (w0:World) (bp0:Nat) (lp0_0:List Int) (Ap0_0:OA) (cp0_0:Nat) (lp0_1:List SPut) (Ap0_1:OA) (cp0_1:Nat) (sp0_2:Int) (lp0_3:List Int) (Ap0_3:OA) (cp0_3:Nat) (sp0_4 x1_0 x1_1:Int) (l1_2:List SExpr) (A1_2:OA) (c1_2:Nat) (LT:List Own) (b1:Nat):((List Int)×Nat)→Act→World→Prop:=fun (s:(List Int)×Nat) a w=>∃ (v1:Value),St w0 w [bk b1 #[vI x1_0,vI x1_1,.slice A1_2 l1_2.length c1_2] 66,bk bp0 #[(.slice Ap0_0 lp0_0.length cp0_0),(.slice Ap0_1 lp0_1.length cp0_1),vI sp0_2,.slice Ap0_3 lp0_3.length cp0_3,vI sp0_4] 62,Own.of v1 3 s.1,ro Ap0_0 cp0_0 3 lp0_0,ro Ap0_1 cp0_1 42 lp0_1,Own.all LT]∧Frm 80 a [(0,pP bp0 0),(3,pP b1 0),(5,v1),(9,.slice A1_2 l1_2.length c1_2),(10,vI (l1_2.length:Int)),(11,vI (s.2:Int))]
abbrev pr_mean_worth.B0 (w0:World) (Z:Zone) (bp0:Nat) (lp0_0:List Int) (Ap0_0:OA) (cp0_0:Nat) (lp0_1:List SPut) (Ap0_1:OA) (cp0_1:Nat) (sp0_2:Int) (lp0_3:List Int) (Ap0_3:OA) (cp0_3:Nat) (sp0_4 x1_0 x1_1:Int) (l1_2:List SExpr) (A1_2:OA) (c1_2:Nat) (LT:List Own) (b1:Nat):((List Int) ⊕ Int)→Exit→Act→World→Prop:=Exits 0 (fun (s:(List Int)) a w=>∃ (v2:Value),St w0 w [bk b1 #[vI x1_0,vI x1_1,.slice A1_2 l1_2.length c1_2] 66,bk bp0 #[(.slice Ap0_0 lp0_0.length cp0_0),(.slice Ap0_1 lp0_1.length cp0_1),vI sp0_2,.slice Ap0_3 lp0_3.length cp0_3,vI sp0_4] 62,Own.of v2 3 s,ro Ap0_0 cp0_0 3 lp0_0,ro Ap0_1 cp0_1 42 lp0_1,Own.all LT]∧Frm 80 a [(0,pP bp0 0),(3,pP b1 0),(5,v2)]) (Rets Try.prog Try.f62 (pr_mean_worth.Post w0 Z bp0 lp0_0 Ap0_0 cp0_0 lp0_1 Ap0_1 cp0_1 sp0_2 lp0_3 Ap0_3 cp0_3 sp0_4 x1_0 x1_1 l1_2 A1_2 c1_2 LT))
theorem pr_mean_worth_r0 (K:Nat) (w0:World) (Z:Zone) (bp0:Nat) (lp0_0:List Int) (Ap0_0:OA) (cp0_0:Nat) (lp0_1:List SPut) (Ap0_1:OA) (cp0_1:Nat) (sp0_2:Int) (lp0_3:List Int) (Ap0_3:OA) (cp0_3:Nat) (sp0_4 x1_0 x1_1:Int) (l1_2:List SExpr) (A1_2:OA) (c1_2:Nat) (LT:List Own) (hZ:∀ w L,St w0 w (Own.all LT::L)→∀ w',Sub w w'→Z w') (hRp0_3:RdL w0 Ap0_3 lp0_3) (hLp0_3:lp0_3.length≤cp0_3) (hR1_2:RdZ Z A1_2 l1_2) (hL1_2:l1_2.length≤c1_2) (rec_pr_mean_worth:(List Int)→(List SPut)→Int→(List Int)→Int→Int→Int→(List SExpr)→Option Int) (hr_pr_mean_worth:pr_mean_worth.Rec rec_pr_mean_worth) (b1:Nat) (s:(List Int)×Nat) (o:((List Int)×Nat) ⊕ ((List Int) ⊕ Int)) (h:pr_mean_worth.r0 lp0_0 lp0_1 sp0_2 lp0_3 sp0_4 l1_2 rec_pr_mean_worth s=some o) (a:Act) (w:World) (hA:pr_mean_worth.A0 w0 bp0 lp0_0 Ap0_0 cp0_0 lp0_1 Ap0_1 cp0_1 sp0_2 lp0_3 Ap0_3 cp0_3 sp0_4 x1_0 x1_1 l1_2 A1_2 c1_2 LT b1 s a w) (Q:Exit→Act→World→Prop) (hQ:∀ x a w,Outs (pr_mean_worth.A0 w0 bp0 lp0_0 Ap0_0 cp0_0 lp0_1 Ap0_1 cp0_1 sp0_2 lp0_3 Ap0_3 cp0_3 sp0_4 x1_0 x1_1 l1_2 A1_2 c1_2 LT b1) (pr_mean_worth.B0 w0 Z bp0 lp0_0 Ap0_0 cp0_0 lp0_1 Ap0_1 cp0_1 sp0_2 lp0_3 Ap0_3 cp0_3 sp0_4 x1_0 x1_1 l1_2 A1_2 c1_2 LT b1) o x a w→Q x a w):(subF Try.f62 [1,1,0,1,0,0]).wp Try.prog Q a w:=by
 obtain ⟨m1,i1⟩:=s
 obtain ⟨v1,hS,hF⟩:=hA
 replace hS:St w0 w [bk b1 #[vI x1_0,vI x1_1,.slice A1_2 l1_2.length c1_2] 66,bk bp0 #[(.slice Ap0_0 lp0_0.length cp0_0),(.slice Ap0_1 lp0_1.length cp0_1),vI sp0_2,.slice Ap0_3 lp0_3.length cp0_3,vI sp0_4] 62,Own.of v1 3 m1,ro Ap0_0 cp0_0 3 lp0_0,ro Ap0_1 cp0_1 42 lp0_1,Own.all LT]:=hS
 simp only [pr_mean_worth.r0] at h
 refine (?_:WE Try.prog 80 (subF Try.f62 [1,1,0,1,0,0]) Q [(0,pP bp0 0),(3,pP b1 0),(5,v1),(9,.slice A1_2 l1_2.length c1_2),(10,vI (l1_2.length:Int)),(11,vI (i1:Int))] w) a hF
 clear hF a
 refine ws fun K5 hK5=>wr [(0,0)]<|gb0 [0] [(12,.bool (decide ((i1:Int)<(l1_2.length:Int))))]<|gn hK5<|ws fun K6 hK6=>?_
 by_cases hc1:(i1:Int)<(l1_2.length:Int)
 ·rw [if_pos hc1] at h
  refine wk 12 (decide ((i1:Int)<(l1_2.length:Int))) true (decide_eq_true hc1)<|wt<|we_skip fun a hF=>hK6 _ _ ?_ a hF
  refine ws fun K7 hK7=>we_block<|ws fun K8 hK8=>wr [(0,0),(1,0),(2,1),(3,2)] ?_
  rcases hx2:l1_2[i1]? with _ | e1
  ·rw [hx2] at h; cases h
  rw [hx2] at h
  simp only [] at h
  obtain ⟨An1,cn1,hCs1,hLn1,hRn1⟩:=SExpr.getZ hR1_2 hx2
  refine gi 13 0 64 66 3 l1_2.length c1_2 (.tmp 9) (.tmp 11) A1_2 .i64 (i1:Int) i1 (hR1_2.eqSome (hZ _ _ (hS.bring 5 rfl) _ (Sub.refl _)) (pos_of_get hx2)) rfl (lt_of_get hx2) ?_
  refine gb [1] [(14,.agg #[vI e1.Kind,vI e1.N,.slice An1 e1.A.length cn1])] [.loaded ⟨blkOf A1_2,offOf A1_2+i1*3,none⟩ (vI e1.Kind),.loaded ⟨blkOf A1_2,offOf A1_2+i1*3+1,none⟩ (vI e1.N),.loaded ⟨blkOf A1_2,offOf A1_2+i1*3+2,none⟩ (.slice An1 e1.A.length cn1)] ⟨hCs1 _ (hZ _ _ (hS.bring 5 rfl) _ (Sub.refl _)) 0 _ rfl,hCs1 _ (hZ _ _ (hS.bring 5 rfl) _ (Sub.refl _)) 1 _ rfl,hCs1 _ (hZ _ _ (hS.bring 5 rfl) _ (Sub.refl _)) 2 _ rfl,trivial⟩<|gw (some 7) (.cells #[vI 0,vI 0,.slice none 0 0] 66) (fun b=>pP b 0) hS fun b2 w2 hx3 hS9=>?_
  refine gs b2 0 #[vI 0,vI 0,.slice none 0 0] 66 [vI e1.Kind,vI e1.N,.slice An1 e1.A.length cn1] hS9 fun w3 hS10=>?_
  have hS11:=hS10.nc #[vI e1.Kind,vI e1.N,.slice An1 e1.A.length cn1] (by kernel_rfl)
  refine gn hK8<|wr [(0,0),(1,0),(2,0),(3,2),(4,1),(5,2),(6,0)]<|gb [0,1,2] [(17,.agg #[vI e1.Kind,vI e1.N,.slice An1 e1.A.length cn1]),(16,pP bp0 0),(15,v1)] [ld b2 0 (vI e1.Kind),ld b2 1 (vI e1.N),ld b2 2 (.slice An1 e1.A.length cn1)] ⟨hS11.c 0,hS11.c 0,hS11.c 0,trivial⟩ ?_
  rcases hq1:rec_pr_mean_worth lp0_0 lp0_1 sp0_2 lp0_3 sp0_4 e1.Kind e1.N e1.A with _ | r1
  ·rw [hq1] at h; cases h
  rw [hq1] at h
  simp only [] at h
  have hS16:=(((hS11.b 5).b 5).b 4).packN 3
  refine ge_call2 (m:=0) (d:=some 18) (f:=62) (args:=#[pP bp0 0,.agg #[vI e1.Kind,vI e1.N,.slice An1 e1.A.length cn1]]) (by kernel_rfl) (hr_pr_mean_worth Z bp0 lp0_0 Ap0_0 cp0_0 lp0_1 Ap0_1 cp0_1 sp0_2 lp0_3 Ap0_3 cp0_3 sp0_4 e1.Kind e1.N e1.A An1 cn1 _ _ _ hS16 (fun w L h w' k=>(hZ _ _ (h.spread.bring 3 rfl) w' k)) hRp0_3 hLp0_3 hRn1 hLn1 _ hq1) ?_
  rintro _ w4 ⟨rfl,hS15⟩
  refine ⟨_,rfl,?_⟩
  have hS17:=hS15.unpack [bk bp0 #[(.slice Ap0_0 lp0_0.length cp0_0),(.slice Ap0_1 lp0_1.length cp0_1),vI sp0_2,.slice Ap0_3 lp0_3.length cp0_3,vI sp0_4] 62,ro Ap0_0 cp0_0 3 lp0_0,ro Ap0_1 cp0_1 42 lp0_1]
  refine gw (some 19) (.cells #[vI r1] 3) (fun b=>.slice (some ⟨b,0,none⟩) 1 1) hS17 fun b3 w5 hx4 hS18=>?_
  have hS19:=hS18.b 6
  by_cases hc2:m1.length<17592186044416
  ·rw [if_pos hc2] at h
   refine ge_append (α:=Int) (m:=0) (d:=20) (t:=23) (el:=3) (bytes:=8) (c1:=1) (b1:=b3) (x:=(.tmp 15)) (y:=(.tmp 19)) (ty:=23) (v:=v1) (z:=vI 0) (l:=m1) (u:=r1) (by kernel_rfl) (by kernel_rfl) (by kernel_rfl) (by kernel_rfl) (by kernel_rfl) rfl hS19 rfl (by omega) fun v3 w6 hS20=>?_
   refine gb0 [6] [(5,v3)]<|gn hK7<|wr [(0,0),(1,0)]<|ge_addn (d:=21) (ty:=3) (x:=(.tmp 11)) (y:=(.const (vI 1))) (t:=3) (t2:=3) (k:=.i64) (m:=i1) (by kernel_rfl) (by kernel_rfl) (by kernel_rfl) (by have h0:=RdZ.small hR1_2 (hZ _ _ (hS20.bring 6 rfl) _ (Sub.refl _)); omega) ?_
   refine gb0 [1] [(11,vI ((i1+1:Nat):Int))] ?_
   have hS27:=hS20.p [5,1,0,2,3,6] rfl
   obtain rfl:=si h
   exact ge_nil fun a hF=>hQ _ _ _ (Outs.again ⟨v3,hS27,hF.weaken ea⟩)
  rw [if_neg hc2] at h
  cases h
 rw [if_neg hc1] at h
 refine wk 12 (decide ((i1:Int)<(l1_2.length:Int))) false (decide_eq_false hc1)<|wf ?_
 have hS33:=(((((hS.b 5).b 5).b 5).b 5).b 5).b 5
 obtain rfl:=si h
 exact we_exit fun a hF=>hQ _ _ _ (Outs.out nofun (Exits.here ⟨v1,hS33,hF.weaken ea⟩))
theorem pr_mean_worth_step (K:Nat) (rec_pr_mean_worth:(List Int)→(List SPut)→Int→(List Int)→Int→Int→Int→(List SExpr)→Option Int) (hr_pr_mean_worth:pr_mean_worth.Rec rec_pr_mean_worth) (Z:Zone) (bp0:Nat) (lp0_0:List Int) (Ap0_0:OA) (cp0_0:Nat) (lp0_1:List SPut) (Ap0_1:OA) (cp0_1:Nat) (sp0_2:Int) (lp0_3:List Int) (Ap0_3:OA) (cp0_3:Nat) (sp0_4 x1_0 x1_1:Int) (l1_2:List SExpr) (A1_2:OA) (c1_2:Nat) (w0 wE:World) (LT:List Own) (hS:St w0 wE [bk bp0 #[(.slice Ap0_0 lp0_0.length cp0_0),(.slice Ap0_1 lp0_1.length cp0_1),vI sp0_2,.slice Ap0_3 lp0_3.length cp0_3,vI sp0_4] 62,ro Ap0_0 cp0_0 3 lp0_0,ro Ap0_1 cp0_1 42 lp0_1,Own.all LT]) (hZ:∀ w L,St w0 w (Own.all LT::L)→∀ w',Sub w w'→Z w') (hRp0_3:RdL w0 Ap0_3 lp0_3) (hLp0_3:lp0_3.length≤cp0_3) (hR1_2:RdZ Z A1_2 l1_2) (hL1_2:l1_2.length≤c1_2) (r:Int) (h:pr_mean_worth.b K rec_pr_mean_worth lp0_0 lp0_1 sp0_2 lp0_3 sp0_4 x1_0 x1_1 l1_2=some r) :
  Calls Try.prog 62 #[pP bp0 0,.agg #[vI x1_0,vI x1_1,.slice A1_2 l1_2.length c1_2]] wE (pr_mean_worth.Post w0 Z bp0 lp0_0 Ap0_0 cp0_0 lp0_1 Ap0_1 cp0_1 sp0_2 lp0_3 Ap0_3 cp0_3 sp0_4 x1_0 x1_1 l1_2 A1_2 c1_2 LT r):=by
 unfold pr_mean_worth.b at h
 refine calls_enter (n:=80) (args:=[pP bp0 0,.agg #[vI x1_0,vI x1_1,.slice A1_2 l1_2.length c1_2]]) (fn:=Try.f62) rfl rfl rfl rfl ?_
 show WE _ _ _ _ [(0,pP bp0 0),(1,.agg #[vI x1_0,vI x1_1,.slice A1_2 l1_2.length c1_2])] _
 refine ws fun K1 hK1=>wr [(0,1),(1,0)]<|gw (some 3) (.cells #[vI x1_0,vI x1_1,.slice A1_2 l1_2.length c1_2] 66) (fun b=>pP b 0) hS fun b1 w1 hx1 hS1=>?_
 refine gb0 [1] [(4,vI 0)]<|gn hK1<|ws fun K2 hK2=>wr [(0,0)]<|gb0 [0] [(5,.slice none 0 0)]<|gn hK2<|ws fun K3 hK3=>ws fun K4 hK4=>wr [(0,0),(1,0),(2,0),(3,0)]<|gb [0,1,2,3] [(11,vI 0),(10,vI (l1_2.length:Int)),(9,.slice A1_2 l1_2.length c1_2),(8,pP b1 2)] [ld b1 2 (.slice A1_2 l1_2.length c1_2)] ⟨hS1.c 0,trivial⟩<|gn hK4<|we_block ?_
 have hS8:=((((((hS1.nil (α:=Int) 3).b 5).b 5).b 5).b 3).b 5).b 5
 rcases hq2:iter (pr_mean_worth.r0 lp0_0 lp0_1 sp0_2 lp0_3 sp0_4 l1_2 rec_pr_mean_worth) K (([]:List Int),0) with _ | (m3 | rr1)
 ·rw [hq2] at h; cases h
 ·rw [hq2] at h
  simp only [] at h
  refine we_iter (A:=pr_mean_worth.A0 w0 bp0 lp0_0 Ap0_0 cp0_0 lp0_1 Ap0_1 cp0_1 sp0_2 lp0_3 Ap0_3 cp0_3 sp0_4 x1_0 x1_1 l1_2 A1_2 c1_2 LT b1) (B:=pr_mean_worth.B0 w0 Z bp0 lp0_0 Ap0_0 cp0_0 lp0_1 Ap0_1 cp0_1 sp0_2 lp0_3 Ap0_3 cp0_3 sp0_4 x1_0 x1_1 l1_2 A1_2 c1_2 LT b1) hq2 (fun a hF=>⟨(.slice none 0 0),hS8,hF.weaken ea⟩) (fun s o hf a w hA Q hQ=>pr_mean_worth_r0 K w0 Z bp0 lp0_0 Ap0_0 cp0_0 lp0_1 Ap0_1 cp0_1 sp0_2 lp0_3 Ap0_3 cp0_3 sp0_4 x1_0 x1_1 l1_2 A1_2 c1_2 LT hZ hRp0_3 hLp0_3 hR1_2 hL1_2 rec_pr_mean_worth hr_pr_mean_worth b1 s o hf a w hA Q hQ) ?_
  rintro _ a w7 _ ⟨rfl,v4,hS34,hF⟩
  replace hS34:St w0 w7 [bk b1 #[vI x1_0,vI x1_1,.slice A1_2 l1_2.length c1_2] 66,bk bp0 #[(.slice Ap0_0 lp0_0.length cp0_0),(.slice Ap0_1 lp0_1.length cp0_1),vI sp0_2,.slice Ap0_3 lp0_3.length cp0_3,vI sp0_4] 62,Own.of v4 3 m3,ro Ap0_0 cp0_0 3 lp0_0,ro Ap0_1 cp0_1 42 lp0_1,Own.all LT]:=hS34
  refine hK3 [(0,pP bp0 0),(3,pP b1 0),(5,v4)] w7 ?_ a hF
  refine ws fun K9 hK9=>ws fun K10 hK10=>wr [(0,0),(1,0)]<|gb [0,1] [(23,vI x1_0),(22,pP b1 0)] [ld b1 0 (vI x1_0)] ⟨hS34.c 0,trivial⟩<|gn hK10<|we_block<|ws fun K11 hK11=>wr [(0,0),(1,0)]<|gb0 [0,1] [(24,.bool (x1_0==1)),(25,.bool (x1_0==1))]<|gn hK11 ?_
  by_cases hc3:x1_0=1
  ·rw [if_pos hc3] at h
   refine wk 24 (x1_0==1) true (beq_iff_eq.2 hc3)<|wt<|ws fun K12 hK12=>wr [(0,0),(1,0),(2,0)]<|gb [0,1,2] [(4,vI x1_1),(27,vI x1_1),(26,pP b1 1)] [ld b1 1 (vI x1_1)] ⟨hS34.c 0,trivial⟩<|gn hK12 ?_
   have hS39:=hS34.p [1,3,4,5] rfl
   obtain rfl:=si h
   exact we_ret (pr0 [.tmp 4] [vI x1_1] ⟨rfl,hS39⟩)
  rw [if_neg hc3] at h
  refine wk 24 (x1_0==1) false (beq_eq_false_iff_ne.2 hc3)<|wf<|ws fun K13 hK13=>wr [(0,0),(1,0)]<|gb0 [0,1] [(28,.bool (x1_0==2)),(29,.bool (x1_0==2))]<|gn hK13 ?_
  by_cases hc4:x1_0=2
  ·rw [if_pos hc4] at h
   refine wk 28 (x1_0==2) true (beq_iff_eq.2 hc4)<|wt<|ws fun K14 hK14=>we_draws (by kernel_rfl) [(0,0),(1,0),(2,0),(3,0),(4,0),(5,0),(6,0),(7,0),(8,0),(9,0)] (by kernel_rfl) ?_
   have hS40:=hS34.drew
   refine gb [0,1,2,3,4,5,6] [(36,vI x1_1),(35,pP b1 1),(34,(.slice Ap0_0 lp0_0.length cp0_0)),(33,pP bp0 0),(32,pP bp0 0),(31,pP bp0 0),(30,pP bp0 0)] [ld bp0 0 ((.slice Ap0_0 lp0_0.length cp0_0)),ld b1 1 (vI x1_1)] ⟨hS40.c 1,hS40.c 0,trivial⟩ ?_
   by_cases hc5:0≤x1_1
   ·rw [if_pos hc5] at h
    rcases hx5:lp0_0[(x1_1).toNat]? with _ | e2
    ·rw [hx5] at h; cases h
    rw [hx5] at h
    simp only [] at h
    refine gi 37 0 23 3 1 lp0_0.length cp0_0 (.tmp 34) (.tmp 36) Ap0_0 .i64 x1_1 ((x1_1).toNat) ((hS40.rdAt 3 rfl).eqSome (pos_of_get hx5)) (Int.toNat_of_nonneg hc5).symm (lt_of_get hx5) ?_
    refine gb [8,9] [(4,vI e2),(38,vI e2)] [.loaded ⟨blkOf Ap0_0,offOf Ap0_0+((x1_1).toNat)*1,none⟩ (vI e2)] ⟨RdL.cell (j:=0) (hS40.rdAt 3 rfl) hx5 rfl,trivial⟩<|gn hK14 ?_
    have hS45:=hS40.p [1,3,4,5] rfl
    obtain rfl:=si h
    exact we_ret (pr0 [.tmp 4] [vI e2] ⟨rfl,hS45⟩)
   rw [if_neg hc5] at h
   cases h
  rw [if_neg hc4] at h
  refine wk 28 (x1_0==2) false (beq_eq_false_iff_ne.2 hc4)<|wf<|ws fun K15 hK15=>wr [(0,0),(1,0)]<|gb0 [0,1] [(39,.bool (x1_0==3)),(40,.bool (x1_0==3))]<|gn hK15 ?_
  by_cases hc6:x1_0=3
  ·rw [if_pos hc6] at h
   refine wk 39 (x1_0==3) true (beq_iff_eq.2 hc6)<|wt<|ws fun K16 hK16=>we_draws (by kernel_rfl) [(0,0),(1,0),(2,0),(3,0),(4,0),(5,0),(6,0),(7,0),(8,0)] (by kernel_rfl) ?_
   have hS46:=hS34.drew
   refine gb [0,1,2,3,4,5] [(46,vI x1_1),(45,pP b1 1),(44,.slice Ap0_3 lp0_3.length cp0_3),(43,pP bp0 3),(42,pP bp0 0),(41,pP bp0 0)] [ld bp0 3 (.slice Ap0_3 lp0_3.length cp0_3),ld b1 1 (vI x1_1)] ⟨hS46.c 1,hS46.c 0,trivial⟩ ?_
   by_cases hc7:0≤x1_1
   ·rw [if_pos hc7] at h
    rcases hx6:lp0_3[(x1_1).toNat]? with _ | e3
    ·rw [hx6] at h; cases h
    rw [hx6] at h
    simp only [] at h
    refine gi 47 0 23 3 1 lp0_3.length cp0_3 (.tmp 44) (.tmp 46) Ap0_3 .i64 x1_1 ((x1_1).toNat) ((hS46.rd hRp0_3).eqSome (pos_of_get hx6)) (Int.toNat_of_nonneg hc7).symm (lt_of_get hx6) ?_
    refine gb [7,8] [(4,vI e3),(48,vI e3)] [.loaded ⟨blkOf Ap0_3,offOf Ap0_3+((x1_1).toNat)*1,none⟩ (vI e3)] ⟨RdL.cell (j:=0) (hS46.rd hRp0_3) hx6 rfl,trivial⟩<|gn hK16 ?_
    have hS51:=hS46.p [1,3,4,5] rfl
    obtain rfl:=si h
    exact we_ret (pr0 [.tmp 4] [vI e3] ⟨rfl,hS51⟩)
   rw [if_neg hc7] at h
   cases h
  rw [if_neg hc6] at h
  refine wk 39 (x1_0==3) false (beq_eq_false_iff_ne.2 hc6)<|wf<|ws fun K17 hK17=>wr [(0,0),(1,0)]<|gb0 [0,1] [(49,.bool (x1_0==4)),(50,.bool (x1_0==4))]<|gn hK17 ?_
  by_cases hc8:x1_0=4
  ·rw [if_pos hc8] at h
   refine wk 49 (x1_0==4) true (beq_iff_eq.2 hc8)<|wt<|ws fun K18 hK18=>wr [(0,0),(1,0),(2,0),(3,0),(4,0)]<|gb0 [0] [(51,v4)] ?_
   obtain ⟨Z1,cz1,rfl⟩:=hS34.open 2 rfl
   rcases hx7:m3[0]? with _ | e4
   ·rw [hx7] at h; cases h
   rw [hx7] at h
   simp only [] at h
   refine gi 52 0 23 3 1 m3.length cz1 (.tmp 51) (.const (vI 0)) Z1 .i64 0 0 ((hS34.rdAt 2 rfl).eqSome (pos_of_get hx7)) rfl (lt_of_get hx7) ?_
   refine gb [2,3,4] [(4,vI (IntKind.i64.wrap (0-e4))),(54,vI (IntKind.i64.wrap (0-e4))),(53,vI e4)] [.loaded ⟨blkOf Z1,offOf Z1+0*1,none⟩ (vI e4)] ⟨RdL.cell (j:=0) (hS34.rdAt 2 rfl) hx7 rfl,trivial⟩<|gn hK18 ?_
   have hS56:=hS34.p [1,3,4,5] rfl
   obtain rfl:=si h
   exact we_ret (pr0 [.tmp 4] [vI (IntKind.i64.wrap (0-e4))] ⟨rfl,hS56⟩)
  rw [if_neg hc8] at h
  refine wk 49 (x1_0==4) false (beq_eq_false_iff_ne.2 hc8)<|wf<|ws fun K19 hK19=>wr [(0,0),(1,0)]<|gb0 [0,1] [(55,.bool (x1_0==5)),(56,.bool (x1_0==5))]<|gn hK19 ?_
  by_cases hc9:x1_0=5
  ·rw [if_pos hc9] at h
   refine wk 55 (x1_0==5) true (beq_iff_eq.2 hc9)<|wt<|ws fun K20 hK20=>we_draws (by kernel_rfl) [(0,0),(1,0),(2,0),(3,0),(4,0),(5,0),(6,0),(7,0)] (by kernel_rfl) ?_
   have hS57:=hS34.drew
   refine gb0 [0] [(57,v4)] ?_
   obtain ⟨Z2,cz2,rfl⟩:=hS57.open 2 rfl
   rcases hx8:m3[0]? with _ | e5
   ·rw [hx8] at h; cases h
   rw [hx8] at h
   simp only [] at h
   refine gi 58 0 23 3 1 m3.length cz2 (.tmp 57) (.const (vI 0)) Z2 .i64 0 0 ((hS57.rdAt 2 rfl).eqSome (pos_of_get hx8)) rfl (lt_of_get hx8) ?_
   refine gb [2,3] [(60,(.slice Z2 m3.length cz2)),(59,vI e5)] [.loaded ⟨blkOf Z2,offOf Z2+0*1,none⟩ (vI e5)] ⟨RdL.cell (j:=0) (hS57.rdAt 2 rfl) hx8 rfl,trivial⟩ ?_
   rcases hx9:m3[1]? with _ | e6
   ·rw [hx9] at h; cases h
   rw [hx9] at h
   simp only [] at h
   refine gi 61 0 23 3 1 m3.length cz2 (.tmp 60) (.const (vI 1)) Z2 .i64 1 1 ((hS57.rdAt 2 rfl).eqSome (pos_of_get hx9)) rfl (lt_of_get hx9) ?_
   refine gb [5,6,7] [(4,vI (IntKind.i64.wrap (e5+e6))),(63,vI (IntKind.i64.wrap (e5+e6))),(62,vI e6)] [.loaded ⟨blkOf Z2,offOf Z2+1*1,none⟩ (vI e6)] ⟨RdL.cell (j:=0) (hS57.rdAt 2 rfl) hx9 rfl,trivial⟩<|gn hK20 ?_
   have hS62:=hS57.p [1,3,4,5] rfl
   obtain rfl:=si h
   exact we_ret (pr0 [.tmp 4] [vI (IntKind.i64.wrap (e5+e6))] ⟨rfl,hS62⟩)
  rw [if_neg hc9] at h
  refine wk 55 (x1_0==5) false (beq_eq_false_iff_ne.2 hc9)<|wf<|ws fun K21 hK21=>wr [(0,0),(1,0)]<|gb0 [0,1] [(64,.bool (x1_0==6)),(65,.bool (x1_0==6))]<|gn hK21 ?_
  by_cases hc10:x1_0=6
  ·rw [if_pos hc10] at h
   refine wk 64 (x1_0==6) true (beq_iff_eq.2 hc10)<|wt<|ws fun K22 hK22=>we_draws (by kernel_rfl) [(0,0),(1,0),(2,0),(3,0),(4,0),(5,0),(6,0),(7,0)] (by kernel_rfl) ?_
   have hS63:=hS34.drew
   refine gb0 [0] [(66,v4)] ?_
   obtain ⟨Z3,cz3,rfl⟩:=hS63.open 2 rfl
   rcases hx10:m3[0]? with _ | e7
   ·rw [hx10] at h; cases h
   rw [hx10] at h
   simp only [] at h
   refine gi 67 0 23 3 1 m3.length cz3 (.tmp 66) (.const (vI 0)) Z3 .i64 0 0 ((hS63.rdAt 2 rfl).eqSome (pos_of_get hx10)) rfl (lt_of_get hx10) ?_
   refine gb [2,3] [(69,(.slice Z3 m3.length cz3)),(68,vI e7)] [.loaded ⟨blkOf Z3,offOf Z3+0*1,none⟩ (vI e7)] ⟨RdL.cell (j:=0) (hS63.rdAt 2 rfl) hx10 rfl,trivial⟩ ?_
   rcases hx11:m3[1]? with _ | e8
   ·rw [hx11] at h; cases h
   rw [hx11] at h
   simp only [] at h
   refine gi 70 0 23 3 1 m3.length cz3 (.tmp 69) (.const (vI 1)) Z3 .i64 1 1 ((hS63.rdAt 2 rfl).eqSome (pos_of_get hx11)) rfl (lt_of_get hx11) ?_
   refine gb [5,6,7] [(4,vI (IntKind.i64.wrap (e7-e8))),(72,vI (IntKind.i64.wrap (e7-e8))),(71,vI e8)] [.loaded ⟨blkOf Z3,offOf Z3+1*1,none⟩ (vI e8)] ⟨RdL.cell (j:=0) (hS63.rdAt 2 rfl) hx11 rfl,trivial⟩<|gn hK22 ?_
   have hS68:=hS63.p [1,3,4,5] rfl
   obtain rfl:=si h
   exact we_ret (pr0 [.tmp 4] [vI (IntKind.i64.wrap (e7-e8))] ⟨rfl,hS68⟩)
  rw [if_neg hc10] at h
  refine wk 64 (x1_0==6) false (beq_eq_false_iff_ne.2 hc10)<|wf<|we_skip fun a hF=>hK9 _ _ ?_ a hF
  refine ws fun K23 hK23=>we_draws (by kernel_rfl) [(0,0),(1,0),(2,0),(3,0),(4,0),(5,0),(6,0),(7,0)] (by kernel_rfl) ?_
  have hS69:=hS34.drew
  refine gb0 [0] [(73,v4)] ?_
  obtain ⟨Z4,cz4,rfl⟩:=hS69.open 2 rfl
  rcases hx12:m3[0]? with _ | e9
  ·rw [hx12] at h; cases h
  rw [hx12] at h
  simp only [] at h
  refine gi 74 0 23 3 1 m3.length cz4 (.tmp 73) (.const (vI 0)) Z4 .i64 0 0 ((hS69.rdAt 2 rfl).eqSome (pos_of_get hx12)) rfl (lt_of_get hx12) ?_
  refine gb [2,3] [(76,(.slice Z4 m3.length cz4)),(75,vI e9)] [.loaded ⟨blkOf Z4,offOf Z4+0*1,none⟩ (vI e9)] ⟨RdL.cell (j:=0) (hS69.rdAt 2 rfl) hx12 rfl,trivial⟩ ?_
  rcases hx13:m3[1]? with _ | e10
  ·rw [hx13] at h; cases h
  rw [hx13] at h
  simp only [] at h
  refine gi 77 0 23 3 1 m3.length cz4 (.tmp 76) (.const (vI 1)) Z4 .i64 1 1 ((hS69.rdAt 2 rfl).eqSome (pos_of_get hx13)) rfl (lt_of_get hx13) ?_
  refine gb [5,6,7] [(4,vI (IntKind.i64.wrap (e9*e10))),(79,vI (IntKind.i64.wrap (e9*e10))),(78,vI e10)] [.loaded ⟨blkOf Z4,offOf Z4+1*1,none⟩ (vI e10)] ⟨RdL.cell (j:=0) (hS69.rdAt 2 rfl) hx13 rfl,trivial⟩<|gn hK23 ?_
  have hS74:=hS69.p [1,3,4,5] rfl
  obtain rfl:=si h
  exact we_ret (pr0 [.tmp 4] [vI (IntKind.i64.wrap (e9*e10))] ⟨rfl,hS74⟩)
 rw [hq2] at h
 simp only [] at h
 refine we_iter (A:=pr_mean_worth.A0 w0 bp0 lp0_0 Ap0_0 cp0_0 lp0_1 Ap0_1 cp0_1 sp0_2 lp0_3 Ap0_3 cp0_3 sp0_4 x1_0 x1_1 l1_2 A1_2 c1_2 LT b1) (B:=pr_mean_worth.B0 w0 Z bp0 lp0_0 Ap0_0 cp0_0 lp0_1 Ap0_1 cp0_1 sp0_2 lp0_3 Ap0_3 cp0_3 sp0_4 x1_0 x1_1 l1_2 A1_2 c1_2 LT b1) hq2 (fun a hF=>⟨(.slice none 0 0),hS8,hF.weaken ea⟩) (fun s o hf a w hA Q hQ=>pr_mean_worth_r0 K w0 Z bp0 lp0_0 Ap0_0 cp0_0 lp0_1 Ap0_1 cp0_1 sp0_2 lp0_3 Ap0_3 cp0_3 sp0_4 x1_0 x1_1 l1_2 A1_2 c1_2 LT hZ hRp0_3 hLp0_3 hR1_2 hL1_2 rec_pr_mean_worth hr_pr_mean_worth b1 s o hf a w hA Q hQ) ?_
 rintro _ a w1 _ ⟨rfl,hb⟩
 obtain rfl:=si h
 exact hb
def pr_mean_worth.recs (K : Nat) : Nat → ((List Int) → (List SPut) → Int → (List Int) → Int → Int → Int → (List SExpr) → Option Int)
 | 0=>fun _ _ _ _ _ _ _ _=>none
 | n+1=>pr_mean_worth.b K (pr_mean_worth.recs K n)
theorem pr_mean_worth_all (K n:Nat):pr_mean_worth.Rec (pr_mean_worth.recs K n):=by
 induction n with
 | zero=>exact (by unfold pr_mean_worth.Rec; intros; rename_i h; cases (show none=some _ from h))
 | succ n ih=>exact pr_mean_worth_step K _ ih
def pr_mean_worth.f (K : Nat) (lp0_0 : List Int) (lp0_1 : List SPut) (sp0_2 : Int) (lp0_3 : List Int) (sp0_4 : Int) (x1_0 : Int) (x1_1 : Int) (l1_2 : List SExpr) : Option Int := (pr_mean_worth.recs K K) lp0_0 lp0_1 sp0_2 lp0_3 sp0_4 x1_0 x1_1 l1_2
theorem pr_mean_worth_ok (K:Nat) (Z:Zone) (bp0:Nat) (lp0_0:List Int) (Ap0_0:OA) (cp0_0:Nat) (lp0_1:List SPut) (Ap0_1:OA) (cp0_1:Nat) (sp0_2:Int) (lp0_3:List Int) (Ap0_3:OA) (cp0_3:Nat) (sp0_4 x1_0 x1_1:Int) (l1_2:List SExpr) (A1_2:OA) (c1_2:Nat) (w0 wE:World) (LT:List Own) (hS:St w0 wE [bk bp0 #[(.slice Ap0_0 lp0_0.length cp0_0),(.slice Ap0_1 lp0_1.length cp0_1),vI sp0_2,.slice Ap0_3 lp0_3.length cp0_3,vI sp0_4] 62,ro Ap0_0 cp0_0 3 lp0_0,ro Ap0_1 cp0_1 42 lp0_1,Own.all LT]) (hZ:∀ w L,St w0 w (Own.all LT::L)→∀ w',Sub w w'→Z w') (hRp0_3:RdL w0 Ap0_3 lp0_3) (hLp0_3:lp0_3.length≤cp0_3) (hR1_2:RdZ Z A1_2 l1_2) (hL1_2:l1_2.length≤c1_2) (r:Int) (h:pr_mean_worth.f K lp0_0 lp0_1 sp0_2 lp0_3 sp0_4 x1_0 x1_1 l1_2=some r):Calls Try.prog 62 #[pP bp0 0,.agg #[vI x1_0,vI x1_1,.slice A1_2 l1_2.length c1_2]] wE (pr_mean_worth.Post w0 Z bp0 lp0_0 Ap0_0 cp0_0 lp0_1 Ap0_1 cp0_1 sp0_2 lp0_3 Ap0_3 cp0_3 sp0_4 x1_0 x1_1 l1_2 A1_2 c1_2 LT r):=(pr_mean_worth_all K K) Z bp0 lp0_0 Ap0_0 cp0_0 lp0_1 Ap0_1 cp0_1 sp0_2 lp0_3 Ap0_3 cp0_3 sp0_4 x1_0 x1_1 l1_2 A1_2 c1_2 w0 wE LT hS hZ hRp0_3 hLp0_3 hR1_2 hL1_2 r h

/-! (*punctual/punctualref.mean).true -/
abbrev pr_mean_true.Post (w0:World) (Z:Zone) (bp0:Nat) (lp0_0:List Int) (Ap0_0:OA) (cp0_0:Nat) (lp0_1:List SPut) (Ap0_1:OA) (cp0_1:Nat) (sp0_2:Int) (lp0_3:List Int) (Ap0_3:OA) (cp0_3:Nat) (sp0_4 x1_0 x1_1_0 x1_1_1:Int) (l1_1_2:List SExpr) (A1_1_2:OA) (c1_1_2:Nat) (x1_2_0 x1_2_1:Int) (l1_2_2:List SExpr) (A1_2_2:OA) (c1_2_2:Nat) (LT:List Own) (r:Bool) (e:Ending) (w:World):Prop:=e=.returned (.bool r)∧St w0 w [bk bp0 #[(.slice Ap0_0 lp0_0.length cp0_0),(.slice Ap0_1 lp0_1.length cp0_1),vI sp0_2,.slice Ap0_3 lp0_3.length cp0_3,vI sp0_4] 62,ro Ap0_0 cp0_0 3 lp0_0,ro Ap0_1 cp0_1 42 lp0_1,Own.all LT]
def pr_mean_true.p0 (K : Nat) (lp0_0 : List Int) (lp0_1 : List SPut) (sp0_2 : Int) (lp0_3 : List Int) (sp0_4 : Int) (x1_1_0 : Int) (x1_1_1 : Int) (l1_1_2 : List SExpr) (x1_2_0 : Int) (x1_2_1 : Int) (l1_2_2 : List SExpr) : Option ((Int × Int) ⊕ Bool) :=
  match pr_mean_worth.f K lp0_0 lp0_1 sp0_2 lp0_3 sp0_4 x1_1_0 x1_1_1 l1_1_2 with
  | none=>none
  | some r1 =>
   match pr_mean_worth.f K lp0_0 lp0_1 sp0_2 lp0_3 sp0_4 x1_2_0 x1_2_1 l1_2_2 with
   | none=>none
   | some r2 =>
    some (.inl (r1,r2))
def pr_mean_true.f (K : Nat) (lp0_0 : List Int) (lp0_1 : List SPut) (sp0_2 : Int) (lp0_3 : List Int) (sp0_4 : Int) (x1_0 : Int) (x1_1_0 : Int) (x1_1_1 : Int) (l1_1_2 : List SExpr) (x1_2_0 : Int) (x1_2_1 : Int) (l1_2_2 : List SExpr) : Option Bool :=
 match pr_mean_true.p0 K lp0_0 lp0_1 sp0_2 lp0_3 sp0_4 x1_1_0 x1_1_1 l1_1_2 x1_2_0 x1_2_1 l1_2_2 with
 | none=>none
 | some (.inl (z3,z4)) =>
  if 0≤x1_0 then
   match ([false,decide (z3<z4),(z3==z4),(z3 != z4),decide (z3 ≥ z4)]:List Bool)[(x1_0).toNat]? with
   | none=>none
   | some e1 =>
    some e1
  else
   none
 | some (.inr rr1) =>
  some rr1
abbrev pr_mean_true.A0 (w0:World) (bp0:Nat) (lp0_0:List Int) (Ap0_0:OA) (cp0_0:Nat) (lp0_1:List SPut) (Ap0_1:OA) (cp0_1:Nat) (sp0_2:Int) (lp0_3:List Int) (Ap0_3:OA) (cp0_3:Nat) (sp0_4 x1_0 x1_1_0 x1_1_1:Int) (l1_1_2:List SExpr) (A1_1_2:OA) (c1_1_2:Nat) (x1_2_0 x1_2_1:Int) (l1_2_2:List SExpr) (A1_2_2:OA) (c1_2_2:Nat) (LT:List Own) (b1:Nat):(Int×Int)→Act→World→Prop:=fun (s:Int×Int) a w=>St w0 w [bk b1 #[vI x1_0,vI x1_1_0,vI x1_1_1,.slice A1_1_2 l1_1_2.length c1_1_2,vI x1_2_0,vI x1_2_1,.slice A1_2_2 l1_2_2.length c1_2_2] 68,bk bp0 #[(.slice Ap0_0 lp0_0.length cp0_0),(.slice Ap0_1 lp0_1.length cp0_1),vI sp0_2,.slice Ap0_3 lp0_3.length cp0_3,vI sp0_4] 62,ro Ap0_0 cp0_0 3 lp0_0,ro Ap0_1 cp0_1 42 lp0_1,Own.all LT]∧Frm 32 a [(0,pP bp0 0),(3,pP b1 0),(5,vI s.1),(6,vI s.2)]
abbrev pr_mean_true.B0 (w0:World) (Z:Zone) (bp0:Nat) (lp0_0:List Int) (Ap0_0:OA) (cp0_0:Nat) (lp0_1:List SPut) (Ap0_1:OA) (cp0_1:Nat) (sp0_2:Int) (lp0_3:List Int) (Ap0_3:OA) (cp0_3:Nat) (sp0_4 x1_0 x1_1_0 x1_1_1:Int) (l1_1_2:List SExpr) (A1_1_2:OA) (c1_1_2:Nat) (x1_2_0 x1_2_1:Int) (l1_2_2:List SExpr) (A1_2_2:OA) (c1_2_2:Nat) (LT:List Own):Bool→Exit→Act→World→Prop:=Rets Try.prog Try.f63 (pr_mean_true.Post w0 Z bp0 lp0_0 Ap0_0 cp0_0 lp0_1 Ap0_1 cp0_1 sp0_2 lp0_3 Ap0_3 cp0_3 sp0_4 x1_0 x1_1_0 x1_1_1 l1_1_2 A1_1_2 c1_1_2 x1_2_0 x1_2_1 l1_2_2 A1_2_2 c1_2_2 LT)
theorem pr_mean_true_p0 (K:Nat) (w0:World) (Z:Zone) (bp0:Nat) (lp0_0:List Int) (Ap0_0:OA) (cp0_0:Nat) (lp0_1:List SPut) (Ap0_1:OA) (cp0_1:Nat) (sp0_2:Int) (lp0_3:List Int) (Ap0_3:OA) (cp0_3:Nat) (sp0_4 x1_0 x1_1_0 x1_1_1:Int) (l1_1_2:List SExpr) (A1_1_2:OA) (c1_1_2:Nat) (x1_2_0 x1_2_1:Int) (l1_2_2:List SExpr) (A1_2_2:OA) (c1_2_2:Nat) (LT:List Own) (hZ:∀ w L,St w0 w (Own.all LT::L)→∀ w',Sub w w'→Z w') (hRp0_3:RdL w0 Ap0_3 lp0_3) (hLp0_3:lp0_3.length≤cp0_3) (hR1_1_2:RdZ Z A1_1_2 l1_1_2) (hL1_1_2:l1_1_2.length≤c1_1_2) (hR1_2_2:RdZ Z A1_2_2 l1_2_2) (hL1_2_2:l1_2_2.length≤c1_2_2) (b1:Nat) (o:(Int×Int) ⊕ Bool) (h:pr_mean_true.p0 K lp0_0 lp0_1 sp0_2 lp0_3 sp0_4 x1_1_0 x1_1_1 l1_1_2 x1_2_0 x1_2_1 l1_2_2=some o) (w:World) (hS:St w0 w [bk b1 #[vI x1_0,vI x1_1_0,vI x1_1_1,.slice A1_1_2 l1_1_2.length c1_1_2,vI x1_2_0,vI x1_2_1,.slice A1_2_2 l1_2_2.length c1_2_2] 68,bk bp0 #[(.slice Ap0_0 lp0_0.length cp0_0),(.slice Ap0_1 lp0_1.length cp0_1),vI sp0_2,.slice Ap0_3 lp0_3.length cp0_3,vI sp0_4] 62,ro Ap0_0 cp0_0 3 lp0_0,ro Ap0_1 cp0_1 42 lp0_1,Own.all LT]) (Q:Exit→Act→World→Prop) (hQ:∀ x a w,Outs (pr_mean_true.A0 w0 bp0 lp0_0 Ap0_0 cp0_0 lp0_1 Ap0_1 cp0_1 sp0_2 lp0_3 Ap0_3 cp0_3 sp0_4 x1_0 x1_1_0 x1_1_1 l1_1_2 A1_1_2 c1_1_2 x1_2_0 x1_2_1 l1_2_2 A1_2_2 c1_2_2 LT b1) (pr_mean_true.B0 w0 Z bp0 lp0_0 Ap0_0 cp0_0 lp0_1 Ap0_1 cp0_1 sp0_2 lp0_3 Ap0_3 cp0_3 sp0_4 x1_0 x1_1_0 x1_1_1 l1_1_2 A1_1_2 c1_1_2 x1_2_0 x1_2_1 l1_2_2 A1_2_2 c1_2_2 LT) o x a w→Q x a w):WE Try.prog 32 (subF Try.f63 [1,0]) Q [(0,pP bp0 0),(1,.agg #[vI x1_0,vI x1_1_0,vI x1_1_1,.slice A1_1_2 l1_1_2.length c1_1_2,vI x1_2_0,vI x1_2_1,.slice A1_2_2 l1_2_2.length c1_2_2]),(3,pP b1 0),(4,.bool false)] w:=by
 simp only [pr_mean_true.p0] at h
 refine we_orders3 (by kernel_rfl) [(2,[⟨b1,1,none⟩,⟨b1,2,none⟩,⟨b1,3,none⟩],[3,7],[]),(6,[⟨b1,4,none⟩,⟨b1,5,none⟩,⟨b1,6,none⟩],[],[])] (.vals [0] (.vals [1] (.vals [2] (.vals [4] (.vals [5] (.vals [6] (.alt 3 2 (.alt 7 2 (.vals [8] (.vals [9] .fin)) .nomore) .nomore))))))) (by kernel_rfl) (by kernel_rfl) ?_
 have hS2:=hS.drew
 refine g30 [0,1] [(8,pP b1 1),(7,pP bp0 0)]<|g3 2 [(9,.agg #[vI x1_1_0,vI x1_1_1,.slice A1_1_2 l1_1_2.length c1_1_2])] [ld b1 1 (vI x1_1_0),ld b1 2 (vI x1_1_1),ld b1 3 (.slice A1_1_2 l1_1_2.length c1_1_2)] ⟨hS2.c 0,hS2.c 0,hS2.c 0,trivial⟩<|g30 [4,5] [(12,pP b1 4),(11,pP bp0 0)]<|g3 6 [(13,.agg #[vI x1_2_0,vI x1_2_1,.slice A1_2_2 l1_2_2.length c1_2_2])] [ld b1 4 (vI x1_2_0),ld b1 5 (vI x1_2_1),ld b1 6 (.slice A1_2_2 l1_2_2.length c1_2_2)] ⟨hS2.c 0,hS2.c 0,hS2.c 0,trivial⟩<|go_alt3 (fun KK hKK=>?_) ?_
 ·rcases hq1:pr_mean_worth.f K lp0_0 lp0_1 sp0_2 lp0_3 sp0_4 x1_1_0 x1_1_1 l1_1_2 with _ | r1
  ·rw [hq1] at h; cases h
  rw [hq1] at h
  simp only [] at h
  have hS7:=(((hS2.b 3).b 3).b 3).packN 3
  refine ge_call2 (m:=0) (d:=some 10) (f:=62) (args:=#[pP bp0 0,.agg #[vI x1_1_0,vI x1_1_1,.slice A1_1_2 l1_1_2.length c1_1_2]]) (by kernel_rfl) (pr_mean_worth_ok K Z bp0 lp0_0 Ap0_0 cp0_0 lp0_1 Ap0_1 cp0_1 sp0_2 lp0_3 Ap0_3 cp0_3 sp0_4 x1_1_0 x1_1_1 l1_1_2 A1_1_2 c1_1_2 _ _ _ hS7 (fun w L h w' k=>(hZ _ _ (h.spread.bring 1 rfl) w' k)) hRp0_3 hLp0_3 hR1_1_2 hL1_1_2 _ hq1) ?_
  rintro _ w2 ⟨rfl,hS6⟩
  refine ⟨_,rfl,?_⟩
  have hS8:=hS6.unpack [bk bp0 #[(.slice Ap0_0 lp0_0.length cp0_0),(.slice Ap0_1 lp0_1.length cp0_1),vI sp0_2,.slice Ap0_3 lp0_3.length cp0_3,vI sp0_4] 62,ro Ap0_0 cp0_0 3 lp0_0,ro Ap0_1 cp0_1 42 lp0_1]
  refine ge_nil fun a hF=>hKK _ _ (RS.of2 (l:=[ld b1 4 (vI x1_2_0),ld b1 5 (vI x1_2_1),ld b1 6 (.slice A1_2_2 l1_2_2.length c1_2_2)]) (by kernel_rfl) ⟨hS2.c 0,hS2.c 0,hS2.c 0,trivial⟩ ⟨hS8.c 3,hS8.c 3,hS8.c 3,trivial⟩) ?_ a hF
  refine go_alt3 (fun KK hKK=>?_) ?_
  ·rcases hq2:pr_mean_worth.f K lp0_0 lp0_1 sp0_2 lp0_3 sp0_4 x1_2_0 x1_2_1 l1_2_2 with _ | r2
   ·rw [hq2] at h; cases h
   rw [hq2] at h
   simp only [] at h
   have hS13:=(((hS8.b 2).b 2).b 2).packN 3
   refine ge_call2 (m:=0) (d:=some 14) (f:=62) (args:=#[pP bp0 0,.agg #[vI x1_2_0,vI x1_2_1,.slice A1_2_2 l1_2_2.length c1_2_2]]) (by kernel_rfl) (pr_mean_worth_ok K Z bp0 lp0_0 Ap0_0 cp0_0 lp0_1 Ap0_1 cp0_1 sp0_2 lp0_3 Ap0_3 cp0_3 sp0_4 x1_2_0 x1_2_1 l1_2_2 A1_2_2 c1_2_2 _ _ _ hS13 (fun w L h w' k=>(hZ _ _ (h.spread.bring 1 rfl) w' k)) hRp0_3 hLp0_3 hR1_2_2 hL1_2_2 _ hq2) ?_
   rintro _ w3 ⟨rfl,hS12⟩
   refine ⟨_,rfl,?_⟩
   have hS14:=hS12.unpack [bk bp0 #[(.slice Ap0_0 lp0_0.length cp0_0),(.slice Ap0_1 lp0_1.length cp0_1),vI sp0_2,.slice Ap0_3 lp0_3.length cp0_3,vI sp0_4] 62,ro Ap0_0 cp0_0 3 lp0_0,ro Ap0_1 cp0_1 42 lp0_1]
   refine g2 hKK<|g30 [8,9] [(6,vI r2),(5,vI r1)] ?_
   have hS19:=((((hS14.b 4).b 3).b 3).b 3).b 4
   obtain rfl:=si h
   exact go_fin3 fun a hF=>hQ _ _ _ (Outs.again ⟨hS19,hF.weaken ea⟩)
  exact go_nomore3
 exact go_nomore3
theorem pr_mean_true_ok (K:Nat) (Z:Zone) (bp0:Nat) (lp0_0:List Int) (Ap0_0:OA) (cp0_0:Nat) (lp0_1:List SPut) (Ap0_1:OA) (cp0_1:Nat) (sp0_2:Int) (lp0_3:List Int) (Ap0_3:OA) (cp0_3:Nat) (sp0_4 x1_0 x1_1_0 x1_1_1:Int) (l1_1_2:List SExpr) (A1_1_2:OA) (c1_1_2:Nat) (x1_2_0 x1_2_1:Int) (l1_2_2:List SExpr) (A1_2_2:OA) (c1_2_2:Nat) (w0 wE:World) (LT:List Own) (hS:St w0 wE [bk bp0 #[(.slice Ap0_0 lp0_0.length cp0_0),(.slice Ap0_1 lp0_1.length cp0_1),vI sp0_2,.slice Ap0_3 lp0_3.length cp0_3,vI sp0_4] 62,ro Ap0_0 cp0_0 3 lp0_0,ro Ap0_1 cp0_1 42 lp0_1,Own.all LT]) (hZ:∀ w L,St w0 w (Own.all LT::L)→∀ w',Sub w w'→Z w') (hRp0_3:RdL w0 Ap0_3 lp0_3) (hLp0_3:lp0_3.length≤cp0_3) (hR1_1_2:RdZ Z A1_1_2 l1_1_2) (hL1_1_2:l1_1_2.length≤c1_1_2) (hR1_2_2:RdZ Z A1_2_2 l1_2_2) (hL1_2_2:l1_2_2.length≤c1_2_2) (r:Bool) (h:pr_mean_true.f K lp0_0 lp0_1 sp0_2 lp0_3 sp0_4 x1_0 x1_1_0 x1_1_1 l1_1_2 x1_2_0 x1_2_1 l1_2_2=some r) :
  Calls Try.prog 63 #[pP bp0 0,.agg #[vI x1_0,vI x1_1_0,vI x1_1_1,.slice A1_1_2 l1_1_2.length c1_1_2,vI x1_2_0,vI x1_2_1,.slice A1_2_2 l1_2_2.length c1_2_2]] wE (pr_mean_true.Post w0 Z bp0 lp0_0 Ap0_0 cp0_0 lp0_1 Ap0_1 cp0_1 sp0_2 lp0_3 Ap0_3 cp0_3 sp0_4 x1_0 x1_1_0 x1_1_1 l1_1_2 A1_1_2 c1_1_2 x1_2_0 x1_2_1 l1_2_2 A1_2_2 c1_2_2 LT r):=by
 unfold pr_mean_true.f at h
 refine calls_enter (n:=32) (args:=[pP bp0 0,.agg #[vI x1_0,vI x1_1_0,vI x1_1_1,.slice A1_1_2 l1_1_2.length c1_1_2,vI x1_2_0,vI x1_2_1,.slice A1_2_2 l1_2_2.length c1_2_2]]) (fn:=Try.f63) rfl rfl rfl rfl ?_
 show WE _ _ _ _ [(0,pP bp0 0),(1,.agg #[vI x1_0,vI x1_1_0,vI x1_1_1,.slice A1_1_2 l1_1_2.length c1_1_2,vI x1_2_0,vI x1_2_1,.slice A1_2_2 l1_2_2.length c1_2_2])] _
 refine ws fun K1 hK1=>wr [(0,1),(1,0)]<|gw (some 3) (.cells #[vI x1_0,vI x1_1_0,vI x1_1_1,.slice A1_1_2 l1_1_2.length c1_1_2,vI x1_2_0,vI x1_2_1,.slice A1_2_2 l1_2_2.length c1_2_2] 68) (fun b=>pP b 0) hS fun b1 w1 hx1 hS1=>?_
 refine gb0 [1] [(4,.bool false)]<|gn hK1<|ws fun K2 hK2=>?_
 rcases hq3:pr_mean_true.p0 K lp0_0 lp0_1 sp0_2 lp0_3 sp0_4 x1_1_0 x1_1_1 l1_1_2 x1_2_0 x1_2_1 l1_2_2 with _ | (⟨z3,z4⟩ | rr1)
 ·rw [hq3] at h; cases h
 ·rw [hq3] at h
  simp only [] at h
  refine kp (pr_mean_true_p0 K w0 Z bp0 lp0_0 Ap0_0 cp0_0 lp0_1 Ap0_1 cp0_1 sp0_2 lp0_3 Ap0_3 cp0_3 sp0_4 x1_0 x1_1_0 x1_1_1 l1_1_2 A1_1_2 c1_1_2 x1_2_0 x1_2_1 l1_2_2 A1_2_2 c1_2_2 LT hZ hRp0_3 hLp0_3 hR1_1_2 hL1_1_2 hR1_2_2 hL1_2_2 b1 _ hq3 _ hS1 _ ?_)
  rintro _ a w4 ⟨rfl,hS20,hF⟩
  replace hS20:St w0 w4 [bk b1 #[vI x1_0,vI x1_1_0,vI x1_1_1,.slice A1_1_2 l1_1_2.length c1_1_2,vI x1_2_0,vI x1_2_1,.slice A1_2_2 l1_2_2.length c1_2_2] 68,bk bp0 #[(.slice Ap0_0 lp0_0.length cp0_0),(.slice Ap0_1 lp0_1.length cp0_1),vI sp0_2,.slice Ap0_3 lp0_3.length cp0_3,vI sp0_4] 62,ro Ap0_0 cp0_0 3 lp0_0,ro Ap0_1 cp0_1 42 lp0_1,Own.all LT]:=hS20
  refine hK2 [(0,pP bp0 0),(3,pP b1 0),(5,vI z3),(6,vI z4)] w4 ?_ a hF
  refine ws fun K3 hK3=>wr [(0,0),(1,0),(2,0),(3,0),(4,0),(5,0),(6,0),(7,0),(8,0),(9,0),(10,0),(11,0),(12,1),(13,0),(14,0),(15,0),(16,0),(17,0)]<|gb0 [0,1,2,3,4,5,6,7,8,9,10,11] [(26,.bool (decide (z3 ≥ z4))),(25,vI z4),(24,vI z3),(23,.bool (z3 != z4)),(22,vI z4),(21,vI z3),(20,.bool (z3==z4)),(19,vI z4),(18,vI z3),(17,.bool (decide (z3<z4))),(16,vI z4),(15,vI z3)]<|gw (some 27) (.cells #[.bool false,.bool (decide (z3<z4)),.bool (z3==z4),.bool (z3 != z4),.bool (decide (z3 ≥ z4))] 4) (fun b=>.slice (some ⟨b,0,none⟩) 5 5) hS20 fun b2 w5 hx2 hS21=>?_
  refine gb [13,14] [(29,vI x1_0),(28,pP b1 0)] [ld b1 0 (vI x1_0)] ⟨hS21.c 1,trivial⟩ ?_
  by_cases hc1:0≤x1_0
  ·rw [if_pos hc1] at h
   rcases hx3:([false,decide (z3<z4),(z3==z4),(z3 != z4),decide (z3 ≥ z4)]:List Bool)[(x1_0).toNat]? with _ | e1
   ·rw [hx3] at h; cases h
   rw [hx3] at h
   simp only [] at h
   refine gi 30 0 137 4 1 5 5 (.tmp 27) (.tmp 29) (some ⟨b2,0,none⟩) .i64 x1_0 ((x1_0).toNat) ((hS21.rdBlk 0 ([false,decide (z3<z4),(z3==z4),(z3 != z4),decide (z3 ≥ z4)]:List Bool) rfl rfl rfl).eqSome (pos_of_get hx3)) (Int.toNat_of_nonneg hc1).symm (lt_of_get hx3) ?_
   refine gb [16,17] [(4,.bool e1),(31,.bool e1)] [.loaded ⟨blkOf (some ⟨b2,0,none⟩),offOf (some ⟨b2,0,none⟩)+((x1_0).toNat)*1,none⟩ (.bool e1)] ⟨RdL.cell (j:=0) (hS21.rdBlk 0 ([false,decide (z3<z4),(z3==z4),(z3 != z4),decide (z3 ≥ z4)]:List Bool) rfl rfl rfl) hx3 rfl,trivial⟩<|gn hK3 ?_
   have hS26:=hS21.p [2,3,4,5] rfl
   obtain rfl:=si h
   exact we_ret (pr0 [.tmp 4] [.bool e1] ⟨rfl,hS26⟩)
  rw [if_neg hc1] at h
  cases h
 rw [hq3] at h
 simp only [] at h
 refine kp (pr_mean_true_p0 K w0 Z bp0 lp0_0 Ap0_0 cp0_0 lp0_1 Ap0_1 cp0_1 sp0_2 lp0_3 Ap0_3 cp0_3 sp0_4 x1_0 x1_1_0 x1_1_1 l1_1_2 A1_1_2 c1_1_2 x1_2_0 x1_2_1 l1_2_2 A1_2_2 c1_2_2 LT hZ hRp0_3 hLp0_3 hR1_1_2 hL1_1_2 hR1_2_2 hL1_2_2 b1 _ hq3 _ hS1 _ ?_)
 rintro _ a w1 ⟨_,rfl,hb⟩
 obtain rfl:=si h
 exact hb

/-! (*punctual/punctualref.mean).all, (*punctual/punctualref.mean).one -/
abbrev pr_mean_all.Post (w0:World) (Z:Zone) (bp0:Nat) (lp0_0:List Int) (Ap0_0:OA) (cp0_0:Nat) (lp0_1:List SPut) (Ap0_1:OA) (cp0_1:Nat) (sp0_2:Int) (lp0_3:List Int) (Ap0_3:OA) (cp0_3:Nat) (sp0_4:Int) (l1:List SStmt) (A1:OA) (c1:Nat) (x2:Int) (LT:List Own) (r:(List Int)×(List SPut)×Int×Int) (e:Ending) (w:World):Prop:=∃ (nbp0_0:Value) (nbp0_1:Value),e=.returned (.tuple #[])∧St w0 w [bk bp0 #[nbp0_0,nbp0_1,vI r.2.2.1,.slice Ap0_3 lp0_3.length cp0_3,vI r.2.2.2] 62,Own.of nbp0_0 3 r.1,Own.of nbp0_1 42 r.2.1,Own.all LT]
abbrev pr_mean_one.Post (w0:World) (Z:Zone) (bp0:Nat) (lp0_0:List Int) (Ap0_0:OA) (cp0_0:Nat) (lp0_1:List SPut) (Ap0_1:OA) (cp0_1:Nat) (sp0_2:Int) (lp0_3:List Int) (Ap0_3:OA) (cp0_3:Nat) (sp0_4 x1_0 x1_1 x1_2_0 x1_2_1:Int) (l1_2_2:List SExpr) (A1_2_2:OA) (c1_2_2:Nat) (x1_3_0 x1_3_1_0 x1_3_1_1:Int) (l1_3_1_2:List SExpr) (A1_3_1_2:OA) (c1_3_1_2:Nat) (x1_3_2_0 x1_3_2_1:Int) (l1_3_2_2:List SExpr) (A1_3_2_2:OA) (c1_3_2_2:Nat) (l1_4:List SStmt) (A1_4:OA) (c1_4:Nat) (l1_5:List SStmt) (A1_5:OA) (c1_5:Nat) (x2:Int) (LT:List Own) (r:(List Int)×(List SPut)×Int×Int) (e:Ending) (w:World):Prop:=∃ (nbp0_0:Value) (nbp0_1:Value),e=.returned (.tuple #[])∧St w0 w [bk bp0 #[nbp0_0,nbp0_1,vI r.2.2.1,.slice Ap0_3 lp0_3.length cp0_3,vI r.2.2.2] 62,Own.of nbp0_0 3 r.1,Own.of nbp0_1 42 r.2.1,Own.all LT]
abbrev pr_mean_all.Rec (rec_pr_mean_all:(List Int)→(List SPut)→Int→(List Int)→Int→(List SStmt)→Int→Option ((List Int)×(List SPut)×Int×Int)):Prop:=∀ (Z:Zone) (bp0:Nat) (lp0_0:List Int) (Ap0_0:OA) (cp0_0:Nat) (lp0_1:List SPut) (Ap0_1:OA) (cp0_1:Nat) (sp0_2:Int) (lp0_3:List Int) (Ap0_3:OA) (cp0_3:Nat) (sp0_4:Int) (l1:List SStmt) (A1:OA) (c1:Nat) (x2:Int) (w0 wE:World) (LT:List Own) (hS:St w0 wE [bk bp0 #[(.slice Ap0_0 lp0_0.length cp0_0),(.slice Ap0_1 lp0_1.length cp0_1),vI sp0_2,.slice Ap0_3 lp0_3.length cp0_3,vI sp0_4] 62,ro Ap0_0 cp0_0 3 lp0_0,ro Ap0_1 cp0_1 42 lp0_1,Own.all LT]) (hZ:∀ w L,St w0 w (Own.all LT::L)→∀ w',Sub w w'→Z w') (hRp0_3:RdL w0 Ap0_3 lp0_3) (hLp0_3:lp0_3.length≤cp0_3) (hR1:RdZ Z A1 l1) (hL1:l1.length≤c1) (r:(List Int)×(List SPut)×Int×Int) (h:rec_pr_mean_all lp0_0 lp0_1 sp0_2 lp0_3 sp0_4 l1 x2=some r),Calls Try.prog 30 #[pP bp0 0,.slice A1 l1.length c1,vI x2] wE (pr_mean_all.Post w0 Z bp0 lp0_0 Ap0_0 cp0_0 lp0_1 Ap0_1 cp0_1 sp0_2 lp0_3 Ap0_3 cp0_3 sp0_4 l1 A1 c1 x2 LT r)
abbrev pr_mean_one.Rec (rec_pr_mean_one:(List Int)→(List SPut)→Int→(List Int)→Int→Int→Int→Int→Int→(List SExpr)→Int→Int→Int→(List SExpr)→Int→Int→(List SExpr)→(List SStmt)→(List SStmt)→Int→Option ((List Int)×(List SPut)×Int×Int)):Prop:=∀ (Z:Zone) (bp0:Nat) (lp0_0:List Int) (Ap0_0:OA) (cp0_0:Nat) (lp0_1:List SPut) (Ap0_1:OA) (cp0_1:Nat) (sp0_2:Int) (lp0_3:List Int) (Ap0_3:OA) (cp0_3:Nat) (sp0_4:Int) (x1_0:Int) (x1_1:Int) (x1_2_0:Int) (x1_2_1:Int) (l1_2_2:List SExpr) (A1_2_2:OA) (c1_2_2:Nat) (x1_3_0:Int) (x1_3_1_0:Int) (x1_3_1_1:Int) (l1_3_1_2:List SExpr) (A1_3_1_2:OA) (c1_3_1_2:Nat) (x1_3_2_0:Int) (x1_3_2_1:Int) (l1_3_2_2:List SExpr) (A1_3_2_2:OA) (c1_3_2_2:Nat) (l1_4:List SStmt) (A1_4:OA) (c1_4:Nat) (l1_5:List SStmt) (A1_5:OA) (c1_5:Nat) (x2:Int) (w0 wE:World) (LT:List Own) (hS:St w0 wE [bk bp0 #[(.slice Ap0_0 lp0_0.length cp0_0),(.slice Ap0_1 lp0_1.length cp0_1),vI sp0_2,.slice Ap0_3 lp0_3.length cp0_3,vI sp0_4] 62,ro Ap0_0 cp0_0 3 lp0_0,ro Ap0_1 cp0_1 42 lp0_1,Own.all LT]) (hZ:∀ w L,St w0 w (Own.all LT::L)→∀ w',Sub w w'→Z w') (hRp0_3:RdL w0 Ap0_3 lp0_3) (hLp0_3:lp0_3.length≤cp0_3) (hR1_2_2:RdZ Z A1_2_2 l1_2_2) (hL1_2_2:l1_2_2.length≤c1_2_2) (hR1_3_1_2:RdZ Z A1_3_1_2 l1_3_1_2) (hL1_3_1_2:l1_3_1_2.length≤c1_3_1_2) (hR1_3_2_2:RdZ Z A1_3_2_2 l1_3_2_2) (hL1_3_2_2:l1_3_2_2.length≤c1_3_2_2) (hR1_4:RdZ Z A1_4 l1_4) (hL1_4:l1_4.length≤c1_4) (hR1_5:RdZ Z A1_5 l1_5) (hL1_5:l1_5.length≤c1_5) (r:(List Int)×(List SPut)×Int×Int) (h:rec_pr_mean_one lp0_0 lp0_1 sp0_2 lp0_3 sp0_4 x1_0 x1_1 x1_2_0 x1_2_1 l1_2_2 x1_3_0 x1_3_1_0 x1_3_1_1 l1_3_1_2 x1_3_2_0 x1_3_2_1 l1_3_2_2 l1_4 l1_5 x2=some r),Calls Try.prog 46 #[pP bp0 0,.agg #[vI x1_0,vI x1_1,vI x1_2_0,vI x1_2_1,.slice A1_2_2 l1_2_2.length c1_2_2,vI x1_3_0,vI x1_3_1_0,vI x1_3_1_1,.slice A1_3_1_2 l1_3_1_2.length c1_3_1_2,vI x1_3_2_0,vI x1_3_2_1,.slice A1_3_2_2 l1_3_2_2.length c1_3_2_2,.slice A1_4 l1_4.length c1_4,.slice A1_5 l1_5.length c1_5],vI x2] wE (pr_mean_one.Post w0 Z bp0 lp0_0 Ap0_0 cp0_0 lp0_1 Ap0_1 cp0_1 sp0_2 lp0_3 Ap0_3 cp0_3 sp0_4 x1_0 x1_1 x1_2_0 x1_2_1 l1_2_2 A1_2_2 c1_2_2 x1_3_0 x1_3_1_0 x1_3_1_1 l1_3_1_2 A1_3_1_2 c1_3_1_2 x1_3_2_0 x1_3_2_1 l1_3_2_2 A1_3_2_2 c1_3_2_2 l1_4 A1_4 c1_4 l1_5 A1_5 c1_5 x2 LT r)
def pr_mean_all.r0 (K : Nat) (lp0_3 : List Int) (l1 : List SStmt) (rec_pr_mean_one : (List Int) → (List SPut) → Int → (List Int) → Int → Int → Int → Int → Int → (List SExpr) → Int → Int → Int → (List SExpr) → Int → Int → (List SExpr) → (List SStmt) → (List SStmt) → Int → Option ((List Int) × (List SPut) × Int × Int)) : Int × Nat × (List Int) × (List SPut) × Int × Int → Option ((Int × Nat × (List Int) × (List SPut) × Int × Int) ⊕ (((List Int) × (List SPut) × Int × Int) ⊕ ((List Int) × (List SPut) × Int × Int)))
 | (z1,i1,m1,m2,z2,z3) =>
  if (i1:Int)<(l1.length:Int) then
   match l1[i1]? with
   | none=>none
   | some e1 =>
    if z3 ≥ 0 then
     some (.inr (.inr (m1,m2,z2,z3)))
    else
     match rec_pr_mean_one m1 m2 z2 lp0_3 z3 e1.Kind e1.N e1.E.Kind e1.E.N e1.E.A e1.If.Kind e1.If.A.Kind e1.If.A.N e1.If.A.A e1.If.B.Kind e1.If.B.N e1.If.B.A e1.Body e1.Else z1 with
     | none=>none
     | some r1 =>
      match pr_Size.f K ([e1]:List SStmt) with
      | none=>none
      | some r2 =>
       some (.inl (IntKind.i64.wrap (z1+r2),(i1+1),r1.1,r1.2.1,r1.2.2.1,r1.2.2.2))
  else
   some (.inr (.inl (m1,m2,z2,z3)))
def pr_mean_all.b (K : Nat) (rec_pr_mean_one : (List Int) → (List SPut) → Int → (List Int) → Int → Int → Int → Int → Int → (List SExpr) → Int → Int → Int → (List SExpr) → Int → Int → (List SExpr) → (List SStmt) → (List SStmt) → Int → Option ((List Int) × (List SPut) × Int × Int)) (lp0_0 : List Int) (lp0_1 : List SPut) (sp0_2 : Int) (lp0_3 : List Int) (sp0_4 : Int) (l1 : List SStmt) (x2 : Int) : Option ((List Int) × (List SPut) × Int × Int) :=
 match iter (pr_mean_all.r0 K lp0_3 l1 rec_pr_mean_one) K (x2,0,lp0_0,lp0_1,sp0_2,sp0_4) with
 | none=>none
 | some (.inl (m5,m6,z6,z7)) =>
  some (m5,m6,z6,z7)
 | some (.inr rr1) =>
  some rr1
abbrev pr_mean_all.A0 (w0:World) (bp0:Nat) (lp0_3:List Int) (Ap0_3:OA) (cp0_3:Nat) (l1:List SStmt) (A1:OA) (c1:Nat) (LT:List Own) (wf1:World):(Int×Nat×(List Int)×(List SPut)×Int×Int)→Act→World→Prop:=fun (s:Int×Nat×(List Int)×(List SPut)×Int×Int) a w=>∃ (ft2:List Nat) (wf2:World) (v1:Value) (v2:Value),Sub wf1 wf2∧St w0 w [bk bp0 #[v1,v2,vI s.2.2.2.2.1,.slice Ap0_3 lp0_3.length cp0_3,vI s.2.2.2.2.2] 62,Own.of v1 3 s.2.2.1,Own.of v2 42 s.2.2.2.1,Own.all LT,Own.frz ft2 wf2]∧Frm 29 a [(0,pP bp0 0),(2,vI s.1),(8,.slice A1 l1.length c1),(9,vI (l1.length:Int)),(10,vI (s.2.1:Int))]
abbrev pr_mean_all.B0 (w0:World) (Z:Zone) (bp0:Nat) (lp0_0:List Int) (Ap0_0:OA) (cp0_0:Nat) (lp0_1:List SPut) (Ap0_1:OA) (cp0_1:Nat) (sp0_2:Int) (lp0_3:List Int) (Ap0_3:OA) (cp0_3:Nat) (sp0_4:Int) (l1:List SStmt) (A1:OA) (c1:Nat) (x2:Int) (LT:List Own) (wf1:World):(((List Int)×(List SPut)×Int×Int) ⊕ ((List Int)×(List SPut)×Int×Int))→Exit→Act→World→Prop:=Exits 0 (fun (s:(List Int)×(List SPut)×Int×Int) a w=>∃ (ft3:List Nat) (wf3:World) (v3:Value) (v4:Value),Sub wf1 wf3∧St w0 w [bk bp0 #[v3,v4,vI s.2.2.1,.slice Ap0_3 lp0_3.length cp0_3,vI s.2.2.2] 62,Own.of v3 3 s.1,Own.of v4 42 s.2.1,Own.all LT,Own.frz ft3 wf3]∧Frm 29 a [(0,pP bp0 0)]) (Rets Try.prog Try.f30 (pr_mean_all.Post w0 Z bp0 lp0_0 Ap0_0 cp0_0 lp0_1 Ap0_1 cp0_1 sp0_2 lp0_3 Ap0_3 cp0_3 sp0_4 l1 A1 c1 x2 LT))
theorem pr_mean_all_r0 (K:Nat) (w0:World) (Z:Zone) (bp0:Nat) (lp0_0:List Int) (Ap0_0:OA) (cp0_0:Nat) (lp0_1:List SPut) (Ap0_1:OA) (cp0_1:Nat) (sp0_2:Int) (lp0_3:List Int) (Ap0_3:OA) (cp0_3:Nat) (sp0_4:Int) (l1:List SStmt) (A1:OA) (c1:Nat) (x2:Int) (LT:List Own) (hZ:∀ w L,St w0 w (Own.all LT::L)→∀ w',Sub w w'→Z w') (hRp0_3:RdL w0 Ap0_3 lp0_3) (hLp0_3:lp0_3.length≤cp0_3) (hR1:RdZ Z A1 l1) (hL1:l1.length≤c1) (rec_pr_mean_one:(List Int)→(List SPut)→Int→(List Int)→Int→Int→Int→Int→Int→(List SExpr)→Int→Int→Int→(List SExpr)→Int→Int→(List SExpr)→(List SStmt)→(List SStmt)→Int→Option ((List Int)×(List SPut)×Int×Int)) (hr_pr_mean_one:pr_mean_one.Rec rec_pr_mean_one) (ft1:List Nat) (wf1:World) (s:Int×Nat×(List Int)×(List SPut)×Int×Int) (o:(Int×Nat×(List Int)×(List SPut)×Int×Int) ⊕ (((List Int)×(List SPut)×Int×Int) ⊕ ((List Int)×(List SPut)×Int×Int))) (h:pr_mean_all.r0 K lp0_3 l1 rec_pr_mean_one s=some o) (a:Act) (w:World) (hA:pr_mean_all.A0 w0 bp0 lp0_3 Ap0_3 cp0_3 l1 A1 c1 LT wf1 s a w) (Q:Exit→Act→World→Prop) (hQ:∀ x a w,Outs (pr_mean_all.A0 w0 bp0 lp0_3 Ap0_3 cp0_3 l1 A1 c1 LT wf1) (pr_mean_all.B0 w0 Z bp0 lp0_0 Ap0_0 cp0_0 lp0_1 Ap0_1 cp0_1 sp0_2 lp0_3 Ap0_3 cp0_3 sp0_4 l1 A1 c1 x2 LT wf1) o x a w→Q x a w):(subF Try.f30 [1,0,0]).wp Try.prog Q a w:=by
 obtain ⟨z1,i1,m1,m2,z2,z3⟩:=s
 obtain ⟨ft2,wf2,v1,v2,hsb1,hS,hF⟩:=hA
 replace hS:St w0 w [bk bp0 #[v1,v2,vI z2,.slice Ap0_3 lp0_3.length cp0_3,vI z3] 62,Own.of v1 3 m1,Own.of v2 42 m2,Own.all LT,Own.frz ft2 wf2]:=hS
 simp only [pr_mean_all.r0] at h
 refine (?_:WE Try.prog 29 (subF Try.f30 [1,0,0]) Q [(0,pP bp0 0),(2,vI z1),(8,.slice A1 l1.length c1),(9,vI (l1.length:Int)),(10,vI (i1:Int))] w) a hF
 clear hF a
 refine ws fun K2 hK2=>wr [(0,0)]<|gb0 [0] [(11,.bool (decide ((i1:Int)<(l1.length:Int))))]<|gn hK2<|ws fun K3 hK3=>?_
 by_cases hc1:(i1:Int)<(l1.length:Int)
 ·rw [if_pos hc1] at h
  refine wk 11 (decide ((i1:Int)<(l1.length:Int))) true (decide_eq_true hc1)<|wt<|we_skip fun a hF=>hK3 _ _ ?_ a hF
  refine ws fun K4 hK4=>we_block<|ws fun K5 hK5=>wr [(0,0),(1,0),(2,1),(3,2)] ?_
  rcases hx1:l1[i1]? with _ | e1
  ·rw [hx1] at h; cases h
  rw [hx1] at h
  simp only [] at h
  obtain ⟨An1,cn1,An2,cn2,An3,cn3,An4,cn4,An5,cn5,hCs1,hLn1,hRn1,hLn2,hRn2,hLn3,hRn3,hLn4,hRn4,hLn5,hRn5⟩:=SStmt.getZ hR1 hx1
  refine gi 12 0 22 70 14 l1.length c1 (.tmp 8) (.tmp 10) A1 .i64 (i1:Int) i1 (hR1.eqSome (hZ _ _ (hS.bring 3 rfl) _ (Sub.refl _)) (pos_of_get hx1)) rfl (lt_of_get hx1) ?_
  refine gb [1] [(13,.agg #[vI e1.Kind,vI e1.N,vI e1.E.Kind,vI e1.E.N,.slice An1 e1.E.A.length cn1,vI e1.If.Kind,vI e1.If.A.Kind,vI e1.If.A.N,.slice An2 e1.If.A.A.length cn2,vI e1.If.B.Kind,vI e1.If.B.N,.slice An3 e1.If.B.A.length cn3,.slice An4 e1.Body.length cn4,.slice An5 e1.Else.length cn5])] [.loaded ⟨blkOf A1,offOf A1+i1*14,none⟩ (vI e1.Kind),.loaded ⟨blkOf A1,offOf A1+i1*14+1,none⟩ (vI e1.N),.loaded ⟨blkOf A1,offOf A1+i1*14+2,none⟩ (vI e1.E.Kind),.loaded ⟨blkOf A1,offOf A1+i1*14+3,none⟩ (vI e1.E.N),.loaded ⟨blkOf A1,offOf A1+i1*14+4,none⟩ (.slice An1 e1.E.A.length cn1),.loaded ⟨blkOf A1,offOf A1+i1*14+5,none⟩ (vI e1.If.Kind),.loaded ⟨blkOf A1,offOf A1+i1*14+6,none⟩ (vI e1.If.A.Kind),.loaded ⟨blkOf A1,offOf A1+i1*14+7,none⟩ (vI e1.If.A.N),.loaded ⟨blkOf A1,offOf A1+i1*14+8,none⟩ (.slice An2 e1.If.A.A.length cn2),.loaded ⟨blkOf A1,offOf A1+i1*14+9,none⟩ (vI e1.If.B.Kind),.loaded ⟨blkOf A1,offOf A1+i1*14+10,none⟩ (vI e1.If.B.N),.loaded ⟨blkOf A1,offOf A1+i1*14+11,none⟩ (.slice An3 e1.If.B.A.length cn3),.loaded ⟨blkOf A1,offOf A1+i1*14+12,none⟩ (.slice An4 e1.Body.length cn4),.loaded ⟨blkOf A1,offOf A1+i1*14+13,none⟩ (.slice An5 e1.Else.length cn5)] ⟨hCs1 _ (hZ _ _ (hS.bring 3 rfl) _ (Sub.refl _)) 0 _ rfl,hCs1 _ (hZ _ _ (hS.bring 3 rfl) _ (Sub.refl _)) 1 _ rfl,hCs1 _ (hZ _ _ (hS.bring 3 rfl) _ (Sub.refl _)) 2 _ rfl,hCs1 _ (hZ _ _ (hS.bring 3 rfl) _ (Sub.refl _)) 3 _ rfl,hCs1 _ (hZ _ _ (hS.bring 3 rfl) _ (Sub.refl _)) 4 _ rfl,hCs1 _ (hZ _ _ (hS.bring 3 rfl) _ (Sub.refl _)) 5 _ rfl,hCs1 _ (hZ _ _ (hS.bring 3 rfl) _ (Sub.refl _)) 6 _ rfl,hCs1 _ (hZ _ _ (hS.bring 3 rfl) _ (Sub.refl _)) 7 _ rfl,hCs1 _ (hZ _ _ (hS.bring 3 rfl) _ (Sub.refl _)) 8 _ rfl,hCs1 _ (hZ _ _ (hS.bring 3 rfl) _ (Sub.refl _)) 9 _ rfl,hCs1 _ (hZ _ _ (hS.bring 3 rfl) _ (Sub.refl _)) 10 _ rfl,hCs1 _ (hZ _ _ (hS.bring 3 rfl) _ (Sub.refl _)) 11 _ rfl,hCs1 _ (hZ _ _ (hS.bring 3 rfl) _ (Sub.refl _)) 12 _ rfl,hCs1 _ (hZ _ _ (hS.bring 3 rfl) _ (Sub.refl _)) 13 _ rfl,trivial⟩<|gw (some 7) (.cells #[vI 0,vI 0,vI 0,vI 0,.slice none 0 0,vI 0,vI 0,vI 0,.slice none 0 0,vI 0,vI 0,.slice none 0 0,.slice none 0 0,.slice none 0 0] 70) (fun b=>pP b 0) hS fun b1 w1 hx2 hS6=>?_
  refine gs b1 0 #[vI 0,vI 0,vI 0,vI 0,.slice none 0 0,vI 0,vI 0,vI 0,.slice none 0 0,vI 0,vI 0,.slice none 0 0,.slice none 0 0,.slice none 0 0] 70 [vI e1.Kind,vI e1.N,vI e1.E.Kind,vI e1.E.N,.slice An1 e1.E.A.length cn1,vI e1.If.Kind,vI e1.If.A.Kind,vI e1.If.A.N,.slice An2 e1.If.A.A.length cn2,vI e1.If.B.Kind,vI e1.If.B.N,.slice An3 e1.If.B.A.length cn3,.slice An4 e1.Body.length cn4,.slice An5 e1.Else.length cn5] hS6 fun w2 hS7=>?_
  have hS8:=hS7.nc #[vI e1.Kind,vI e1.N,vI e1.E.Kind,vI e1.E.N,.slice An1 e1.E.A.length cn1,vI e1.If.Kind,vI e1.If.A.Kind,vI e1.If.A.N,.slice An2 e1.If.A.A.length cn2,vI e1.If.B.Kind,vI e1.If.B.N,.slice An3 e1.If.B.A.length cn3,.slice An4 e1.Body.length cn4,.slice An5 e1.Else.length cn5] (by kernel_rfl)
  refine gn hK5<|ws fun K6 hK6=>ws fun K7 hK7=>wr [(0,0),(1,0),(2,0),(3,0),(4,0)]<|gb [0,1,2,3,4] [(18,.bool (decide (z3 ≥ 0))),(17,vI z3),(16,pP bp0 4),(15,pP bp0 0),(14,pP bp0 0)] [ld bp0 4 (vI z3)] ⟨hS8.c 1,trivial⟩<|gn hK7 ?_
  by_cases hc2:z3 ≥ 0
  ·rw [if_pos hc2] at h
   refine wk 18 (decide (z3 ≥ 0)) true (decide_eq_true hc2)<|wt ?_
   have hS13:=hS8.p [1,2,3,4] rfl
   obtain rfl:=si h
   exact we_ret fun a hF=>hQ _ _ _ (Outs.out nofun (Exits.on ⟨rfl,(pr0 [] [] ⟨v1,v2,rfl,hS13⟩) a hF⟩))
  rw [if_neg hc2] at h
  refine wk 18 (decide (z3 ≥ 0)) false (decide_eq_false hc2)<|wf<|we_skip fun a hF=>hK6 _ _ ?_ a hF
  refine ws fun K8 hK8=>wr [(0,0),(1,0),(2,0),(3,2)]<|gb [0,1,2] [(21,vI z1),(20,.agg #[vI e1.Kind,vI e1.N,vI e1.E.Kind,vI e1.E.N,.slice An1 e1.E.A.length cn1,vI e1.If.Kind,vI e1.If.A.Kind,vI e1.If.A.N,.slice An2 e1.If.A.A.length cn2,vI e1.If.B.Kind,vI e1.If.B.N,.slice An3 e1.If.B.A.length cn3,.slice An4 e1.Body.length cn4,.slice An5 e1.Else.length cn5]),(19,pP bp0 0)] [ld b1 0 (vI e1.Kind),ld b1 1 (vI e1.N),ld b1 2 (vI e1.E.Kind),ld b1 3 (vI e1.E.N),ld b1 4 (.slice An1 e1.E.A.length cn1),ld b1 5 (vI e1.If.Kind),ld b1 6 (vI e1.If.A.Kind),ld b1 7 (vI e1.If.A.N),ld b1 8 (.slice An2 e1.If.A.A.length cn2),ld b1 9 (vI e1.If.B.Kind),ld b1 10 (vI e1.If.B.N),ld b1 11 (.slice An3 e1.If.B.A.length cn3),ld b1 12 (.slice An4 e1.Body.length cn4),ld b1 13 (.slice An5 e1.Else.length cn5)] ⟨hS8.c 0,hS8.c 0,hS8.c 0,hS8.c 0,hS8.c 0,hS8.c 0,hS8.c 0,hS8.c 0,hS8.c 0,hS8.c 0,hS8.c 0,hS8.c 0,hS8.c 0,hS8.c 0,trivial⟩ ?_
  obtain ⟨Z1,cz1,rfl⟩:=hS8.open 2 rfl
  obtain ⟨Z2,cz2,rfl⟩:=hS8.open 3 rfl
  rcases hq1:rec_pr_mean_one m1 m2 z2 lp0_3 z3 e1.Kind e1.N e1.E.Kind e1.E.N e1.E.A e1.If.Kind e1.If.A.Kind e1.If.A.N e1.If.A.A e1.If.B.Kind e1.If.B.N e1.If.B.A e1.Body e1.Else z1 with _ | r1
  ·rw [hq1] at h; cases h
  rw [hq1] at h
  simp only [] at h
  have hS18:=(((hS8.b 3).b 3).b 3).packN 3
  refine ge_call2 (m:=0) (d:=some 22) (f:=46) (args:=#[pP bp0 0,.agg #[vI e1.Kind,vI e1.N,vI e1.E.Kind,vI e1.E.N,.slice An1 e1.E.A.length cn1,vI e1.If.Kind,vI e1.If.A.Kind,vI e1.If.A.N,.slice An2 e1.If.A.A.length cn2,vI e1.If.B.Kind,vI e1.If.B.N,.slice An3 e1.If.B.A.length cn3,.slice An4 e1.Body.length cn4,.slice An5 e1.Else.length cn5],vI z1]) (by kernel_rfl) (hr_pr_mean_one (Zand Z wf2) bp0 m1 Z1 cz1 m2 Z2 cz2 z2 lp0_3 Ap0_3 cp0_3 z3 e1.Kind e1.N e1.E.Kind e1.E.N e1.E.A An1 cn1 e1.If.Kind e1.If.A.Kind e1.If.A.N e1.If.A.A An2 cn2 e1.If.B.Kind e1.If.B.N e1.If.B.A An3 cn3 e1.Body An4 cn4 e1.Else An5 cn5 z1 _ _ _ hS18 (fun w L h w' k=>⟨(hZ _ _ (h.spread.bring 1 rfl) w' k),(h.spread.frzSub 2 rfl).trans k⟩) hRp0_3 hLp0_3 (hRn1.up (ZLe.in _ _)) hLn1 (hRn2.up (ZLe.in _ _)) hLn2 (hRn3.up (ZLe.in _ _)) hLn3 (hRn4.up (ZLe.in _ _)) hLn4 (hRn5.up (ZLe.in _ _)) hLn5 _ hq1) ?_
  rintro _ w3 ⟨v5,v6,rfl,hS17⟩
  refine ⟨_,rfl,?_⟩
  have hS19:=hS17.unpack [bk bp0 #[v5,v6,vI r1.2.2.1,.slice Ap0_3 lp0_3.length cp0_3,vI r1.2.2.2] 62,Own.of v5 3 r1.1,Own.of v6 42 r1.2.1]
  refine gn hK8<|wr [(0,0),(1,0),(2,1),(3,1),(4,0),(5,0)]<|gb [0,1] [(24,.agg #[vI e1.Kind,vI e1.N,vI e1.E.Kind,vI e1.E.N,.slice An1 e1.E.A.length cn1,vI e1.If.Kind,vI e1.If.A.Kind,vI e1.If.A.N,.slice An2 e1.If.A.A.length cn2,vI e1.If.B.Kind,vI e1.If.B.N,.slice An3 e1.If.B.A.length cn3,.slice An4 e1.Body.length cn4,.slice An5 e1.Else.length cn5]),(23,vI z1)] [ld b1 0 (vI e1.Kind),ld b1 1 (vI e1.N),ld b1 2 (vI e1.E.Kind),ld b1 3 (vI e1.E.N),ld b1 4 (.slice An1 e1.E.A.length cn1),ld b1 5 (vI e1.If.Kind),ld b1 6 (vI e1.If.A.Kind),ld b1 7 (vI e1.If.A.N),ld b1 8 (.slice An2 e1.If.A.A.length cn2),ld b1 9 (vI e1.If.B.Kind),ld b1 10 (vI e1.If.B.N),ld b1 11 (.slice An3 e1.If.B.A.length cn3),ld b1 12 (.slice An4 e1.Body.length cn4),ld b1 13 (.slice An5 e1.Else.length cn5)] ⟨hS19.c 3,hS19.c 3,hS19.c 3,hS19.c 3,hS19.c 3,hS19.c 3,hS19.c 3,hS19.c 3,hS19.c 3,hS19.c 3,hS19.c 3,hS19.c 3,hS19.c 3,hS19.c 3,trivial⟩<|gw (some 25) (.cells #[vI e1.Kind,vI e1.N,vI e1.E.Kind,vI e1.E.N,.slice An1 e1.E.A.length cn1,vI e1.If.Kind,vI e1.If.A.Kind,vI e1.If.A.N,.slice An2 e1.If.A.A.length cn2,vI e1.If.B.Kind,vI e1.If.B.N,.slice An3 e1.If.B.A.length cn3,.slice An4 e1.Body.length cn4,.slice An5 e1.Else.length cn5] 70) (fun b=>.slice (some ⟨b,0,none⟩) 1 1) hS19 fun b2 w4 hx3 hS20=>?_
  have hS21:=hS20.asRow (α:=HStmt) (c:=1) ([(⟨e1.Kind,e1.N,e1.E.Kind,e1.E.N,⟨An1,e1.E.A.length,cn1⟩,e1.If.Kind,e1.If.A.Kind,e1.If.A.N,⟨An2,e1.If.A.A.length,cn2⟩,e1.If.B.Kind,e1.If.B.N,⟨An3,e1.If.B.A.length,cn3⟩,⟨An4,e1.Body.length,cn4⟩,⟨An5,e1.Else.length,cn5⟩⟩:HStmt)]:List HStmt) (Nat.le_refl _) (by decide) rfl rfl
  have hd1:DRows (Zand Z wf2) ([(⟨e1.Kind,e1.N,e1.E.Kind,e1.E.N,⟨An1,e1.E.A.length,cn1⟩,e1.If.Kind,e1.If.A.Kind,e1.If.A.N,⟨An2,e1.If.A.A.length,cn2⟩,e1.If.B.Kind,e1.If.B.N,⟨An3,e1.If.B.A.length,cn3⟩,⟨An4,e1.Body.length,cn4⟩,⟨An5,e1.Else.length,cn5⟩⟩:HStmt)]:List HStmt) ([e1]:List SStmt):=(DRows.add (DRows.nil _) (SStmt.mkZ e1 hLn1 (hRn1.up (ZLe.in _ _)) hLn2 (hRn2.up (ZLe.in _ _)) hLn3 (hRn3.up (ZLe.in _ _)) hLn4 (hRn4.up (ZLe.in _ _)) hLn5 (hRn5.up (ZLe.in _ _))))
  have hS23:=(hS21.b 6).b 1
  obtain ⟨ft4,wf4,hsb3,-,hRd1,hLd1,hS24⟩:=hS23.dfrz (Z:=Z) hd1
  refine ge_same (t:=25) (v:=.slice (some ⟨b2,0,none⟩) 1 1) (v':=.slice (some ⟨b2,0,none⟩) (([e1]:List SStmt).length) 1) (by kernel_rfl) rfl ?_
  rcases hq2:pr_Size.f K ([e1]:List SStmt) with _ | r2
  ·rw [hq2] at h; cases h
  rw [hq2] at h
  simp only [] at h
  refine ge_call (d:=some 26) (f:=17) (args:=#[.slice (some ⟨b2,0,none⟩) (([e1]:List SStmt).length) 1]) (by kernel_rfl) (pr_Size_ok K (Zand Z wf4) ([e1]:List SStmt) (some ⟨b2,0,none⟩) 1 _ (fun w' k=>⟨(hZ _ _ (hS24.bring 5 rfl) w' k),(hS24.frzSub 0 rfl).trans k⟩) hRd1 hLd1 _ hq2) ?_
  rintro _ w5 ⟨rfl,hS25⟩
  refine ⟨_,rfl,hS25.below,?_⟩
  have hS26:=hS24.call hS25
  refine gb0 [4,5] [(2,vI (IntKind.i64.wrap (z1+r2))),(27,vI (IntKind.i64.wrap (z1+r2)))]<|gn hK4<|wr [(0,0),(1,0)]<|ge_addn (d:=28) (ty:=3) (x:=(.tmp 10)) (y:=(.const (vI 1))) (t:=3) (t2:=3) (k:=.i64) (m:=i1) (by kernel_rfl) (by kernel_rfl) (by kernel_rfl) (by have h0:=RdZ.small hR1 (hZ _ _ (hS26.bring 5 rfl) _ (Sub.refl _)); omega) ?_
  refine gb0 [1] [(10,vI ((i1+1:Nat):Int))] ?_
  have hS31:=hS26.p [1,2,3,5,0] rfl
  obtain rfl:=si h
  exact ge_nil fun a hF=>hQ _ _ _ (Outs.again ⟨ft4,wf4,v5,v6,(hsb1.trans hsb3),hS31,hF.weaken ea⟩)
 rw [if_neg hc1] at h
 refine wk 11 (decide ((i1:Int)<(l1.length:Int))) false (decide_eq_false hc1)<|wf ?_
 have hS36:=((((hS.b 4).b 4).b 4).b 4).b 4
 obtain rfl:=si h
 exact we_exit fun a hF=>hQ _ _ _ (Outs.out nofun (Exits.here ⟨ft2,wf2,v1,v2,hsb1,hS36,hF.weaken ea⟩))
theorem pr_mean_all_step (K:Nat) (rec_pr_mean_one:(List Int)→(List SPut)→Int→(List Int)→Int→Int→Int→Int→Int→(List SExpr)→Int→Int→Int→(List SExpr)→Int→Int→(List SExpr)→(List SStmt)→(List SStmt)→Int→Option ((List Int)×(List SPut)×Int×Int)) (hr_pr_mean_one:pr_mean_one.Rec rec_pr_mean_one) (Z:Zone) (bp0:Nat) (lp0_0:List Int) (Ap0_0:OA) (cp0_0:Nat) (lp0_1:List SPut) (Ap0_1:OA) (cp0_1:Nat) (sp0_2:Int) (lp0_3:List Int) (Ap0_3:OA) (cp0_3:Nat) (sp0_4:Int) (l1:List SStmt) (A1:OA) (c1:Nat) (x2:Int) (w0 wE:World) (LT:List Own) (hS:St w0 wE [bk bp0 #[(.slice Ap0_0 lp0_0.length cp0_0),(.slice Ap0_1 lp0_1.length cp0_1),vI sp0_2,.slice Ap0_3 lp0_3.length cp0_3,vI sp0_4] 62,ro Ap0_0 cp0_0 3 lp0_0,ro Ap0_1 cp0_1 42 lp0_1,Own.all LT]) (hZ:∀ w L,St w0 w (Own.all LT::L)→∀ w',Sub w w'→Z w') (hRp0_3:RdL w0 Ap0_3 lp0_3) (hLp0_3:lp0_3.length≤cp0_3) (hR1:RdZ Z A1 l1) (hL1:l1.length≤c1) (r:(List Int)×(List SPut)×Int×Int) (h:pr_mean_all.b K rec_pr_mean_one lp0_0 lp0_1 sp0_2 lp0_3 sp0_4 l1 x2=some r) :
  Calls Try.prog 30 #[pP bp0 0,.slice A1 l1.length c1,vI x2] wE (pr_mean_all.Post w0 Z bp0 lp0_0 Ap0_0 cp0_0 lp0_1 Ap0_1 cp0_1 sp0_2 lp0_3 Ap0_3 cp0_3 sp0_4 l1 A1 c1 x2 LT r):=by
 unfold pr_mean_all.b at h
 refine calls_enter (n:=29) (args:=[pP bp0 0,.slice A1 l1.length c1,vI x2]) (fn:=Try.f30) rfl rfl rfl rfl ?_
 show WE _ _ _ _ [(0,pP bp0 0),(1,.slice A1 l1.length c1),(2,vI x2)] _
 obtain ⟨ft1,wf1,hS1⟩:=hS.frz0
 refine ws fun K1 hK1=>wr [(0,0),(1,0),(2,0)]<|gb0 [0,1,2] [(10,vI 0),(9,vI (l1.length:Int)),(8,.slice A1 l1.length c1)]<|gn hK1<|we_block ?_
 have hS5:=(((hS1.b 4).b 4).b 4).b 4
 rcases hq3:iter (pr_mean_all.r0 K lp0_3 l1 rec_pr_mean_one) K (x2,0,lp0_0,lp0_1,sp0_2,sp0_4) with _ | (⟨m5,m6,z6,z7⟩ | rr1)
 ·rw [hq3] at h; cases h
 ·rw [hq3] at h
  simp only [] at h
  refine we_iter (A:=pr_mean_all.A0 w0 bp0 lp0_3 Ap0_3 cp0_3 l1 A1 c1 LT wf1) (B:=pr_mean_all.B0 w0 Z bp0 lp0_0 Ap0_0 cp0_0 lp0_1 Ap0_1 cp0_1 sp0_2 lp0_3 Ap0_3 cp0_3 sp0_4 l1 A1 c1 x2 LT wf1) hq3 (fun a hF=>⟨ft1,wf1,(.slice Ap0_0 lp0_0.length cp0_0),(.slice Ap0_1 lp0_1.length cp0_1),(Sub.refl _),hS5,hF.weaken ea⟩) (fun s o hf a w hA Q hQ=>pr_mean_all_r0 K w0 Z bp0 lp0_0 Ap0_0 cp0_0 lp0_1 Ap0_1 cp0_1 sp0_2 lp0_3 Ap0_3 cp0_3 sp0_4 l1 A1 c1 x2 LT hZ hRp0_3 hLp0_3 hR1 hL1 rec_pr_mean_one hr_pr_mean_one ft1 wf1 s o hf a w hA Q hQ) ?_
  rintro _ a w6 _ ⟨rfl,ft5,wf5,v7,v8,hRz1,hS37,hF⟩
  replace hS37:St w0 w6 [bk bp0 #[v7,v8,vI z6,.slice Ap0_3 lp0_3.length cp0_3,vI z7] 62,Own.of v7 3 m5,Own.of v8 42 m6,Own.all LT,Own.frz ft5 wf5]:=hS37
  have hS42:=hS37.p [0,1,2,3] rfl
  obtain rfl:=si h
  exact (pe0 [] [] ⟨v7,v8,rfl,hS42⟩) a hF
 rw [hq3] at h
 simp only [] at h
 refine we_iter (A:=pr_mean_all.A0 w0 bp0 lp0_3 Ap0_3 cp0_3 l1 A1 c1 LT wf1) (B:=pr_mean_all.B0 w0 Z bp0 lp0_0 Ap0_0 cp0_0 lp0_1 Ap0_1 cp0_1 sp0_2 lp0_3 Ap0_3 cp0_3 sp0_4 l1 A1 c1 x2 LT wf1) hq3 (fun a hF=>⟨ft1,wf1,(.slice Ap0_0 lp0_0.length cp0_0),(.slice Ap0_1 lp0_1.length cp0_1),(Sub.refl _),hS5,hF.weaken ea⟩) (fun s o hf a w hA Q hQ=>pr_mean_all_r0 K w0 Z bp0 lp0_0 Ap0_0 cp0_0 lp0_1 Ap0_1 cp0_1 sp0_2 lp0_3 Ap0_3 cp0_3 sp0_4 l1 A1 c1 x2 LT hZ hRp0_3 hLp0_3 hR1 hL1 rec_pr_mean_one hr_pr_mean_one ft1 wf1 s o hf a w hA Q hQ) ?_
 rintro _ a w1 _ ⟨rfl,hb⟩
 obtain rfl:=si h
 exact hb
def pr_mean_one.p0 (x1_0 : Int) : Option (Bool ⊕ ((List Int) × (List SPut) × Int × Int)) :=
  if x1_0=4 then
   some (.inl true)
  else
   some (.inl (x1_0==5))
def pr_mean_one.r1 (K : Nat) (lp0_3 : List Int) (x1_0 : Int) (x1_1 : Int) (x1_3_0 : Int) (x1_3_1_0 : Int) (x1_3_1_1 : Int) (l1_3_1_2 : List SExpr) (x1_3_2_0 : Int) (x1_3_2_1 : Int) (l1_3_2_2 : List SExpr) (l1_4 : List SStmt) (x2 : Int) (rec_pr_mean_all : (List Int) → (List SPut) → Int → (List Int) → Int → (List SStmt) → Int → Option ((List Int) × (List SPut) × Int × Int)) : Int × (List Int) × (List SPut) × Int × Int → Option ((Int × (List Int) × (List SPut) × Int × Int) ⊕ (((List Int) × (List SPut) × Int × Int) ⊕ ((List Int) × (List SPut) × Int × Int)))
 | (z1,m1,m2,z2,z3) =>
  if z1<x1_1 then
   if z3<0 then
    if x1_0=4 then
     match rec_pr_mean_all m1 m2 z2 lp0_3 z3 l1_4 (IntKind.i64.wrap (x2+1)) with
     | none=>none
     | some r7 =>
      some (.inl (IntKind.i64.wrap (z1+1),r7.1,r7.2.1,r7.2.2.1,r7.2.2.2))
    else
     match pr_mean_true.f K m1 m2 z2 lp0_3 z3 x1_3_0 x1_3_1_0 x1_3_1_1 l1_3_1_2 x1_3_2_0 x1_3_2_1 l1_3_2_2 with
     | none=>none
     | some r8 =>
      if r8=true then
       match rec_pr_mean_all m1 m2 z2 lp0_3 z3 l1_4 (IntKind.i64.wrap (x2+1)) with
       | none=>none
       | some r9 =>
        some (.inl (IntKind.i64.wrap (z1+1),r9.1,r9.2.1,r9.2.2.1,r9.2.2.2))
      else
       some (.inr (.inl (m1,m2,z2,z3)))
   else
    some (.inr (.inl (m1,m2,z2,z3)))
  else
   some (.inr (.inl (m1,m2,z2,z3)))
def pr_mean_one.b (K : Nat) (rec_pr_mean_all : (List Int) → (List SPut) → Int → (List Int) → Int → (List SStmt) → Int → Option ((List Int) × (List SPut) × Int × Int)) (lp0_0 : List Int) (lp0_1 : List SPut) (sp0_2 : Int) (lp0_3 : List Int) (sp0_4 : Int) (x1_0 : Int) (x1_1 : Int) (x1_2_0 : Int) (x1_2_1 : Int) (l1_2_2 : List SExpr) (x1_3_0 : Int) (x1_3_1_0 : Int) (x1_3_1_1 : Int) (l1_3_1_2 : List SExpr) (x1_3_2_0 : Int) (x1_3_2_1 : Int) (l1_3_2_2 : List SExpr) (l1_4 : List SStmt) (l1_5 : List SStmt) (x2 : Int) : Option ((List Int) × (List SPut) × Int × Int) :=
 if sp0_2 ≥ 20000 then
  some (lp0_0,lp0_1,sp0_2,x2)
 else
  match pr_Size.f K l1_4 with
  | none=>none
  | some r1 =>
   if x1_0=1 then
    match pr_mean_worth.f K lp0_0 lp0_1 (IntKind.i64.wrap (sp0_2+1)) lp0_3 sp0_4 x1_2_0 x1_2_1 l1_2_2 with
    | none=>none
    | some r2 =>
     if 0≤x1_1 then
      match lp0_0[(x1_1).toNat]? with
      | none=>none
      | some e1 =>
       some ((lp0_0.set ((x1_1).toNat) r2),lp0_1,IntKind.i64.wrap (sp0_2+1),sp0_4)
     else
      none
   else
    if x1_0=2 then
     match pr_mean_worth.f K lp0_0 lp0_1 (IntKind.i64.wrap (sp0_2+1)) lp0_3 sp0_4 x1_2_0 x1_2_1 l1_2_2 with
     | none=>none
     | some r3 =>
      if lp0_1.length<8796093022208 then
       some (lp0_0,(lp0_1++[(⟨x1_1,r3⟩:SPut)]),IntKind.i64.wrap (sp0_2+1),sp0_4)
      else
       none
    else
     if x1_0=3 then
      match pr_mean_true.f K lp0_0 lp0_1 (IntKind.i64.wrap (sp0_2+1)) lp0_3 sp0_4 x1_3_0 x1_3_1_0 x1_3_1_1 l1_3_1_2 x1_3_2_0 x1_3_2_1 l1_3_2_2 with
      | none=>none
      | some r4 =>
       if r4=true then
        match rec_pr_mean_all lp0_0 lp0_1 (IntKind.i64.wrap (sp0_2+1)) lp0_3 sp0_4 l1_4 (IntKind.i64.wrap (x2+1)) with
        | none=>none
        | some r5 =>
         some (r5.1,r5.2.1,r5.2.2.1,r5.2.2.2)
       else
        match rec_pr_mean_all lp0_0 lp0_1 (IntKind.i64.wrap (sp0_2+1)) lp0_3 sp0_4 l1_5 (IntKind.i64.wrap ((IntKind.i64.wrap (x2+1))+r1)) with
        | none=>none
        | some r6 =>
         some (r6.1,r6.2.1,r6.2.2.1,r6.2.2.2)
     else
      match pr_mean_one.p0 x1_0 with
      | none=>none
      | some (.inl q2) =>
       if q2=true then
        match iter (pr_mean_one.r1 K lp0_3 x1_0 x1_1 x1_3_0 x1_3_1_0 x1_3_1_1 l1_3_1_2 x1_3_2_0 x1_3_2_1 l1_3_2_2 l1_4 x2 rec_pr_mean_all) K (0,lp0_0,lp0_1,IntKind.i64.wrap (sp0_2+1),sp0_4) with
        | none=>none
        | some (.inl (m5,m6,z6,z7)) =>
         some (m5,m6,z6,z7)
        | some (.inr rr1) =>
         some rr1
       else
        if x1_0=6 then
         match rec_pr_mean_all lp0_0 lp0_1 (IntKind.i64.wrap (sp0_2+1)) lp0_3 sp0_4 l1_4 (IntKind.i64.wrap (x2+1)) with
         | none=>none
         | some r10 =>
          some (r10.1,r10.2.1,r10.2.2.1,r10.2.2.2)
        else
         some (lp0_0,lp0_1,IntKind.i64.wrap (sp0_2+1),sp0_4)
      | some (.inr rr2) =>
       some rr2
abbrev pr_mean_one.A0 (w0:World) (bp0:Nat) (lp0_0:List Int) (Ap0_0:OA) (cp0_0:Nat) (lp0_1:List SPut) (Ap0_1:OA) (cp0_1:Nat) (sp0_2:Int) (lp0_3:List Int) (Ap0_3:OA) (cp0_3:Nat) (sp0_4 x1_0 x1_1 x1_2_0 x1_2_1:Int) (l1_2_2:List SExpr) (A1_2_2:OA) (c1_2_2:Nat) (x1_3_0 x1_3_1_0 x1_3_1_1:Int) (l1_3_1_2:List SExpr) (A1_3_1_2:OA) (c1_3_1_2:Nat) (x1_3_2_0 x1_3_2_1:Int) (l1_3_2_2:List SExpr) (A1_3_2_2:OA) (c1_3_2_2:Nat) (l1_4:List SStmt) (A1_4:OA) (c1_4:Nat) (l1_5:List SStmt) (A1_5:OA) (c1_5:Nat) (x2:Int) (LT:List Own) (b1:Nat):Bool→Act→World→Prop:=fun (s:Bool) a w=>St w0 w [bk bp0 #[(.slice Ap0_0 lp0_0.length cp0_0),(.slice Ap0_1 lp0_1.length cp0_1),vI (IntKind.i64.wrap (sp0_2+1)),.slice Ap0_3 lp0_3.length cp0_3,vI sp0_4] 62,bk b1 #[vI x1_0,vI x1_1,vI x1_2_0,vI x1_2_1,.slice A1_2_2 l1_2_2.length c1_2_2,vI x1_3_0,vI x1_3_1_0,vI x1_3_1_1,.slice A1_3_1_2 l1_3_1_2.length c1_3_1_2,vI x1_3_2_0,vI x1_3_2_1,.slice A1_3_2_2 l1_3_2_2.length c1_3_2_2,.slice A1_4 l1_4.length c1_4,.slice A1_5 l1_5.length c1_5] 70,ro Ap0_0 cp0_0 3 lp0_0,ro Ap0_1 cp0_1 42 lp0_1,Own.all LT]∧Frm 127 a [(0,pP bp0 0),(2,vI x2),(4,pP b1 0),(34,vI x1_0),(86,.bool s)]
abbrev pr_mean_one.B0 (w0:World) (Z:Zone) (bp0:Nat) (lp0_0:List Int) (Ap0_0:OA) (cp0_0:Nat) (lp0_1:List SPut) (Ap0_1:OA) (cp0_1:Nat) (sp0_2:Int) (lp0_3:List Int) (Ap0_3:OA) (cp0_3:Nat) (sp0_4 x1_0 x1_1 x1_2_0 x1_2_1:Int) (l1_2_2:List SExpr) (A1_2_2:OA) (c1_2_2:Nat) (x1_3_0 x1_3_1_0 x1_3_1_1:Int) (l1_3_1_2:List SExpr) (A1_3_1_2:OA) (c1_3_1_2:Nat) (x1_3_2_0 x1_3_2_1:Int) (l1_3_2_2:List SExpr) (A1_3_2_2:OA) (c1_3_2_2:Nat) (l1_4:List SStmt) (A1_4:OA) (c1_4:Nat) (l1_5:List SStmt) (A1_5:OA) (c1_5:Nat) (x2:Int) (LT:List Own):((List Int)×(List SPut)×Int×Int)→Exit→Act→World→Prop:=Rets Try.prog Try.f46 (pr_mean_one.Post w0 Z bp0 lp0_0 Ap0_0 cp0_0 lp0_1 Ap0_1 cp0_1 sp0_2 lp0_3 Ap0_3 cp0_3 sp0_4 x1_0 x1_1 x1_2_0 x1_2_1 l1_2_2 A1_2_2 c1_2_2 x1_3_0 x1_3_1_0 x1_3_1_1 l1_3_1_2 A1_3_1_2 c1_3_1_2 x1_3_2_0 x1_3_2_1 l1_3_2_2 A1_3_2_2 c1_3_2_2 l1_4 A1_4 c1_4 l1_5 A1_5 c1_5 x2 LT)
theorem pr_mean_one_p0 (K:Nat) (w0:World) (Z:Zone) (bp0:Nat) (lp0_0:List Int) (Ap0_0:OA) (cp0_0:Nat) (lp0_1:List SPut) (Ap0_1:OA) (cp0_1:Nat) (sp0_2:Int) (lp0_3:List Int) (Ap0_3:OA) (cp0_3:Nat) (sp0_4 x1_0 x1_1 x1_2_0 x1_2_1:Int) (l1_2_2:List SExpr) (A1_2_2:OA) (c1_2_2:Nat) (x1_3_0 x1_3_1_0 x1_3_1_1:Int) (l1_3_1_2:List SExpr) (A1_3_1_2:OA) (c1_3_1_2:Nat) (x1_3_2_0 x1_3_2_1:Int) (l1_3_2_2:List SExpr) (A1_3_2_2:OA) (c1_3_2_2:Nat) (l1_4:List SStmt) (A1_4:OA) (c1_4:Nat) (l1_5:List SStmt) (A1_5:OA) (c1_5:Nat) (x2:Int) (LT:List Own) (hZ:∀ w L,St w0 w (Own.all LT::L)→∀ w',Sub w w'→Z w') (hRp0_3:RdL w0 Ap0_3 lp0_3) (hLp0_3:lp0_3.length≤cp0_3) (hR1_2_2:RdZ Z A1_2_2 l1_2_2) (hL1_2_2:l1_2_2.length≤c1_2_2) (hR1_3_1_2:RdZ Z A1_3_1_2 l1_3_1_2) (hL1_3_1_2:l1_3_1_2.length≤c1_3_1_2) (hR1_3_2_2:RdZ Z A1_3_2_2 l1_3_2_2) (hL1_3_2_2:l1_3_2_2.length≤c1_3_2_2) (hR1_4:RdZ Z A1_4 l1_4) (hL1_4:l1_4.length≤c1_4) (hR1_5:RdZ Z A1_5 l1_5) (hL1_5:l1_5.length≤c1_5) (rec_pr_mean_all:(List Int)→(List SPut)→Int→(List Int)→Int→(List SStmt)→Int→Option ((List Int)×(List SPut)×Int×Int)) (hr_pr_mean_all:pr_mean_all.Rec rec_pr_mean_all) (b1:Nat) (hc1:¬ (sp0_2 ≥ 20000)) (r1:Int) (hc2:¬ (x1_0=1)) (hc4:¬ (x1_0=2)) (hc6:¬ (x1_0=3)) (o:Bool ⊕ ((List Int)×(List SPut)×Int×Int)) (h:pr_mean_one.p0 x1_0=some o) (w:World) (hS:St w0 w [bk bp0 #[(.slice Ap0_0 lp0_0.length cp0_0),(.slice Ap0_1 lp0_1.length cp0_1),vI (IntKind.i64.wrap (sp0_2+1)),.slice Ap0_3 lp0_3.length cp0_3,vI sp0_4] 62,bk b1 #[vI x1_0,vI x1_1,vI x1_2_0,vI x1_2_1,.slice A1_2_2 l1_2_2.length c1_2_2,vI x1_3_0,vI x1_3_1_0,vI x1_3_1_1,.slice A1_3_1_2 l1_3_1_2.length c1_3_1_2,vI x1_3_2_0,vI x1_3_2_1,.slice A1_3_2_2 l1_3_2_2.length c1_3_2_2,.slice A1_4 l1_4.length c1_4,.slice A1_5 l1_5.length c1_5] 70,ro Ap0_0 cp0_0 3 lp0_0,ro Ap0_1 cp0_1 42 lp0_1,Own.all LT]) (Q:Exit→Act→World→Prop) (hQ:∀ x a w,Outs (pr_mean_one.A0 w0 bp0 lp0_0 Ap0_0 cp0_0 lp0_1 Ap0_1 cp0_1 sp0_2 lp0_3 Ap0_3 cp0_3 sp0_4 x1_0 x1_1 x1_2_0 x1_2_1 l1_2_2 A1_2_2 c1_2_2 x1_3_0 x1_3_1_0 x1_3_1_1 l1_3_1_2 A1_3_1_2 c1_3_1_2 x1_3_2_0 x1_3_2_1 l1_3_2_2 A1_3_2_2 c1_3_2_2 l1_4 A1_4 c1_4 l1_5 A1_5 c1_5 x2 LT b1) (pr_mean_one.B0 w0 Z bp0 lp0_0 Ap0_0 cp0_0 lp0_1 Ap0_1 cp0_1 sp0_2 lp0_3 Ap0_3 cp0_3 sp0_4 x1_0 x1_1 x1_2_0 x1_2_1 l1_2_2 A1_2_2 c1_2_2 x1_3_0 x1_3_1_0 x1_3_1_1 l1_3_1_2 A1_3_1_2 c1_3_1_2 x1_3_2_0 x1_3_2_1 l1_3_2_2 A1_3_2_2 c1_3_2_2 l1_4 A1_4 c1_4 l1_5 A1_5 c1_5 x2 LT) o x a w→Q x a w):WE Try.prog 127 (subF Try.f46 [1,1,1,1,1,0,1,1,1,1,1,1,0]) Q ((0,pP bp0 0)::(1,.agg #[vI x1_0,vI x1_1,vI x1_2_0,vI x1_2_1,.slice A1_2_2 l1_2_2.length c1_2_2,vI x1_3_0,vI x1_3_1_0,vI x1_3_1_1,.slice A1_3_1_2 l1_3_1_2.length c1_3_1_2,vI x1_3_2_0,vI x1_3_2_1,.slice A1_3_2_2 l1_3_2_2.length c1_3_2_2,.slice A1_4 l1_4.length c1_4,.slice A1_5 l1_5.length c1_5])::(2,vI x2)::(4,pP b1 0)::(6,vI (IntKind.i64.wrap ((IntKind.i64.wrap (x2+1))+r1)))::(8,pP bp0 0)::(9,pP bp0 0)::(10,pP bp0 0)::(11,pP bp0 2)::(12,vI sp0_2)::(13,.bool false)::(18,pP bp0 0)::(19,pP bp0 0)::(20,pP bp0 0)::(21,pP bp0 2)::(22,vI sp0_2)::(23,vI (IntKind.i64.wrap (sp0_2+1)))::(24,pP bp0 0)::(25,pP bp0 0)::(26,pP bp0 2)::(27,vI x2)::(28,vI (IntKind.i64.wrap (x2+1)))::(29,pP b1 12)::(30,.slice A1_4 l1_4.length c1_4)::(31,vI r1)::(32,vI (IntKind.i64.wrap ((IntKind.i64.wrap (x2+1))+r1)))::(33,pP b1 0)::(34,vI x1_0)::(35,.bool false)::(36,.bool (x1_0==1))::(49,.bool false)::(50,.bool (x1_0==2))::(69,.bool false)::(70,.bool (x1_0==3))::[]) w:=by
 simp only [pr_mean_one.p0] at h
 refine ws fun K13 hK13=>wr [(0,0),(1,0)]<|gb0 [0,1] [(86,.bool (x1_0==4)),(87,.bool (x1_0==4))]<|gn hK13 ?_
 by_cases hc8:x1_0=4
 ·rw [if_pos hc8] at h
  refine wk 86 (x1_0==4) true (beq_iff_eq.2 hc8)<|wt ?_
  have hS81:=((((hS.b 4).b 4).b 4).b 4).b 4
  obtain rfl:=si h
  exact we_skip fun a hF=>hQ _ _ _ (Outs.again ⟨hS81,hF.weaken ea⟩)
 rw [if_neg hc8] at h
 refine wk 86 (x1_0==4) false (beq_eq_false_iff_ne.2 hc8)<|wf<|wr [(0,0),(1,0)]<|gb0 [0,1] [(86,.bool (x1_0==5)),(88,.bool (x1_0==5))] ?_
 have hS86:=((((hS.b 4).b 4).b 4).b 4).b 4
 obtain rfl:=si h
 exact ge_nil fun a hF=>hQ _ _ _ (Outs.again ⟨hS86,hF.weaken ea⟩)
abbrev pr_mean_one.A1 (w0:World) (bp0:Nat) (lp0_3:List Int) (Ap0_3:OA) (cp0_3:Nat) (x1_0 x1_1 x1_2_0 x1_2_1:Int) (l1_2_2:List SExpr) (A1_2_2:OA) (c1_2_2:Nat) (x1_3_0 x1_3_1_0 x1_3_1_1:Int) (l1_3_1_2:List SExpr) (A1_3_1_2:OA) (c1_3_1_2:Nat) (x1_3_2_0 x1_3_2_1:Int) (l1_3_2_2:List SExpr) (A1_3_2_2:OA) (c1_3_2_2:Nat) (l1_4:List SStmt) (A1_4:OA) (c1_4:Nat) (l1_5:List SStmt) (A1_5:OA) (c1_5:Nat) (x2:Int) (LT:List Own) (b1:Nat):(Int×(List Int)×(List SPut)×Int×Int)→Act→World→Prop:=fun (s:Int×(List Int)×(List SPut)×Int×Int) a w=>∃ (v6:Value) (v7:Value),St w0 w [bk bp0 #[v6,v7,vI s.2.2.2.1,.slice Ap0_3 lp0_3.length cp0_3,vI s.2.2.2.2] 62,bk b1 #[vI x1_0,vI x1_1,vI x1_2_0,vI x1_2_1,.slice A1_2_2 l1_2_2.length c1_2_2,vI x1_3_0,vI x1_3_1_0,vI x1_3_1_1,.slice A1_3_1_2 l1_3_1_2.length c1_3_1_2,vI x1_3_2_0,vI x1_3_2_1,.slice A1_3_2_2 l1_3_2_2.length c1_3_2_2,.slice A1_4 l1_4.length c1_4,.slice A1_5 l1_5.length c1_5] 70,Own.of v6 3 s.2.1,Own.of v7 42 s.2.2.1,Own.all LT]∧Frm 127 a [(0,pP bp0 0),(2,vI x2),(4,pP b1 0),(7,vI s.1)]
abbrev pr_mean_one.B1 (w0:World) (Z:Zone) (bp0:Nat) (lp0_0:List Int) (Ap0_0:OA) (cp0_0:Nat) (lp0_1:List SPut) (Ap0_1:OA) (cp0_1:Nat) (sp0_2:Int) (lp0_3:List Int) (Ap0_3:OA) (cp0_3:Nat) (sp0_4 x1_0 x1_1 x1_2_0 x1_2_1:Int) (l1_2_2:List SExpr) (A1_2_2:OA) (c1_2_2:Nat) (x1_3_0 x1_3_1_0 x1_3_1_1:Int) (l1_3_1_2:List SExpr) (A1_3_1_2:OA) (c1_3_1_2:Nat) (x1_3_2_0 x1_3_2_1:Int) (l1_3_2_2:List SExpr) (A1_3_2_2:OA) (c1_3_2_2:Nat) (l1_4:List SStmt) (A1_4:OA) (c1_4:Nat) (l1_5:List SStmt) (A1_5:OA) (c1_5:Nat) (x2:Int) (LT:List Own):(((List Int)×(List SPut)×Int×Int) ⊕ ((List Int)×(List SPut)×Int×Int))→Exit→Act→World→Prop:=Exits 1 (fun (s:(List Int)×(List SPut)×Int×Int) a w=>∃ (v8:Value) (v9:Value),St w0 w [bk bp0 #[v8,v9,vI s.2.2.1,.slice Ap0_3 lp0_3.length cp0_3,vI s.2.2.2] 62,Own.of v8 3 s.1,Own.of v9 42 s.2.1,Own.all LT]∧Frm 127 a [(0,pP bp0 0)]) (Rets Try.prog Try.f46 (pr_mean_one.Post w0 Z bp0 lp0_0 Ap0_0 cp0_0 lp0_1 Ap0_1 cp0_1 sp0_2 lp0_3 Ap0_3 cp0_3 sp0_4 x1_0 x1_1 x1_2_0 x1_2_1 l1_2_2 A1_2_2 c1_2_2 x1_3_0 x1_3_1_0 x1_3_1_1 l1_3_1_2 A1_3_1_2 c1_3_1_2 x1_3_2_0 x1_3_2_1 l1_3_2_2 A1_3_2_2 c1_3_2_2 l1_4 A1_4 c1_4 l1_5 A1_5 c1_5 x2 LT))
theorem pr_mean_one_r1 (K:Nat) (w0:World) (Z:Zone) (bp0:Nat) (lp0_0:List Int) (Ap0_0:OA) (cp0_0:Nat) (lp0_1:List SPut) (Ap0_1:OA) (cp0_1:Nat) (sp0_2:Int) (lp0_3:List Int) (Ap0_3:OA) (cp0_3:Nat) (sp0_4 x1_0 x1_1 x1_2_0 x1_2_1:Int) (l1_2_2:List SExpr) (A1_2_2:OA) (c1_2_2:Nat) (x1_3_0 x1_3_1_0 x1_3_1_1:Int) (l1_3_1_2:List SExpr) (A1_3_1_2:OA) (c1_3_1_2:Nat) (x1_3_2_0 x1_3_2_1:Int) (l1_3_2_2:List SExpr) (A1_3_2_2:OA) (c1_3_2_2:Nat) (l1_4:List SStmt) (A1_4:OA) (c1_4:Nat) (l1_5:List SStmt) (A1_5:OA) (c1_5:Nat) (x2:Int) (LT:List Own) (hZ:∀ w L,St w0 w (Own.all LT::L)→∀ w',Sub w w'→Z w') (hRp0_3:RdL w0 Ap0_3 lp0_3) (hLp0_3:lp0_3.length≤cp0_3) (hR1_2_2:RdZ Z A1_2_2 l1_2_2) (hL1_2_2:l1_2_2.length≤c1_2_2) (hR1_3_1_2:RdZ Z A1_3_1_2 l1_3_1_2) (hL1_3_1_2:l1_3_1_2.length≤c1_3_1_2) (hR1_3_2_2:RdZ Z A1_3_2_2 l1_3_2_2) (hL1_3_2_2:l1_3_2_2.length≤c1_3_2_2) (hR1_4:RdZ Z A1_4 l1_4) (hL1_4:l1_4.length≤c1_4) (hR1_5:RdZ Z A1_5 l1_5) (hL1_5:l1_5.length≤c1_5) (rec_pr_mean_all:(List Int)→(List SPut)→Int→(List Int)→Int→(List SStmt)→Int→Option ((List Int)×(List SPut)×Int×Int)) (hr_pr_mean_all:pr_mean_all.Rec rec_pr_mean_all) (b1:Nat) (hc1:¬ (sp0_2 ≥ 20000)) (r1:Int) (hc2:¬ (x1_0=1)) (hc4:¬ (x1_0=2)) (hc6:¬ (x1_0=3)) (q2:Bool) (hc9:q2=true) (s:Int×(List Int)×(List SPut)×Int×Int) (o:(Int×(List Int)×(List SPut)×Int×Int) ⊕ (((List Int)×(List SPut)×Int×Int) ⊕ ((List Int)×(List SPut)×Int×Int))) (h:pr_mean_one.r1 K lp0_3 x1_0 x1_1 x1_3_0 x1_3_1_0 x1_3_1_1 l1_3_1_2 x1_3_2_0 x1_3_2_1 l1_3_2_2 l1_4 x2 rec_pr_mean_all s=some o) (a:Act) (w:World) (hA:pr_mean_one.A1 w0 bp0 lp0_3 Ap0_3 cp0_3 x1_0 x1_1 x1_2_0 x1_2_1 l1_2_2 A1_2_2 c1_2_2 x1_3_0 x1_3_1_0 x1_3_1_1 l1_3_1_2 A1_3_1_2 c1_3_1_2 x1_3_2_0 x1_3_2_1 l1_3_2_2 A1_3_2_2 c1_3_2_2 l1_4 A1_4 c1_4 l1_5 A1_5 c1_5 x2 LT b1 s a w) (Q:Exit→Act→World→Prop) (hQ:∀ x a w,Outs (pr_mean_one.A1 w0 bp0 lp0_3 Ap0_3 cp0_3 x1_0 x1_1 x1_2_0 x1_2_1 l1_2_2 A1_2_2 c1_2_2 x1_3_0 x1_3_1_0 x1_3_1_1 l1_3_1_2 A1_3_1_2 c1_3_1_2 x1_3_2_0 x1_3_2_1 l1_3_2_2 A1_3_2_2 c1_3_2_2 l1_4 A1_4 c1_4 l1_5 A1_5 c1_5 x2 LT b1) (pr_mean_one.B1 w0 Z bp0 lp0_0 Ap0_0 cp0_0 lp0_1 Ap0_1 cp0_1 sp0_2 lp0_3 Ap0_3 cp0_3 sp0_4 x1_0 x1_1 x1_2_0 x1_2_1 l1_2_2 A1_2_2 c1_2_2 x1_3_0 x1_3_1_0 x1_3_1_1 l1_3_1_2 A1_3_1_2 c1_3_1_2 x1_3_2_0 x1_3_2_1 l1_3_2_2 A1_3_2_2 c1_3_2_2 l1_4 A1_4 c1_4 l1_5 A1_5 c1_5 x2 LT) o x a w→Q x a w):(subF Try.f46 [1,1,1,1,1,0,1,1,1,1,1,1,1,0,1,0,0]).wp Try.prog Q a w:=by
 obtain ⟨z1,m1,m2,z2,z3⟩:=s
 obtain ⟨v6,v7,hS,hF⟩:=hA
 replace hS:St w0 w [bk bp0 #[v6,v7,vI z2,.slice Ap0_3 lp0_3.length cp0_3,vI z3] 62,bk b1 #[vI x1_0,vI x1_1,vI x1_2_0,vI x1_2_1,.slice A1_2_2 l1_2_2.length c1_2_2,vI x1_3_0,vI x1_3_1_0,vI x1_3_1_1,.slice A1_3_1_2 l1_3_1_2.length c1_3_1_2,vI x1_3_2_0,vI x1_3_2_1,.slice A1_3_2_2 l1_3_2_2.length c1_3_2_2,.slice A1_4 l1_4.length c1_4,.slice A1_5 l1_5.length c1_5] 70,Own.of v6 3 m1,Own.of v7 42 m2,Own.all LT]:=hS
 simp only [pr_mean_one.r1] at h
 refine (?_:WE Try.prog 127 (subF Try.f46 [1,1,1,1,1,0,1,1,1,1,1,1,1,0,1,0,0]) Q [(0,pP bp0 0),(2,vI x2),(4,pP b1 0),(7,vI z1)] w) a hF
 clear hF a
 refine ws fun K15 hK15=>ws fun K16 hK16=>wr [(0,0),(1,0),(2,0),(3,0),(4,0),(5,0),(6,0),(7,0),(8,0),(9,0),(10,0),(11,0),(12,0),(13,0),(14,0),(15,0),(16,0),(17,0),(18,0),(19,2),(20,0),(21,0)]<|gb [0,1,2,3,4] [(93,.bool (decide (z1<x1_1))),(92,.bool (decide (z1<x1_1))),(91,vI x1_1),(90,pP b1 1),(89,vI z1)] [ld b1 1 (vI x1_1)] ⟨hS.c 1,trivial⟩ ?_
 by_cases hc10:z1<x1_1
 ·rw [if_pos hc10] at h
  refine gk 93 (decide (z1<x1_1)) true (decide_eq_true hc10)<|gb [5,6,7,8,9,10,11] [(100,.bool (decide (z3<0))),(99,.bool (decide (z3<0))),(98,.bool (decide (z3<0))),(97,vI z3),(96,pP bp0 4),(95,pP bp0 0),(94,pP bp0 0)] [ld bp0 4 (vI z3)] ⟨hS.c 0,trivial⟩ ?_
  by_cases hc11:z3<0
  ·rw [if_pos hc11] at h
   refine gk 100 (decide (z3<0)) true (decide_eq_true hc11)<|gb [12,13,14,15] [(104,.bool (x1_0==4)),(103,.bool (x1_0==4)),(102,vI x1_0),(101,pP b1 0)] [ld b1 0 (vI x1_0)] ⟨hS.c 1,trivial⟩ ?_
   by_cases hc12:x1_0=4
   ·rw [if_pos hc12] at h
    refine gk 104 (x1_0==4) true (beq_iff_eq.2 hc12)<|gb0 [16,17,18] [(107,undef),(106,undef),(105,undef)]<|ge_off rfl rfl rfl (by kernel_rfl) ?_
    refine gb0 [20,21] [(110,.bool true),(109,.bool true)]<|gn hK16<|wt<|we_skip fun a hF=>hK15 _ _ ?_ a hF
    refine ws fun K17 hK17=>we_block<|wr [(0,0),(1,0),(2,0),(3,0),(4,0),(5,2)]<|gb [0,1,2,3,4] [(117,vI (IntKind.i64.wrap (x2+1))),(116,vI x2),(115,.slice A1_4 l1_4.length c1_4),(114,pP b1 12),(113,pP bp0 0)] [ld b1 12 (.slice A1_4 l1_4.length c1_4)] ⟨hS.c 1,trivial⟩ ?_
    obtain ⟨Z2,cz2,rfl⟩:=hS.open 2 rfl
    obtain ⟨Z3,cz3,rfl⟩:=hS.open 3 rfl
    rcases hq8:rec_pr_mean_all m1 m2 z2 lp0_3 z3 l1_4 (IntKind.i64.wrap (x2+1)) with _ | r7
    ·rw [hq8] at h; cases h
    rw [hq8] at h
    simp only [] at h
    have hS97:=(((hS.b 3).b 3).b 2).packN 3
    refine ge_call2 (m:=0) (d:=some 118) (f:=30) (args:=#[pP bp0 0,.slice A1_4 l1_4.length c1_4,vI (IntKind.i64.wrap (x2+1))]) (by kernel_rfl) (hr_pr_mean_all Z bp0 m1 Z2 cz2 m2 Z3 cz3 z2 lp0_3 Ap0_3 cp0_3 z3 l1_4 A1_4 c1_4 (IntKind.i64.wrap (x2+1)) _ _ _ hS97 (fun w L h w' k=>(hZ _ _ (h.spread.bring 1 rfl) w' k)) hRp0_3 hLp0_3 hR1_4 hL1_4 _ hq8) ?_
    rintro _ w15 ⟨v10,v11,rfl,hS96⟩
    refine ⟨_,rfl,?_⟩
    have hS98:=hS96.unpack [bk bp0 #[v10,v11,vI r7.2.2.1,.slice Ap0_3 lp0_3.length cp0_3,vI r7.2.2.2] 62,Own.of v10 3 r7.1,Own.of v11 42 r7.2.1]
    refine gn hK17<|wr [(0,0),(1,0),(2,0)]<|gb0 [0,1,2] [(7,vI (IntKind.i64.wrap (z1+1))),(112,vI (IntKind.i64.wrap (z1+1))),(111,vI z1)] ?_
    have hS103:=((((hS98.b 4).b 3).b 3).b 4).b 4
    obtain rfl:=si h
    exact ge_nil fun a hF=>hQ _ _ _ (Outs.again ⟨v10,v11,hS103,hF.weaken ea⟩)
   rw [if_neg hc12] at h
   refine gk 104 (x1_0==4) false (beq_eq_false_iff_ne.2 hc12)<|gb [16,17,18] [(107,.agg #[vI x1_3_0,vI x1_3_1_0,vI x1_3_1_1,.slice A1_3_1_2 l1_3_1_2.length c1_3_1_2,vI x1_3_2_0,vI x1_3_2_1,.slice A1_3_2_2 l1_3_2_2.length c1_3_2_2]),(106,pP b1 5),(105,pP bp0 0)] [ld b1 5 (vI x1_3_0),ld b1 6 (vI x1_3_1_0),ld b1 7 (vI x1_3_1_1),ld b1 8 (.slice A1_3_1_2 l1_3_1_2.length c1_3_1_2),ld b1 9 (vI x1_3_2_0),ld b1 10 (vI x1_3_2_1),ld b1 11 (.slice A1_3_2_2 l1_3_2_2.length c1_3_2_2)] ⟨hS.c 1,hS.c 1,hS.c 1,hS.c 1,hS.c 1,hS.c 1,hS.c 1,trivial⟩ ?_
   obtain ⟨Z4,cz4,rfl⟩:=hS.open 2 rfl
   obtain ⟨Z5,cz5,rfl⟩:=hS.open 3 rfl
   rcases hq9:pr_mean_true.f K m1 m2 z2 lp0_3 z3 x1_3_0 x1_3_1_0 x1_3_1_1 l1_3_1_2 x1_3_2_0 x1_3_2_1 l1_3_2_2 with _ | r8
   ·rw [hq9] at h; cases h
   rw [hq9] at h
   simp only [] at h
   have hS108:=(((hS.b 3).b 3).b 2).packN 3
   refine ge_call2 (m:=0) (d:=some 108) (f:=63) (args:=#[pP bp0 0,.agg #[vI x1_3_0,vI x1_3_1_0,vI x1_3_1_1,.slice A1_3_1_2 l1_3_1_2.length c1_3_1_2,vI x1_3_2_0,vI x1_3_2_1,.slice A1_3_2_2 l1_3_2_2.length c1_3_2_2]]) (by kernel_rfl) (pr_mean_true_ok K Z bp0 m1 Z4 cz4 m2 Z5 cz5 z2 lp0_3 Ap0_3 cp0_3 z3 x1_3_0 x1_3_1_0 x1_3_1_1 l1_3_1_2 A1_3_1_2 c1_3_1_2 x1_3_2_0 x1_3_2_1 l1_3_2_2 A1_3_2_2 c1_3_2_2 _ _ _ hS108 (fun w L h w' k=>(hZ _ _ (h.spread.bring 1 rfl) w' k)) hRp0_3 hLp0_3 hR1_3_1_2 hL1_3_1_2 hR1_3_2_2 hL1_3_2_2 _ hq9) ?_
   rintro _ w16 ⟨rfl,hS107⟩
   refine ⟨_,rfl,?_⟩
   have hS109:=hS107.unpack [bk bp0 #[(.slice Z4 m1.length cz4),(.slice Z5 m2.length cz5),vI z2,.slice Ap0_3 lp0_3.length cp0_3,vI z3] 62,ro Z4 cz4 3 m1,ro Z5 cz5 42 m2]
   refine gb0 [20,21] [(110,.bool r8),(109,.bool r8)]<|gn hK16 ?_
   by_cases hc13:r8=true
   ·rw [if_pos hc13] at h
    refine wk 110 r8 true hc13<|wt<|we_skip fun a hF=>hK15 _ _ ?_ a hF
    refine ws fun K18 hK18=>we_block<|wr [(0,0),(1,0),(2,0),(3,0),(4,0),(5,2)]<|gb [0,1,2,3,4] [(117,vI (IntKind.i64.wrap (x2+1))),(116,vI x2),(115,.slice A1_4 l1_4.length c1_4),(114,pP b1 12),(113,pP bp0 0)] [ld b1 12 (.slice A1_4 l1_4.length c1_4)] ⟨hS109.c 3,trivial⟩ ?_
    rcases hq10:rec_pr_mean_all m1 m2 z2 lp0_3 z3 l1_4 (IntKind.i64.wrap (x2+1)) with _ | r9
    ·rw [hq10] at h; cases h
    rw [hq10] at h
    simp only [] at h
    have hS114:=(((hS109.b 2).b 2).b 2).packN 3
    refine ge_call2 (m:=0) (d:=some 118) (f:=30) (args:=#[pP bp0 0,.slice A1_4 l1_4.length c1_4,vI (IntKind.i64.wrap (x2+1))]) (by kernel_rfl) (hr_pr_mean_all Z bp0 m1 Z4 cz4 m2 Z5 cz5 z2 lp0_3 Ap0_3 cp0_3 z3 l1_4 A1_4 c1_4 (IntKind.i64.wrap (x2+1)) _ _ _ hS114 (fun w L h w' k=>(hZ _ _ (h.spread.bring 1 rfl) w' k)) hRp0_3 hLp0_3 hR1_4 hL1_4 _ hq10) ?_
    rintro _ w17 ⟨v12,v13,rfl,hS113⟩
    refine ⟨_,rfl,?_⟩
    have hS115:=hS113.unpack [bk bp0 #[v12,v13,vI r9.2.2.1,.slice Ap0_3 lp0_3.length cp0_3,vI r9.2.2.2] 62,Own.of v12 3 r9.1,Own.of v13 42 r9.2.1]
    refine gn hK18<|wr [(0,0),(1,0),(2,0)]<|gb0 [0,1,2] [(7,vI (IntKind.i64.wrap (z1+1))),(112,vI (IntKind.i64.wrap (z1+1))),(111,vI z1)] ?_
    have hS120:=((((hS115.b 4).b 3).b 3).b 4).b 4
    obtain rfl:=si h
    exact ge_nil fun a hF=>hQ _ _ _ (Outs.again ⟨v12,v13,hS120,hF.weaken ea⟩)
   rw [if_neg hc13] at h
   refine wk 110 r8 false (Bool.eq_false_iff.2 hc13)<|wf ?_
   have hS125:=hS109.p [0,1,2,4] rfl
   obtain rfl:=si h
   exact we_exit fun a hF=>hQ _ _ _ (Outs.out nofun (Exits.here ⟨(.slice Z4 m1.length cz4),(.slice Z5 m2.length cz5),hS125,hF.weaken ea⟩))
  rw [if_neg hc11] at h
  refine gk 100 (decide (z3<0)) false (decide_eq_false hc11)<|gb0 [12,13,14,15,16,17,18] [(107,undef),(106,undef),(105,undef),(104,undef),(103,undef),(102,undef),(101,undef)]<|ge_off rfl rfl rfl (by kernel_rfl) ?_
  refine gb0 [20,21] [(110,.bool false),(109,undef)]<|gn hK16<|wf ?_
  have hS130:=hS.p [0,2,3,4] rfl
  obtain rfl:=si h
  exact we_exit fun a hF=>hQ _ _ _ (Outs.out nofun (Exits.here ⟨v6,v7,hS130,hF.weaken ea⟩))
 rw [if_neg hc10] at h
 refine gk 93 (decide (z1<x1_1)) false (decide_eq_false hc10)<|gb0 [5,6,7,8,9,10,11,12,13,14,15,16,17,18] [(107,undef),(106,undef),(105,undef),(104,undef),(103,undef),(102,undef),(101,undef),(100,.bool false),(99,.bool false),(98,undef),(97,undef),(96,undef),(95,undef),(94,undef)]<|ge_off rfl rfl rfl (by kernel_rfl) ?_
 refine gb0 [20,21] [(110,.bool false),(109,undef)]<|gn hK16<|wf ?_
 have hS135:=hS.p [0,2,3,4] rfl
 obtain rfl:=si h
 exact we_exit fun a hF=>hQ _ _ _ (Outs.out nofun (Exits.here ⟨v6,v7,hS135,hF.weaken ea⟩))
theorem pr_mean_one_step (K:Nat) (rec_pr_mean_all:(List Int)→(List SPut)→Int→(List Int)→Int→(List SStmt)→Int→Option ((List Int)×(List SPut)×Int×Int)) (hr_pr_mean_all:pr_mean_all.Rec rec_pr_mean_all) (Z:Zone) (bp0:Nat) (lp0_0:List Int) (Ap0_0:OA) (cp0_0:Nat) (lp0_1:List SPut) (Ap0_1:OA) (cp0_1:Nat) (sp0_2:Int) (lp0_3:List Int) (Ap0_3:OA) (cp0_3:Nat) (sp0_4 x1_0 x1_1 x1_2_0 x1_2_1:Int) (l1_2_2:List SExpr) (A1_2_2:OA) (c1_2_2:Nat) (x1_3_0 x1_3_1_0 x1_3_1_1:Int) (l1_3_1_2:List SExpr) (A1_3_1_2:OA) (c1_3_1_2:Nat) (x1_3_2_0 x1_3_2_1:Int) (l1_3_2_2:List SExpr) (A1_3_2_2:OA) (c1_3_2_2:Nat) (l1_4:List SStmt) (A1_4:OA) (c1_4:Nat) (l1_5:List SStmt) (A1_5:OA) (c1_5:Nat) (x2:Int) (w0 wE:World) (LT:List Own) (hS:St w0 wE [bk bp0 #[(.slice Ap0_0 lp0_0.length cp0_0),(.slice Ap0_1 lp0_1.length cp0_1),vI sp0_2,.slice Ap0_3 lp0_3.length cp0_3,vI sp0_4] 62,ro Ap0_0 cp0_0 3 lp0_0,ro Ap0_1 cp0_1 42 lp0_1,Own.all LT]) (hZ:∀ w L,St w0 w (Own.all LT::L)→∀ w',Sub w w'→Z w') (hRp0_3:RdL w0 Ap0_3 lp0_3) (hLp0_3:lp0_3.length≤cp0_3) (hR1_2_2:RdZ Z A1_2_2 l1_2_2) (hL1_2_2:l1_2_2.length≤c1_2_2) (hR1_3_1_2:RdZ Z A1_3_1_2 l1_3_1_2) (hL1_3_1_2:l1_3_1_2.length≤c1_3_1_2) (hR1_3_2_2:RdZ Z A1_3_2_2 l1_3_2_2) (hL1_3_2_2:l1_3_2_2.length≤c1_3_2_2) (hR1_4:RdZ Z A1_4 l1_4) (hL1_4:l1_4.length≤c1_4) (hR1_5:RdZ Z A1_5 l1_5) (hL1_5:l1_5.length≤c1_5) (r:(List Int)×(List SPut)×Int×Int) (h:pr_mean_one.b K rec_pr_mean_all lp0_0 lp0_1 sp0_2 lp0_3 sp0_4 x1_0 x1_1 x1_2_0 x1_2_1 l1_2_2 x1_3_0 x1_3_1_0 x1_3_1_1 l1_3_1_2 x1_3_2_0 x1_3_2_1 l1_3_2_2 l1_4 l1_5 x2=some r) :
  Calls Try.prog 46 #[pP bp0 0,.agg #[vI x1_0,vI x1_1,vI x1_2_0,vI x1_2_1,.slice A1_2_2 l1_2_2.length c1_2_2,vI x1_3_0,vI x1_3_1_0,vI x1_3_1_1,.slice A1_3_1_2 l1_3_1_2.length c1_3_1_2,vI x1_3_2_0,vI x1_3_2_1,.slice A1_3_2_2 l1_3_2_2.length c1_3_2_2,.slice A1_4 l1_4.length c1_4,.slice A1_5 l1_5.length c1_5],vI x2] wE (pr_mean_one.Post w0 Z bp0 lp0_0 Ap0_0 cp0_0 lp0_1 Ap0_1 cp0_1 sp0_2 lp0_3 Ap0_3 cp0_3 sp0_4 x1_0 x1_1 x1_2_0 x1_2_1 l1_2_2 A1_2_2 c1_2_2 x1_3_0 x1_3_1_0 x1_3_1_1 l1_3_1_2 A1_3_1_2 c1_3_1_2 x1_3_2_0 x1_3_2_1 l1_3_2_2 A1_3_2_2 c1_3_2_2 l1_4 A1_4 c1_4 l1_5 A1_5 c1_5 x2 LT r):=by
 unfold pr_mean_one.b at h
 refine calls_enter (n:=127) (args:=[pP bp0 0,.agg #[vI x1_0,vI x1_1,vI x1_2_0,vI x1_2_1,.slice A1_2_2 l1_2_2.length c1_2_2,vI x1_3_0,vI x1_3_1_0,vI x1_3_1_1,.slice A1_3_1_2 l1_3_1_2.length c1_3_1_2,vI x1_3_2_0,vI x1_3_2_1,.slice A1_3_2_2 l1_3_2_2.length c1_3_2_2,.slice A1_4 l1_4.length c1_4,.slice A1_5 l1_5.length c1_5],vI x2]) (fn:=Try.f46) rfl rfl rfl rfl ?_
 show WE _ _ _ _ [(0,pP bp0 0),(1,.agg #[vI x1_0,vI x1_1,vI x1_2_0,vI x1_2_1,.slice A1_2_2 l1_2_2.length c1_2_2,vI x1_3_0,vI x1_3_1_0,vI x1_3_1_1,.slice A1_3_1_2 l1_3_1_2.length c1_3_1_2,vI x1_3_2_0,vI x1_3_2_1,.slice A1_3_2_2 l1_3_2_2.length c1_3_2_2,.slice A1_4 l1_4.length c1_4,.slice A1_5 l1_5.length c1_5]),(2,vI x2)] _
 refine ws fun K1 hK1=>wr [(0,1)]<|gw (some 4) (.cells #[vI x1_0,vI x1_1,vI x1_2_0,vI x1_2_1,.slice A1_2_2 l1_2_2.length c1_2_2,vI x1_3_0,vI x1_3_1_0,vI x1_3_1_1,.slice A1_3_1_2 l1_3_1_2.length c1_3_1_2,vI x1_3_2_0,vI x1_3_2_1,.slice A1_3_2_2 l1_3_2_2.length c1_3_2_2,.slice A1_4 l1_4.length c1_4,.slice A1_5 l1_5.length c1_5] 70) (fun b=>pP b 0) hS fun b1 w1 hx1 hS1=>?_
 refine gn hK1<|ws fun K2 hK2=>ws fun K3 hK3=>wr [(0,0),(1,0),(2,0),(3,0),(4,0),(5,0)]<|gb [0,1,2,3,4,5] [(13,.bool (decide (sp0_2 ≥ 20000))),(12,vI sp0_2),(11,pP bp0 2),(10,pP bp0 0),(9,pP bp0 0),(8,pP bp0 0)] [ld bp0 2 (vI sp0_2)] ⟨hS1.c 1,trivial⟩<|gn hK3 ?_
 by_cases hc1:sp0_2 ≥ 20000
 ·rw [if_pos hc1] at h
  refine wk 13 (decide (sp0_2 ≥ 20000)) true (decide_eq_true hc1)<|wt<|ws fun K4 hK4=>wr [(0,0),(1,0),(2,0),(3,0),(4,2)]<|gb0 [0,1,2,3] [(17,pP bp0 4),(16,pP bp0 0),(15,vI x2),(14,pP bp0 0)] ?_
  have hS2:=hS1.b 1
  refine gs bp0 4 #[(.slice Ap0_0 lp0_0.length cp0_0),(.slice Ap0_1 lp0_1.length cp0_1),vI sp0_2,.slice Ap0_3 lp0_3.length cp0_3,vI sp0_4] 62 [vI x2] hS2 fun w2 hS3=>?_
  have hS4:=hS3.nc #[(.slice Ap0_0 lp0_0.length cp0_0),(.slice Ap0_1 lp0_1.length cp0_1),vI sp0_2,.slice Ap0_3 lp0_3.length cp0_3,vI x2] (by kernel_rfl)
  refine gn hK4 ?_
  have hS9:=hS4.p [0,2,3,4] rfl
  obtain rfl:=si h
  exact we_ret (pr0 [] [] ⟨(.slice Ap0_0 lp0_0.length cp0_0),(.slice Ap0_1 lp0_1.length cp0_1),rfl,hS9⟩)
 rw [if_neg hc1] at h
 refine wk 13 (decide (sp0_2 ≥ 20000)) false (decide_eq_false hc1)<|wf<|we_skip fun a hF=>hK2 _ _ ?_ a hF
 refine ws fun K5 hK5=>wr [(0,0),(1,0),(2,0),(3,0),(4,0),(5,0),(6,0),(7,0),(8,0),(9,2)]<|gb [0,1,2,3,4,5,6,7,8] [(26,pP bp0 2),(25,pP bp0 0),(24,pP bp0 0),(23,vI (IntKind.i64.wrap (sp0_2+1))),(22,vI sp0_2),(21,pP bp0 2),(20,pP bp0 0),(19,pP bp0 0),(18,pP bp0 0)] [ld bp0 2 (vI sp0_2)] ⟨hS1.c 1,trivial⟩ ?_
 have hS10:=hS1.b 1
 refine gs bp0 2 #[(.slice Ap0_0 lp0_0.length cp0_0),(.slice Ap0_1 lp0_1.length cp0_1),vI sp0_2,.slice Ap0_3 lp0_3.length cp0_3,vI sp0_4] 62 [vI (IntKind.i64.wrap (sp0_2+1))] hS10 fun w3 hS11=>?_
 have hS12:=hS11.nc #[(.slice Ap0_0 lp0_0.length cp0_0),(.slice Ap0_1 lp0_1.length cp0_1),vI (IntKind.i64.wrap (sp0_2+1)),.slice Ap0_3 lp0_3.length cp0_3,vI sp0_4] (by kernel_rfl)
 refine gn hK5<|ws fun K6 hK6=>wr [(0,0),(1,0),(2,0),(3,0),(4,1),(5,0),(6,0)] ?_
 rcases hq1:pr_Size.f K l1_4 with _ | r1
 ·rw [hq1] at h; cases h
 rw [hq1] at h
 simp only [] at h
 refine gb [0,1,2,3] [(30,.slice A1_4 l1_4.length c1_4),(29,pP b1 12),(28,vI (IntKind.i64.wrap (x2+1))),(27,vI x2)] [ld b1 12 (.slice A1_4 l1_4.length c1_4)] ⟨hS12.c 1,trivial⟩<|ge_call (d:=some 31) (f:=17) (args:=#[.slice A1_4 l1_4.length c1_4]) (by kernel_rfl) (pr_Size_ok K Z l1_4 A1_4 c1_4 _ (fun w' k=>(hZ _ _ (hS12.bring 4 rfl) w' k)) hR1_4 hL1_4 _ hq1) ?_
 rintro _ w4 ⟨rfl,hS13⟩
 refine ⟨_,rfl,hS13.below,?_⟩
 have hS14:=hS12.call hS13
 refine gb0 [5,6] [(6,vI (IntKind.i64.wrap ((IntKind.i64.wrap (x2+1))+r1))),(32,vI (IntKind.i64.wrap ((IntKind.i64.wrap (x2+1))+r1)))]<|gn hK6<|ws fun K7 hK7=>wr [(0,0),(1,0)]<|gb [0,1] [(34,vI x1_0),(33,pP b1 0)] [ld b1 0 (vI x1_0)] ⟨hS14.c 1,trivial⟩<|gn hK7<|we_block<|ws fun K8 hK8=>wr [(0,0),(1,0)]<|gb0 [0,1] [(35,.bool (x1_0==1)),(36,.bool (x1_0==1))]<|gn hK8 ?_
 by_cases hc2:x1_0=1
 ·rw [if_pos hc2] at h
  refine wk 35 (x1_0==1) true (beq_iff_eq.2 hc2)<|wt<|we_orders3 (by kernel_rfl) [(4,[⟨bp0,0,none⟩],[],[]),(6,[⟨b1,1,none⟩],[],[]),(9,[⟨b1,2,none⟩,⟨b1,3,none⟩,⟨b1,4,none⟩],[],[])] (.vals [0] (.vals [1] (.vals [2] (.vals [3] (.vals [4] (.vals [5] (.vals [6] (.vals [7] (.vals [8] (.vals [9] (.alt 10 2 (.vals [11] (.alt 12 2 .fin .nomore)) .nomore))))))))))) (by kernel_rfl) (by kernel_rfl) ?_
  have hS15:=hS14.drew
  refine g30 [0,1,2,3] [(40,pP bp0 0),(39,pP bp0 0),(38,pP bp0 0),(37,pP bp0 0)]<|g3 4 [(41,(.slice Ap0_0 lp0_0.length cp0_0))] [ld bp0 0 ((.slice Ap0_0 lp0_0.length cp0_0))] ⟨hS15.c 0,trivial⟩<|g30 [5] [(42,pP b1 1)]<|g3 6 [(43,vI x1_1)] [ld b1 1 (vI x1_1)] ⟨hS15.c 1,trivial⟩<|g30 [7,8] [(45,pP b1 2),(44,pP bp0 0)]<|g3 9 [(46,.agg #[vI x1_2_0,vI x1_2_1,.slice A1_2_2 l1_2_2.length c1_2_2])] [ld b1 2 (vI x1_2_0),ld b1 3 (vI x1_2_1),ld b1 4 (.slice A1_2_2 l1_2_2.length c1_2_2)] ⟨hS15.c 1,hS15.c 1,hS15.c 1,trivial⟩<|go_alt3 (fun KK hKK=>?_) ?_
  ·rcases hq2:pr_mean_worth.f K lp0_0 lp0_1 (IntKind.i64.wrap (sp0_2+1)) lp0_3 sp0_4 x1_2_0 x1_2_1 l1_2_2 with _ | r2
   ·rw [hq2] at h; cases h
   rw [hq2] at h
   simp only [] at h
   have hS20:=(((hS15.b 3).b 3).b 2).packN 3
   refine ge_call2 (m:=0) (d:=some 47) (f:=62) (args:=#[pP bp0 0,.agg #[vI x1_2_0,vI x1_2_1,.slice A1_2_2 l1_2_2.length c1_2_2]]) (by kernel_rfl) (pr_mean_worth_ok K Z bp0 lp0_0 Ap0_0 cp0_0 lp0_1 Ap0_1 cp0_1 (IntKind.i64.wrap (sp0_2+1)) lp0_3 Ap0_3 cp0_3 sp0_4 x1_2_0 x1_2_1 l1_2_2 A1_2_2 c1_2_2 _ _ _ hS20 (fun w L h w' k=>(hZ _ _ (h.spread.bring 1 rfl) w' k)) hRp0_3 hLp0_3 hR1_2_2 hL1_2_2 _ hq2) ?_
   rintro _ w5 ⟨rfl,hS19⟩
   refine ⟨_,rfl,?_⟩
   have hS21:=hS19.unpack [bk bp0 #[(.slice Ap0_0 lp0_0.length cp0_0),(.slice Ap0_1 lp0_1.length cp0_1),vI (IntKind.i64.wrap (sp0_2+1)),.slice Ap0_3 lp0_3.length cp0_3,vI sp0_4] 62,ro Ap0_0 cp0_0 3 lp0_0,ro Ap0_1 cp0_1 42 lp0_1]
   refine ge_nil fun a hF=>hKK _ _ (RS.of2 (l:=[ld bp0 0 ((.slice Ap0_0 lp0_0.length cp0_0)),ld b1 1 (vI x1_1)]) (by kernel_rfl) ⟨hS15.c 0,hS15.c 1,trivial⟩ ⟨hS21.c 0,hS21.c 3,trivial⟩) ?_ a hF
   by_cases hc3:0≤x1_1
   ·rw [if_pos hc3] at h
    rcases hx2:lp0_0[(x1_1).toNat]? with _ | e1
    ·rw [hx2] at h; cases h
    rw [hx2] at h
    simp only [] at h
    refine go3_index (d:=48) (ty:=0) (t:=23) (el:=3) (sz:=1) (m:=lp0_0.length) (c:=cp0_0) (x:=(.tmp 41)) (y:=(.tmp 43)) (A:=Ap0_0) (k':=.i64) (j:=x1_1) (jn:=((x1_1).toNat)) (b0:=blkOf Ap0_0) (o0:=offOf Ap0_0) (by kernel_rfl) (by kernel_rfl) (by kernel_rfl) (by kernel_rfl) (by kernel_rfl) ((hS21.rdAt 1 rfl).eqSome (pos_of_get hx2)) (Int.toNat_of_nonneg hc3).symm (lt_of_get hx2) ?_
    refine go_alt3 (fun KK hKK=>?_) ?_
    ·have hS22:=hS21.b 1
     refine ge_seti (α:=Int) (A:=Ap0_0) (nn:=lp0_0.length) (c:=cp0_0) (t:=3) (l:=lp0_0) (x:=e1) (x':=r2) (jn:=((x1_1).toNat)) (j:=0) (vs:=[vI r2]) (l':=[.stored ⟨blkOf Ap0_0,offOf Ap0_0+((x1_1).toNat)*1,none⟩ (vI r2)]) hS22 (by kernel_rfl) (by kernel_rfl) hx2 rfl rfl rfl fun w6 hS23=>?_
     have hS24:St w0 w6 [Own.of (.slice Ap0_0 lp0_0.length cp0_0) 3 (lp0_0.set ((x1_1).toNat) r2),bk bp0 #[(.slice Ap0_0 lp0_0.length cp0_0),(.slice Ap0_1 lp0_1.length cp0_1),vI (IntKind.i64.wrap (sp0_2+1)),.slice Ap0_3 lp0_3.length cp0_3,vI sp0_4] 62,ro Ap0_1 cp0_1 42 lp0_1,bk b1 #[vI x1_0,vI x1_1,vI x1_2_0,vI x1_2_1,.slice A1_2_2 l1_2_2.length c1_2_2,vI x1_3_0,vI x1_3_1_0,vI x1_3_1_1,.slice A1_3_1_2 l1_3_1_2.length c1_3_1_2,vI x1_3_2_0,vI x1_3_2_1,.slice A1_3_2_2 l1_3_2_2.length c1_3_2_2,.slice A1_4 l1_4.length c1_4,.slice A1_5 l1_5.length c1_5] 70,Own.all LT]:=hS23
     have hE1:lp0_0.length=(lp0_0.set ((x1_1).toNat) r2).length:=hS24.lenAt 0 rfl
     have hS25:St w0 w6 [Own.of (.slice Ap0_0 (lp0_0.set ((x1_1).toNat) r2).length cp0_0) 3 (lp0_0.set ((x1_1).toNat) r2),Own.blk bp0 (.cells #[(.slice Ap0_0 (lp0_0.set ((x1_1).toNat) r2).length cp0_0),(.slice Ap0_1 lp0_1.length cp0_1),vI (IntKind.i64.wrap (sp0_2+1)),.slice Ap0_3 lp0_3.length cp0_3,vI sp0_4] 62 (0,0)),Own.of (.slice Ap0_1 lp0_1.length cp0_1) 42 lp0_1,Own.blk b1 (.cells #[vI x1_0,vI x1_1,vI x1_2_0,vI x1_2_1,.slice A1_2_2 l1_2_2.length c1_2_2,vI x1_3_0,vI x1_3_1_0,vI x1_3_1_1,.slice A1_3_1_2 l1_3_1_2.length c1_3_1_2,vI x1_3_2_0,vI x1_3_2_1,.slice A1_3_2_2 l1_3_2_2.length c1_3_2_2,.slice A1_4 l1_4.length c1_4,.slice A1_5 l1_5.length c1_5] 70 (0,0)),Own.all LT]:=by rw [← hE1]; exact hS24
     refine ge_same (t:=41) (v:=(.slice Ap0_0 lp0_0.length cp0_0)) (v':=(.slice Ap0_0 (lp0_0.set ((x1_1).toNat) r2).length cp0_0)) (by kernel_rfl) (by rw [← hE1]) ?_
     refine g2 hKK ?_
     have hS30:=hS25.p [1,0,2,4] rfl
     obtain rfl:=si h
     exact go_fin3 (pe0 [] [] ⟨(.slice Ap0_0 (lp0_0.set ((x1_1).toNat) r2).length cp0_0),(.slice Ap0_1 lp0_1.length cp0_1),rfl,hS30⟩)
    exact go_nomore3
   rw [if_neg hc3] at h
   cases h
  exact go_nomore3
 rw [if_neg hc2] at h
 refine wk 35 (x1_0==1) false (beq_eq_false_iff_ne.2 hc2)<|wf<|ws fun K9 hK9=>wr [(0,0),(1,0)]<|gb0 [0,1] [(49,.bool (x1_0==2)),(50,.bool (x1_0==2))]<|gn hK9 ?_
 by_cases hc4:x1_0=2
 ·rw [if_pos hc4] at h
  refine wk 49 (x1_0==2) true (beq_iff_eq.2 hc4)<|wt<|we_orders3 (by kernel_rfl) [(5,[⟨bp0,1,none⟩],[],[]),(7,[⟨b1,1,none⟩],[12,13,14],[]),(10,[⟨b1,2,none⟩,⟨b1,3,none⟩,⟨b1,4,none⟩],[11,12,13,14],[])] (.vals [0] (.vals [1] (.vals [2] (.vals [3] (.vals [4] (.vals [5] (.vals [6] (.vals [7] (.vals [8] (.vals [9] (.vals [10] (.alt 11 2 (.vals [12] (.alt 13 1 (.alt 14 2 (.vals [15] (.vals [16] (.vals [17] (.alt 18 2 .fin .nomore)))) .nomore) .nomore)) .nomore)))))))))))) (by kernel_rfl) (by kernel_rfl) ?_
  have hS31:=hS14.drew
  refine g30 [0,1,2,3,4] [(55,pP bp0 1),(54,pP bp0 0),(53,pP bp0 0),(52,pP bp0 0),(51,pP bp0 0)]<|g3 5 [(56,(.slice Ap0_1 lp0_1.length cp0_1))] [ld bp0 1 ((.slice Ap0_1 lp0_1.length cp0_1))] ⟨hS31.c 0,trivial⟩<|g30 [6] [(57,pP b1 1)]<|g3 7 [(58,vI x1_1)] [ld b1 1 (vI x1_1)] ⟨hS31.c 1,trivial⟩<|g30 [8,9] [(60,pP b1 2),(59,pP bp0 0)]<|g3 10 [(61,.agg #[vI x1_2_0,vI x1_2_1,.slice A1_2_2 l1_2_2.length c1_2_2])] [ld b1 2 (vI x1_2_0),ld b1 3 (vI x1_2_1),ld b1 4 (.slice A1_2_2 l1_2_2.length c1_2_2)] ⟨hS31.c 1,hS31.c 1,hS31.c 1,trivial⟩<|go_alt3 (fun KK hKK=>?_) ?_
  ·rcases hq3:pr_mean_worth.f K lp0_0 lp0_1 (IntKind.i64.wrap (sp0_2+1)) lp0_3 sp0_4 x1_2_0 x1_2_1 l1_2_2 with _ | r3
   ·rw [hq3] at h; cases h
   rw [hq3] at h
   simp only [] at h
   have hS36:=(((hS31.b 3).b 3).b 2).packN 3
   refine ge_call2 (m:=0) (d:=some 62) (f:=62) (args:=#[pP bp0 0,.agg #[vI x1_2_0,vI x1_2_1,.slice A1_2_2 l1_2_2.length c1_2_2]]) (by kernel_rfl) (pr_mean_worth_ok K Z bp0 lp0_0 Ap0_0 cp0_0 lp0_1 Ap0_1 cp0_1 (IntKind.i64.wrap (sp0_2+1)) lp0_3 Ap0_3 cp0_3 sp0_4 x1_2_0 x1_2_1 l1_2_2 A1_2_2 c1_2_2 _ _ _ hS36 (fun w L h w' k=>(hZ _ _ (h.spread.bring 1 rfl) w' k)) hRp0_3 hLp0_3 hR1_2_2 hL1_2_2 _ hq3) ?_
   rintro _ w7 ⟨rfl,hS35⟩
   refine ⟨_,rfl,?_⟩
   have hS37:=hS35.unpack [bk bp0 #[(.slice Ap0_0 lp0_0.length cp0_0),(.slice Ap0_1 lp0_1.length cp0_1),vI (IntKind.i64.wrap (sp0_2+1)),.slice Ap0_3 lp0_3.length cp0_3,vI sp0_4] 62,ro Ap0_0 cp0_0 3 lp0_0,ro Ap0_1 cp0_1 42 lp0_1]
   refine ge_nil fun a hF=>hKK _ _ (RS.of2 (l:=[ld bp0 1 ((.slice Ap0_1 lp0_1.length cp0_1)),ld b1 1 (vI x1_1)]) (by kernel_rfl) ⟨hS31.c 0,hS31.c 1,trivial⟩ ⟨hS37.c 0,hS37.c 3,trivial⟩) ?_ a hF
   refine g30 [12] [(63,.agg #[vI x1_1,vI r3])]<|go_alt3 (fun KK hKK=>?_) ?_
   ·refine ge_one2<|gw (some 64) (.cells #[vI x1_1,vI r3] 42) (fun b=>.slice (some ⟨b,0,none⟩) 1 1) hS37 fun b2 w8 hx3 hS38=>?_
    refine ge_nil fun a hF=>hKK _ _ (RS.of2 (l:=[ld bp0 1 ((.slice Ap0_1 lp0_1.length cp0_1))]) (by kernel_rfl) ⟨hS37.c 0,trivial⟩ ⟨hS38.c 1,trivial⟩) ?_ a hF
    refine go_alt3 (fun KK hKK=>?_) ?_
    ·have hS39:=hS38.b 3
     by_cases hc5:lp0_1.length<8796093022208
     ·rw [if_pos hc5] at h
      refine ge_append (α:=SPut) (m:=0) (d:=65) (t:=26) (el:=42) (bytes:=16) (c1:=1) (b1:=b2) (x:=(.tmp 56)) (y:=(.tmp 64)) (ty:=26) (v:=(.slice Ap0_1 lp0_1.length cp0_1)) (z:=.agg #[vI 0,vI 0]) (l:=lp0_1) (u:=(⟨x1_1,r3⟩:SPut)) (by kernel_rfl) (by kernel_rfl) (by kernel_rfl) (by kernel_rfl) (by kernel_rfl) rfl hS39 rfl (by omega) fun v1 w9 hS40=>?_
      refine g2 hKK<|g30 [15,16,17] [(68,pP bp0 1),(67,pP bp0 0),(66,pP bp0 0)]<|go_alt3 (fun KK hKK=>?_) ?_
      ·obtain ⟨Z1,cz1,rfl⟩:=hS40.open 0 rfl
       have hS41:=hS40.b 1
       refine gs bp0 1 #[(.slice Ap0_0 lp0_0.length cp0_0),(.slice Ap0_1 lp0_1.length cp0_1),vI (IntKind.i64.wrap (sp0_2+1)),.slice Ap0_3 lp0_3.length cp0_3,vI sp0_4] 62 [(.slice Z1 (lp0_1++[(⟨x1_1,r3⟩:SPut)]).length cz1)] hS41 fun w10 hS42=>?_
       have hS43:=hS42.nc #[(.slice Ap0_0 lp0_0.length cp0_0),(.slice Z1 (lp0_1++[(⟨x1_1,r3⟩:SPut)]).length cz1),vI (IntKind.i64.wrap (sp0_2+1)),.slice Ap0_3 lp0_3.length cp0_3,vI sp0_4] (by kernel_rfl)
       refine g2 hKK ?_
       have hS48:=hS43.p [0,2,1,4] rfl
       obtain rfl:=si h
       exact go_fin3 (pe0 [] [] ⟨(.slice Ap0_0 lp0_0.length cp0_0),(.slice Z1 (lp0_1++[(⟨x1_1,r3⟩:SPut)]).length cz1),rfl,hS48⟩)
      exact go_nomore3
     rw [if_neg hc5] at h
     cases h
    exact go_nomore3
   exact go_nomore3
  exact go_nomore3
 rw [if_neg hc4] at h
 refine wk 49 (x1_0==2) false (beq_eq_false_iff_ne.2 hc4)<|wf<|ws fun K10 hK10=>wr [(0,0),(1,0)]<|gb0 [0,1] [(69,.bool (x1_0==3)),(70,.bool (x1_0==3))]<|gn hK10 ?_
 by_cases hc6:x1_0=3
 ·rw [if_pos hc6] at h
  refine wk 69 (x1_0==3) true (beq_iff_eq.2 hc6)<|wt<|ws fun K11 hK11=>wr [(0,0),(1,0),(2,0),(3,2)]<|gb [0,1,2] [(73,.agg #[vI x1_3_0,vI x1_3_1_0,vI x1_3_1_1,.slice A1_3_1_2 l1_3_1_2.length c1_3_1_2,vI x1_3_2_0,vI x1_3_2_1,.slice A1_3_2_2 l1_3_2_2.length c1_3_2_2]),(72,pP b1 5),(71,pP bp0 0)] [ld b1 5 (vI x1_3_0),ld b1 6 (vI x1_3_1_0),ld b1 7 (vI x1_3_1_1),ld b1 8 (.slice A1_3_1_2 l1_3_1_2.length c1_3_1_2),ld b1 9 (vI x1_3_2_0),ld b1 10 (vI x1_3_2_1),ld b1 11 (.slice A1_3_2_2 l1_3_2_2.length c1_3_2_2)] ⟨hS14.c 1,hS14.c 1,hS14.c 1,hS14.c 1,hS14.c 1,hS14.c 1,hS14.c 1,trivial⟩ ?_
  rcases hq4:pr_mean_true.f K lp0_0 lp0_1 (IntKind.i64.wrap (sp0_2+1)) lp0_3 sp0_4 x1_3_0 x1_3_1_0 x1_3_1_1 l1_3_1_2 x1_3_2_0 x1_3_2_1 l1_3_2_2 with _ | r4
  ·rw [hq4] at h; cases h
  rw [hq4] at h
  simp only [] at h
  have hS53:=(((hS14.b 3).b 3).b 2).packN 3
  refine ge_call2 (m:=0) (d:=some 74) (f:=63) (args:=#[pP bp0 0,.agg #[vI x1_3_0,vI x1_3_1_0,vI x1_3_1_1,.slice A1_3_1_2 l1_3_1_2.length c1_3_1_2,vI x1_3_2_0,vI x1_3_2_1,.slice A1_3_2_2 l1_3_2_2.length c1_3_2_2]]) (by kernel_rfl) (pr_mean_true_ok K Z bp0 lp0_0 Ap0_0 cp0_0 lp0_1 Ap0_1 cp0_1 (IntKind.i64.wrap (sp0_2+1)) lp0_3 Ap0_3 cp0_3 sp0_4 x1_3_0 x1_3_1_0 x1_3_1_1 l1_3_1_2 A1_3_1_2 c1_3_1_2 x1_3_2_0 x1_3_2_1 l1_3_2_2 A1_3_2_2 c1_3_2_2 _ _ _ hS53 (fun w L h w' k=>(hZ _ _ (h.spread.bring 1 rfl) w' k)) hRp0_3 hLp0_3 hR1_3_1_2 hL1_3_1_2 hR1_3_2_2 hL1_3_2_2 _ hq4) ?_
  rintro _ w11 ⟨rfl,hS52⟩
  refine ⟨_,rfl,?_⟩
  have hS54:=hS52.unpack [bk bp0 #[(.slice Ap0_0 lp0_0.length cp0_0),(.slice Ap0_1 lp0_1.length cp0_1),vI (IntKind.i64.wrap (sp0_2+1)),.slice Ap0_3 lp0_3.length cp0_3,vI sp0_4] 62,ro Ap0_0 cp0_0 3 lp0_0,ro Ap0_1 cp0_1 42 lp0_1]
  refine gn hK11 ?_
  by_cases hc7:r4=true
  ·rw [if_pos hc7] at h
   refine wk 74 r4 true hc7<|wt<|wr [(0,0),(1,0),(2,0),(3,0),(4,0),(5,2)]<|gb [0,1,2,3,4] [(79,vI (IntKind.i64.wrap (x2+1))),(78,vI x2),(77,.slice A1_4 l1_4.length c1_4),(76,pP b1 12),(75,pP bp0 0)] [ld b1 12 (.slice A1_4 l1_4.length c1_4)] ⟨hS54.c 3,trivial⟩ ?_
   rcases hq5:rec_pr_mean_all lp0_0 lp0_1 (IntKind.i64.wrap (sp0_2+1)) lp0_3 sp0_4 l1_4 (IntKind.i64.wrap (x2+1)) with _ | r5
   ·rw [hq5] at h; cases h
   rw [hq5] at h
   simp only [] at h
   have hS59:=(((hS54.b 2).b 2).b 2).packN 3
   refine ge_call2 (m:=0) (d:=some 80) (f:=30) (args:=#[pP bp0 0,.slice A1_4 l1_4.length c1_4,vI (IntKind.i64.wrap (x2+1))]) (by kernel_rfl) (hr_pr_mean_all Z bp0 lp0_0 Ap0_0 cp0_0 lp0_1 Ap0_1 cp0_1 (IntKind.i64.wrap (sp0_2+1)) lp0_3 Ap0_3 cp0_3 sp0_4 l1_4 A1_4 c1_4 (IntKind.i64.wrap (x2+1)) _ _ _ hS59 (fun w L h w' k=>(hZ _ _ (h.spread.bring 1 rfl) w' k)) hRp0_3 hLp0_3 hR1_4 hL1_4 _ hq5) ?_
   rintro _ w12 ⟨v2,v3,rfl,hS58⟩
   refine ⟨_,rfl,?_⟩
   have hS65:=(((((hS58.unpack [bk bp0 #[v2,v3,vI r5.2.2.1,.slice Ap0_3 lp0_3.length cp0_3,vI r5.2.2.2] 62,Own.of v2 3 r5.1,Own.of v3 42 r5.2.1]).b 4).b 3).b 3).b 3).takeN 4
   obtain rfl:=si h
   exact ge_nil (pe0 [] [] ⟨v2,v3,rfl,hS65⟩)
  rw [if_neg hc7] at h
  refine wk 74 r4 false (Bool.eq_false_iff.2 hc7)<|wf<|wr [(0,0),(1,0),(2,0),(3,0),(4,2)]<|gb [0,1,2,3] [(84,vI (IntKind.i64.wrap ((IntKind.i64.wrap (x2+1))+r1))),(83,.slice A1_5 l1_5.length c1_5),(82,pP b1 13),(81,pP bp0 0)] [ld b1 13 (.slice A1_5 l1_5.length c1_5)] ⟨hS54.c 3,trivial⟩ ?_
  rcases hq6:rec_pr_mean_all lp0_0 lp0_1 (IntKind.i64.wrap (sp0_2+1)) lp0_3 sp0_4 l1_5 (IntKind.i64.wrap ((IntKind.i64.wrap (x2+1))+r1)) with _ | r6
  ·rw [hq6] at h; cases h
  rw [hq6] at h
  simp only [] at h
  have hS70:=(((hS54.b 2).b 2).b 2).packN 3
  refine ge_call2 (m:=0) (d:=some 85) (f:=30) (args:=#[pP bp0 0,.slice A1_5 l1_5.length c1_5,vI (IntKind.i64.wrap ((IntKind.i64.wrap (x2+1))+r1))]) (by kernel_rfl) (hr_pr_mean_all Z bp0 lp0_0 Ap0_0 cp0_0 lp0_1 Ap0_1 cp0_1 (IntKind.i64.wrap (sp0_2+1)) lp0_3 Ap0_3 cp0_3 sp0_4 l1_5 A1_5 c1_5 (IntKind.i64.wrap ((IntKind.i64.wrap (x2+1))+r1)) _ _ _ hS70 (fun w L h w' k=>(hZ _ _ (h.spread.bring 1 rfl) w' k)) hRp0_3 hLp0_3 hR1_5 hL1_5 _ hq6) ?_
  rintro _ w13 ⟨v4,v5,rfl,hS69⟩
  refine ⟨_,rfl,?_⟩
  have hS76:=(((((hS69.unpack [bk bp0 #[v4,v5,vI r6.2.2.1,.slice Ap0_3 lp0_3.length cp0_3,vI r6.2.2.2] 62,Own.of v4 3 r6.1,Own.of v5 42 r6.2.1]).b 4).b 3).b 3).b 3).takeN 4
  obtain rfl:=si h
  exact ge_nil (pe0 [] [] ⟨v4,v5,rfl,hS76⟩)
 rw [if_neg hc6] at h
 refine wk 69 (x1_0==3) false (beq_eq_false_iff_ne.2 hc6)<|wf<|ws fun K12 hK12=>?_
 rcases hq7:pr_mean_one.p0 x1_0 with _ | (q2 | rr2)
 ·rw [hq7] at h; cases h
 ·rw [hq7] at h
  simp only [] at h
  refine we_keep (e':=((0,pP bp0 0)::(1,.agg #[vI x1_0,vI x1_1,vI x1_2_0,vI x1_2_1,.slice A1_2_2 l1_2_2.length c1_2_2,vI x1_3_0,vI x1_3_1_0,vI x1_3_1_1,.slice A1_3_1_2 l1_3_1_2.length c1_3_1_2,vI x1_3_2_0,vI x1_3_2_1,.slice A1_3_2_2 l1_3_2_2.length c1_3_2_2,.slice A1_4 l1_4.length c1_4,.slice A1_5 l1_5.length c1_5])::(2,vI x2)::(4,pP b1 0)::(6,vI (IntKind.i64.wrap ((IntKind.i64.wrap (x2+1))+r1)))::(8,pP bp0 0)::(9,pP bp0 0)::(10,pP bp0 0)::(11,pP bp0 2)::(12,vI sp0_2)::(13,.bool false)::(18,pP bp0 0)::(19,pP bp0 0)::(20,pP bp0 0)::(21,pP bp0 2)::(22,vI sp0_2)::(23,vI (IntKind.i64.wrap (sp0_2+1)))::(24,pP bp0 0)::(25,pP bp0 0)::(26,pP bp0 2)::(27,vI x2)::(28,vI (IntKind.i64.wrap (x2+1)))::(29,pP b1 12)::(30,.slice A1_4 l1_4.length c1_4)::(31,vI r1)::(32,vI (IntKind.i64.wrap ((IntKind.i64.wrap (x2+1))+r1)))::(33,pP b1 0)::(34,vI x1_0)::(35,.bool false)::(36,.bool (x1_0==1))::(49,.bool false)::(50,.bool (x1_0==2))::(69,.bool false)::(70,.bool (x1_0==3))::[])) ea (pr_mean_one_p0 K w0 Z bp0 lp0_0 Ap0_0 cp0_0 lp0_1 Ap0_1 cp0_1 sp0_2 lp0_3 Ap0_3 cp0_3 sp0_4 x1_0 x1_1 x1_2_0 x1_2_1 l1_2_2 A1_2_2 c1_2_2 x1_3_0 x1_3_1_0 x1_3_1_1 l1_3_1_2 A1_3_1_2 c1_3_1_2 x1_3_2_0 x1_3_2_1 l1_3_2_2 A1_3_2_2 c1_3_2_2 l1_4 A1_4 c1_4 l1_5 A1_5 c1_5 x2 LT hZ hRp0_3 hLp0_3 hR1_2_2 hL1_2_2 hR1_3_1_2 hL1_3_1_2 hR1_3_2_2 hL1_3_2_2 hR1_4 hL1_4 hR1_5 hL1_5 rec_pr_mean_all hr_pr_mean_all b1 hc1 r1 hc2 hc4 hc6 _ hq7 _ hS14 _ ?_)
  rintro _ a w14 ⟨rfl,hS87,hF⟩
  replace hS87:St w0 w14 [bk bp0 #[(.slice Ap0_0 lp0_0.length cp0_0),(.slice Ap0_1 lp0_1.length cp0_1),vI (IntKind.i64.wrap (sp0_2+1)),.slice Ap0_3 lp0_3.length cp0_3,vI sp0_4] 62,bk b1 #[vI x1_0,vI x1_1,vI x1_2_0,vI x1_2_1,.slice A1_2_2 l1_2_2.length c1_2_2,vI x1_3_0,vI x1_3_1_0,vI x1_3_1_1,.slice A1_3_1_2 l1_3_1_2.length c1_3_1_2,vI x1_3_2_0,vI x1_3_2_1,.slice A1_3_2_2 l1_3_2_2.length c1_3_2_2,.slice A1_4 l1_4.length c1_4,.slice A1_5 l1_5.length c1_5] 70,ro Ap0_0 cp0_0 3 lp0_0,ro Ap0_1 cp0_1 42 lp0_1,Own.all LT]:=hS87
  refine hK12 [(0,pP bp0 0),(2,vI x2),(4,pP b1 0),(34,vI x1_0),(86,.bool q2)] w14 ?_ a hF
  by_cases hc9:q2=true
  ·rw [if_pos hc9] at h
   refine wk 86 q2 true hc9<|wt<|ws fun K14 hK14=>wr [(0,0)]<|gb0 [0] [(7,vI 0)]<|gn hK14<|we_block ?_
   have hS92:=((((hS87.b 4).b 4).b 4).b 4).b 4
   rcases hq11:iter (pr_mean_one.r1 K lp0_3 x1_0 x1_1 x1_3_0 x1_3_1_0 x1_3_1_1 l1_3_1_2 x1_3_2_0 x1_3_2_1 l1_3_2_2 l1_4 x2 rec_pr_mean_all) K (0,lp0_0,lp0_1,IntKind.i64.wrap (sp0_2+1),sp0_4) with _ | (⟨m5,m6,z6,z7⟩ | rr1)
   ·rw [hq11] at h; cases h
   ·rw [hq11] at h
    simp only [] at h
    refine we_iter (A:=pr_mean_one.A1 w0 bp0 lp0_3 Ap0_3 cp0_3 x1_0 x1_1 x1_2_0 x1_2_1 l1_2_2 A1_2_2 c1_2_2 x1_3_0 x1_3_1_0 x1_3_1_1 l1_3_1_2 A1_3_1_2 c1_3_1_2 x1_3_2_0 x1_3_2_1 l1_3_2_2 A1_3_2_2 c1_3_2_2 l1_4 A1_4 c1_4 l1_5 A1_5 c1_5 x2 LT b1) (B:=pr_mean_one.B1 w0 Z bp0 lp0_0 Ap0_0 cp0_0 lp0_1 Ap0_1 cp0_1 sp0_2 lp0_3 Ap0_3 cp0_3 sp0_4 x1_0 x1_1 x1_2_0 x1_2_1 l1_2_2 A1_2_2 c1_2_2 x1_3_0 x1_3_1_0 x1_3_1_1 l1_3_1_2 A1_3_1_2 c1_3_1_2 x1_3_2_0 x1_3_2_1 l1_3_2_2 A1_3_2_2 c1_3_2_2 l1_4 A1_4 c1_4 l1_5 A1_5 c1_5 x2 LT) hq11 (fun a hF=>⟨(.slice Ap0_0 lp0_0.length cp0_0),(.slice Ap0_1 lp0_1.length cp0_1),hS92,hF.weaken ea⟩) (fun s o hf a w hA Q hQ=>pr_mean_one_r1 K w0 Z bp0 lp0_0 Ap0_0 cp0_0 lp0_1 Ap0_1 cp0_1 sp0_2 lp0_3 Ap0_3 cp0_3 sp0_4 x1_0 x1_1 x1_2_0 x1_2_1 l1_2_2 A1_2_2 c1_2_2 x1_3_0 x1_3_1_0 x1_3_1_1 l1_3_1_2 A1_3_1_2 c1_3_1_2 x1_3_2_0 x1_3_2_1 l1_3_2_2 A1_3_2_2 c1_3_2_2 l1_4 A1_4 c1_4 l1_5 A1_5 c1_5 x2 LT hZ hRp0_3 hLp0_3 hR1_2_2 hL1_2_2 hR1_3_1_2 hL1_3_1_2 hR1_3_2_2 hL1_3_2_2 hR1_4 hL1_4 hR1_5 hL1_5 rec_pr_mean_all hr_pr_mean_all b1 hc1 r1 hc2 hc4 hc6 q2 hc9 s o hf a w hA Q hQ) ?_
    rintro _ a w18 _ ⟨rfl,v14,v15,hS136,hF⟩
    replace hS136:St w0 w18 [bk bp0 #[v14,v15,vI z6,.slice Ap0_3 lp0_3.length cp0_3,vI z7] 62,Own.of v14 3 m5,Own.of v15 42 m6,Own.all LT]:=hS136
    have hS140:=(((hS136.b 3).b 3).b 3).b 3
    obtain rfl:=si h
    exact (pe0 [] [] ⟨v14,v15,rfl,hS140⟩) a hF
   rw [hq11] at h
   simp only [] at h
   refine we_iter (A:=pr_mean_one.A1 w0 bp0 lp0_3 Ap0_3 cp0_3 x1_0 x1_1 x1_2_0 x1_2_1 l1_2_2 A1_2_2 c1_2_2 x1_3_0 x1_3_1_0 x1_3_1_1 l1_3_1_2 A1_3_1_2 c1_3_1_2 x1_3_2_0 x1_3_2_1 l1_3_2_2 A1_3_2_2 c1_3_2_2 l1_4 A1_4 c1_4 l1_5 A1_5 c1_5 x2 LT b1) (B:=pr_mean_one.B1 w0 Z bp0 lp0_0 Ap0_0 cp0_0 lp0_1 Ap0_1 cp0_1 sp0_2 lp0_3 Ap0_3 cp0_3 sp0_4 x1_0 x1_1 x1_2_0 x1_2_1 l1_2_2 A1_2_2 c1_2_2 x1_3_0 x1_3_1_0 x1_3_1_1 l1_3_1_2 A1_3_1_2 c1_3_1_2 x1_3_2_0 x1_3_2_1 l1_3_2_2 A1_3_2_2 c1_3_2_2 l1_4 A1_4 c1_4 l1_5 A1_5 c1_5 x2 LT) hq11 (fun a hF=>⟨(.slice Ap0_0 lp0_0.length cp0_0),(.slice Ap0_1 lp0_1.length cp0_1),hS92,hF.weaken ea⟩) (fun s o hf a w hA Q hQ=>pr_mean_one_r1 K w0 Z bp0 lp0_0 Ap0_0 cp0_0 lp0_1 Ap0_1 cp0_1 sp0_2 lp0_3 Ap0_3 cp0_3 sp0_4 x1_0 x1_1 x1_2_0 x1_2_1 l1_2_2 A1_2_2 c1_2_2 x1_3_0 x1_3_1_0 x1_3_1_1 l1_3_1_2 A1_3_1_2 c1_3_1_2 x1_3_2_0 x1_3_2_1 l1_3_2_2 A1_3_2_2 c1_3_2_2 l1_4 A1_4 c1_4 l1_5 A1_5 c1_5 x2 LT hZ hRp0_3 hLp0_3 hR1_2_2 hL1_2_2 hR1_3_1_2 hL1_3_1_2 hR1_3_2_2 hL1_3_2_2 hR1_4 hL1_4 hR1_5 hL1_5 rec_pr_mean_all hr_pr_mean_all b1 hc1 r1 hc2 hc4 hc6 q2 hc9 s o hf a w hA Q hQ) ?_
   rintro _ a w1 _ ⟨rfl,hb⟩
   obtain rfl:=si h
   exact hb
  rw [if_neg hc9] at h
  refine wk 86 q2 false (Bool.eq_false_iff.2 hc9)<|wf<|ws fun K19 hK19=>wr [(0,0),(1,0)]<|gb0 [0,1] [(119,.bool (x1_0==6)),(120,.bool (x1_0==6))]<|gn hK19 ?_
  by_cases hc14:x1_0=6
  ·rw [if_pos hc14] at h
   refine wk 119 (x1_0==6) true (beq_iff_eq.2 hc14)<|wt<|wr [(0,0),(1,0),(2,0),(3,0),(4,0),(5,2)]<|gb [0,1,2,3,4] [(125,vI (IntKind.i64.wrap (x2+1))),(124,vI x2),(123,.slice A1_4 l1_4.length c1_4),(122,pP b1 12),(121,pP bp0 0)] [ld b1 12 (.slice A1_4 l1_4.length c1_4)] ⟨hS87.c 1,trivial⟩ ?_
   rcases hq12:rec_pr_mean_all lp0_0 lp0_1 (IntKind.i64.wrap (sp0_2+1)) lp0_3 sp0_4 l1_4 (IntKind.i64.wrap (x2+1)) with _ | r10
   ·rw [hq12] at h; cases h
   rw [hq12] at h
   simp only [] at h
   have hS145:=(((hS87.b 3).b 3).b 2).packN 3
   refine ge_call2 (m:=0) (d:=some 126) (f:=30) (args:=#[pP bp0 0,.slice A1_4 l1_4.length c1_4,vI (IntKind.i64.wrap (x2+1))]) (by kernel_rfl) (hr_pr_mean_all Z bp0 lp0_0 Ap0_0 cp0_0 lp0_1 Ap0_1 cp0_1 (IntKind.i64.wrap (sp0_2+1)) lp0_3 Ap0_3 cp0_3 sp0_4 l1_4 A1_4 c1_4 (IntKind.i64.wrap (x2+1)) _ _ _ hS145 (fun w L h w' k=>(hZ _ _ (h.spread.bring 1 rfl) w' k)) hRp0_3 hLp0_3 hR1_4 hL1_4 _ hq12) ?_
   rintro _ w19 ⟨v16,v17,rfl,hS144⟩
   refine ⟨_,rfl,?_⟩
   have hS151:=(((((hS144.unpack [bk bp0 #[v16,v17,vI r10.2.2.1,.slice Ap0_3 lp0_3.length cp0_3,vI r10.2.2.2] 62,Own.of v16 3 r10.1,Own.of v17 42 r10.2.1]).b 4).b 3).b 3).b 3).takeN 4
   obtain rfl:=si h
   exact ge_nil (pe0 [] [] ⟨v16,v17,rfl,hS151⟩)
  rw [if_neg hc14] at h
  refine wk 119 (x1_0==6) false (beq_eq_false_iff_ne.2 hc14)<|wf ?_
  have hS156:=hS87.p [0,2,3,4] rfl
  obtain rfl:=si h
  exact we_skip (pe0 [] [] ⟨(.slice Ap0_0 lp0_0.length cp0_0),(.slice Ap0_1 lp0_1.length cp0_1),rfl,hS156⟩)
 rw [hq7] at h
 simp only [] at h
 refine we_keep (e':=((0,pP bp0 0)::(1,.agg #[vI x1_0,vI x1_1,vI x1_2_0,vI x1_2_1,.slice A1_2_2 l1_2_2.length c1_2_2,vI x1_3_0,vI x1_3_1_0,vI x1_3_1_1,.slice A1_3_1_2 l1_3_1_2.length c1_3_1_2,vI x1_3_2_0,vI x1_3_2_1,.slice A1_3_2_2 l1_3_2_2.length c1_3_2_2,.slice A1_4 l1_4.length c1_4,.slice A1_5 l1_5.length c1_5])::(2,vI x2)::(4,pP b1 0)::(6,vI (IntKind.i64.wrap ((IntKind.i64.wrap (x2+1))+r1)))::(8,pP bp0 0)::(9,pP bp0 0)::(10,pP bp0 0)::(11,pP bp0 2)::(12,vI sp0_2)::(13,.bool false)::(18,pP bp0 0)::(19,pP bp0 0)::(20,pP bp0 0)::(21,pP bp0 2)::(22,vI sp0_2)::(23,vI (IntKind.i64.wrap (sp0_2+1)))::(24,pP bp0 0)::(25,pP bp0 0)::(26,pP bp0 2)::(27,vI x2)::(28,vI (IntKind.i64.wrap (x2+1)))::(29,pP b1 12)::(30,.slice A1_4 l1_4.length c1_4)::(31,vI r1)::(32,vI (IntKind.i64.wrap ((IntKind.i64.wrap (x2+1))+r1)))::(33,pP b1 0)::(34,vI x1_0)::(35,.bool false)::(36,.bool (x1_0==1))::(49,.bool false)::(50,.bool (x1_0==2))::(69,.bool false)::(70,.bool (x1_0==3))::[])) ea (pr_mean_one_p0 K w0 Z bp0 lp0_0 Ap0_0 cp0_0 lp0_1 Ap0_1 cp0_1 sp0_2 lp0_3 Ap0_3 cp0_3 sp0_4 x1_0 x1_1 x1_2_0 x1_2_1 l1_2_2 A1_2_2 c1_2_2 x1_3_0 x1_3_1_0 x1_3_1_1 l1_3_1_2 A1_3_1_2 c1_3_1_2 x1_3_2_0 x1_3_2_1 l1_3_2_2 A1_3_2_2 c1_3_2_2 l1_4 A1_4 c1_4 l1_5 A1_5 c1_5 x2 LT hZ hRp0_3 hLp0_3 hR1_2_2 hL1_2_2 hR1_3_1_2 hL1_3_1_2 hR1_3_2_2 hL1_3_2_2 hR1_4 hL1_4 hR1_5 hL1_5 rec_pr_mean_all hr_pr_mean_all b1 hc1 r1 hc2 hc4 hc6 _ hq7 _ hS14 _ ?_)
 rintro _ a w1 ⟨_,rfl,hb⟩
 obtain rfl:=si h
 exact hb
def pr_mean_all.recs (K : Nat) : Nat → ((List Int) → (List SPut) → Int → (List Int) → Int → (List SStmt) → Int → Option ((List Int) × (List SPut) × Int × Int)) × ((List Int) → (List SPut) → Int → (List Int) → Int → Int → Int → Int → Int → (List SExpr) → Int → Int → Int → (List SExpr) → Int → Int → (List SExpr) → (List SStmt) → (List SStmt) → Int → Option ((List Int) × (List SPut) × Int × Int))
 | 0=>(fun _ _ _ _ _ _ _=>none,fun _ _ _ _ _ _ _ _ _ _ _ _ _ _ _ _ _ _ _ _=>none)
 | n+1=>(pr_mean_all.b K ((pr_mean_all.recs K n).2),pr_mean_one.b K ((pr_mean_all.recs K n).1))
theorem pr_mean_all_all (K n:Nat):pr_mean_all.Rec ((pr_mean_all.recs K n).1)∧pr_mean_one.Rec ((pr_mean_all.recs K n).2):=by
 induction n with
 | zero=>exact ⟨(by unfold pr_mean_all.Rec; intros; rename_i h; cases (show none=some _ from h)),(by unfold pr_mean_one.Rec; intros; rename_i h; cases (show none=some _ from h))⟩
 | succ n ih=>exact ⟨pr_mean_all_step K _ ih.2,pr_mean_one_step K _ ih.1⟩
def pr_mean_all.f (K : Nat) (lp0_0 : List Int) (lp0_1 : List SPut) (sp0_2 : Int) (lp0_3 : List Int) (sp0_4 : Int) (l1 : List SStmt) (x2 : Int) : Option ((List Int) × (List SPut) × Int × Int) := ((pr_mean_all.recs K K).1) lp0_0 lp0_1 sp0_2 lp0_3 sp0_4 l1 x2
theorem pr_mean_all_ok (K:Nat) (Z:Zone) (bp0:Nat) (lp0_0:List Int) (Ap0_0:OA) (cp0_0:Nat) (lp0_1:List SPut) (Ap0_1:OA) (cp0_1:Nat) (sp0_2:Int) (lp0_3:List Int) (Ap0_3:OA) (cp0_3:Nat) (sp0_4:Int) (l1:List SStmt) (A1:OA) (c1:Nat) (x2:Int) (w0 wE:World) (LT:List Own) (hS:St w0 wE [bk bp0 #[(.slice Ap0_0 lp0_0.length cp0_0),(.slice Ap0_1 lp0_1.length cp0_1),vI sp0_2,.slice Ap0_3 lp0_3.length cp0_3,vI sp0_4] 62,ro Ap0_0 cp0_0 3 lp0_0,ro Ap0_1 cp0_1 42 lp0_1,Own.all LT]) (hZ:∀ w L,St w0 w (Own.all LT::L)→∀ w',Sub w w'→Z w') (hRp0_3:RdL w0 Ap0_3 lp0_3) (hLp0_3:lp0_3.length≤cp0_3) (hR1:RdZ Z A1 l1) (hL1:l1.length≤c1) (r:(List Int)×(List SPut)×Int×Int) (h:pr_mean_all.f K lp0_0 lp0_1 sp0_2 lp0_3 sp0_4 l1 x2=some r):Calls Try.prog 30 #[pP bp0 0,.slice A1 l1.length c1,vI x2] wE (pr_mean_all.Post w0 Z bp0 lp0_0 Ap0_0 cp0_0 lp0_1 Ap0_1 cp0_1 sp0_2 lp0_3 Ap0_3 cp0_3 sp0_4 l1 A1 c1 x2 LT r):=(pr_mean_all_all K K).1 Z bp0 lp0_0 Ap0_0 cp0_0 lp0_1 Ap0_1 cp0_1 sp0_2 lp0_3 Ap0_3 cp0_3 sp0_4 l1 A1 c1 x2 w0 wE LT hS hZ hRp0_3 hLp0_3 hR1 hL1 r h
def pr_mean_one.f (K : Nat) (lp0_0 : List Int) (lp0_1 : List SPut) (sp0_2 : Int) (lp0_3 : List Int) (sp0_4 : Int) (x1_0 : Int) (x1_1 : Int) (x1_2_0 : Int) (x1_2_1 : Int) (l1_2_2 : List SExpr) (x1_3_0 : Int) (x1_3_1_0 : Int) (x1_3_1_1 : Int) (l1_3_1_2 : List SExpr) (x1_3_2_0 : Int) (x1_3_2_1 : Int) (l1_3_2_2 : List SExpr) (l1_4 : List SStmt) (l1_5 : List SStmt) (x2 : Int) : Option ((List Int) × (List SPut) × Int × Int) := ((pr_mean_all.recs K K).2) lp0_0 lp0_1 sp0_2 lp0_3 sp0_4 x1_0 x1_1 x1_2_0 x1_2_1 l1_2_2 x1_3_0 x1_3_1_0 x1_3_1_1 l1_3_1_2 x1_3_2_0 x1_3_2_1 l1_3_2_2 l1_4 l1_5 x2
theorem pr_mean_one_ok (K:Nat) (Z:Zone) (bp0:Nat) (lp0_0:List Int) (Ap0_0:OA) (cp0_0:Nat) (lp0_1:List SPut) (Ap0_1:OA) (cp0_1:Nat) (sp0_2:Int) (lp0_3:List Int) (Ap0_3:OA) (cp0_3:Nat) (sp0_4 x1_0 x1_1 x1_2_0 x1_2_1:Int) (l1_2_2:List SExpr) (A1_2_2:OA) (c1_2_2:Nat) (x1_3_0 x1_3_1_0 x1_3_1_1:Int) (l1_3_1_2:List SExpr) (A1_3_1_2:OA) (c1_3_1_2:Nat) (x1_3_2_0 x1_3_2_1:Int) (l1_3_2_2:List SExpr) (A1_3_2_2:OA) (c1_3_2_2:Nat) (l1_4:List SStmt) (A1_4:OA) (c1_4:Nat) (l1_5:List SStmt) (A1_5:OA) (c1_5:Nat) (x2:Int) (w0 wE:World) (LT:List Own) (hS:St w0 wE [bk bp0 #[(.slice Ap0_0 lp0_0.length cp0_0),(.slice Ap0_1 lp0_1.length cp0_1),vI sp0_2,.slice Ap0_3 lp0_3.length cp0_3,vI sp0_4] 62,ro Ap0_0 cp0_0 3 lp0_0,ro Ap0_1 cp0_1 42 lp0_1,Own.all LT]) (hZ:∀ w L,St w0 w (Own.all LT::L)→∀ w',Sub w w'→Z w') (hRp0_3:RdL w0 Ap0_3 lp0_3) (hLp0_3:lp0_3.length≤cp0_3) (hR1_2_2:RdZ Z A1_2_2 l1_2_2) (hL1_2_2:l1_2_2.length≤c1_2_2) (hR1_3_1_2:RdZ Z A1_3_1_2 l1_3_1_2) (hL1_3_1_2:l1_3_1_2.length≤c1_3_1_2) (hR1_3_2_2:RdZ Z A1_3_2_2 l1_3_2_2) (hL1_3_2_2:l1_3_2_2.length≤c1_3_2_2) (hR1_4:RdZ Z A1_4 l1_4) (hL1_4:l1_4.length≤c1_4) (hR1_5:RdZ Z A1_5 l1_5) (hL1_5:l1_5.length≤c1_5) (r:(List Int)×(List SPut)×Int×Int) (h:pr_mean_one.f K lp0_0 lp0_1 sp0_2 lp0_3 sp0_4 x1_0 x1_1 x1_2_0 x1_2_1 l1_2_2 x1_3_0 x1_3_1_0 x1_3_1_1 l1_3_1_2 x1_3_2_0 x1_3_2_1 l1_3_2_2 l1_4 l1_5 x2=some r):Calls Try.prog 46 #[pP bp0 0,.agg #[vI x1_0,vI x1_1,vI x1_2_0,vI x1_2_1,.slice A1_2_2 l1_2_2.length c1_2_2,vI x1_3_0,vI x1_3_1_0,vI x1_3_1_1,.slice A1_3_1_2 l1_3_1_2.length c1_3_1_2,vI x1_3_2_0,vI x1_3_2_1,.slice A1_3_2_2 l1_3_2_2.length c1_3_2_2,.slice A1_4 l1_4.length c1_4,.slice A1_5 l1_5.length c1_5],vI x2] wE (pr_mean_one.Post w0 Z bp0 lp0_0 Ap0_0 cp0_0 lp0_1 Ap0_1 cp0_1 sp0_2 lp0_3 Ap0_3 cp0_3 sp0_4 x1_0 x1_1 x1_2_0 x1_2_1 l1_2_2 A1_2_2 c1_2_2 x1_3_0 x1_3_1_0 x1_3_1_1 l1_3_1_2 A1_3_1_2 c1_3_1_2 x1_3_2_0 x1_3_2_1 l1_3_2_2 A1_3_2_2 c1_3_2_2 l1_4 A1_4 c1_4 l1_5 A1_5 c1_5 x2 LT r):=(pr_mean_all_all K K).2 Z bp0 lp0_0 Ap0_0 cp0_0 lp0_1 Ap0_1 cp0_1 sp0_2 lp0_3 Ap0_3 cp0_3 sp0_4 x1_0 x1_1 x1_2_0 x1_2_1 l1_2_2 A1_2_2 c1_2_2 x1_3_0 x1_3_1_0 x1_3_1_1 l1_3_1_2 A1_3_1_2 c1_3_1_2 x1_3_2_0 x1_3_2_1 l1_3_2_2 A1_3_2_2 c1_3_2_2 l1_4 A1_4 c1_4 l1_5 A1_5 c1_5 x2 w0 wE LT hS hZ hRp0_3 hLp0_3 hR1_2_2 hL1_2_2 hR1_3_1_2 hL1_3_1_2 hR1_3_2_2 hL1_3_2_2 hR1_4 hL1_4 hR1_5 hL1_5 r h

/-! punctual/punctualref.Mean -/
abbrev pr_Mean.Post (w0:World) (r:SEnded×SFault) (e:Ending) (w:World):Prop:=∃ (v0:Value) (v1:Value),e=.returned (.tuple #[.agg #[v0,v1,vI r.1.Steps],.agg #[vI r.2.Code,vI r.2.At]])∧St w0 w [Own.of v0 3 r.1.Vars,Own.of v1 42 r.1.Puts]
def pr_Mean.p0 (r1 : SFault) : Option ((Int × Int × (List Int) × (List SPut) × Int) ⊕ (SEnded × SFault)) :=
  some (.inl (r1.Code,r1.At,([]:List Int),([]:List SPut),0))
def pr_Mean.f (K : Nat) (l0 : List SStmt) (l1 : List Int) (l2 : List Int) : Option (SEnded × SFault) :=
 match pr_CheckBody.f K l0 with
 | none=>none
 | some r1 =>
  if r1.Code=0 then
   if (l1.length:Int)=8 then
    if (l2.length:Int)=4 then
     if 0+l1.length≤17592186044416 then
      match pr_mean_all.f K l1 ([]:List SPut) 0 l2 (-1) l0 0 with
      | none=>none
      | some r2 =>
       if r2.2.2.2 ≥ 0 then
        some ((⟨([]:List Int),([]:List SPut),0⟩:SEnded),(pr_F.f 11 r2.2.2.2))
       else
        some ((⟨r2.1,r2.2.1,r2.2.2.1⟩:SEnded),(⟨0,0⟩:SFault))
     else
      none
    else
     some ((⟨([]:List Int),([]:List SPut),0⟩:SEnded),(pr_F.f 3 0))
   else
    some ((⟨([]:List Int),([]:List SPut),0⟩:SEnded),(pr_F.f 3 0))
  else
   match pr_Mean.p0 r1 with
   | none=>none
   | some (.inl (z4,z5,m3,m4,z6)) =>
    some ((⟨m3,m4,z6⟩:SEnded),(⟨z4,z5⟩:SFault))
   | some (.inr rr1) =>
    some rr1
abbrev pr_Mean.A0 (w0:World) (b1 b2:Nat):(Int×Int×(List Int)×(List SPut)×Int)→Act→World→Prop:=fun (s:Int×Int×(List Int)×(List SPut)×Int) a w=>∃ (v4:Value) (v5:Value),St w0 w [bk b2 #[vI s.1,vI s.2.1] 31,bk b1 #[v4,v5,vI s.2.2.2.2] 28,Own.of v4 3 s.2.2.1,Own.of v5 42 s.2.2.2.1]∧Frm 56 a [(6,pP b1 0),(7,pP b2 0)]
abbrev pr_Mean.B0 (w0:World):(SEnded×SFault)→Exit→Act→World→Prop:=Rets Try.prog Try.f8 (pr_Mean.Post w0)
theorem pr_Mean_p0 (K:Nat) (w0:World) (Z:Zone) (l0:List SStmt) (A0:OA) (c0:Nat) (l1:List Int) (A1:OA) (c1:Nat) (l2:List Int) (A2:OA) (c2:Nat) (hZ:∀ w,Sub w0 w→Z w) (hR0:RdZ Z A0 l0) (hL0:l0.length≤c0) (hR1:RdL w0 A1 l1) (hL1:l1.length≤c1) (hR2:RdL w0 A2 l2) (hL2:l2.length≤c2) (b1 b2:Nat) (r1:SFault) (b3:Nat) (hc1:¬ (r1.Code=0)) (o:(Int×Int×(List Int)×(List SPut)×Int) ⊕ (SEnded×SFault)) (h:pr_Mean.p0 r1=some o) (w:World) (hS:St w0 w [bk b3 #[vI r1.Code,vI r1.At] 31,bk b2 #[vI 0,vI 0] 31,bk b1 #[.slice none 0 0,.slice none 0 0,vI 0] 28]) (Q:Exit→Act→World→Prop) (hQ:∀ x a w,Outs (pr_Mean.A0 w0 b1 b2) (pr_Mean.B0 w0) o x a w→Q x a w):WE Try.prog 56 (subF Try.f8 [1,0,1,1,0,0]) Q [(0,.slice A0 l0.length c0),(1,.slice A1 l1.length c1),(2,.slice A2 l2.length c2),(6,pP b1 0),(7,pP b2 0),(8,pP b3 0),(10,.slice A0 l0.length c0),(11,.agg #[vI r1.Code,vI r1.At]),(12,pP b3 0),(13,vI r1.Code),(14,.bool true)] w:=by
 simp only [pr_Mean.p0] at h
 refine we_orders3 (by kernel_rfl) [(1,[⟨b3,0,none⟩,⟨b3,1,none⟩],[],[])] (.vals [0] (.vals [1] (.alt 2 2 (.alt 3 2 .fin .nomore) .nomore))) (by kernel_rfl) (by kernel_rfl) ?_
 have hS67:=hS.drew
 refine g30 [0] [(15,.agg #[.slice none 0 0,.slice none 0 0,vI 0])]<|g3 1 [(16,.agg #[vI r1.Code,vI r1.At])] [ld b3 0 (vI r1.Code),ld b3 1 (vI r1.At)] ⟨hS67.c 0,hS67.c 0,trivial⟩<|go_alt3 (fun KK hKK=>?_) ?_
 ·have hS68:=hS67.b 2
  refine gs b1 0 #[.slice none 0 0,.slice none 0 0,vI 0] 28 [.slice none 0 0,.slice none 0 0,vI 0] hS68 fun w22 hS69=>?_
  have hS70:=hS69.nc #[.slice none 0 0,.slice none 0 0,vI 0] (by kernel_rfl)
  refine ge_nil fun a hF=>hKK _ _ (RS.of2 (l:=[ld b3 0 (vI r1.Code),ld b3 1 (vI r1.At)]) (by kernel_rfl) ⟨hS67.c 0,hS67.c 0,trivial⟩ ⟨hS70.c 1,hS70.c 1,trivial⟩) ?_ a hF
  refine go_alt3 (fun KK hKK=>?_) ?_
  ·have hS71:=hS70.b 2
   refine gs b2 0 #[vI 0,vI 0] 31 [vI r1.Code,vI r1.At] hS71 fun w23 hS72=>?_
   have hS73:=hS72.nc #[vI r1.Code,vI r1.At] (by kernel_rfl)
   refine g2 hKK ?_
   have hS74:=hS73.nil (α:=Int) 3
   have hS79:=((((hS74.nil (α:=SPut) 42).b 1).b 3).b 3).takeN 4
   obtain rfl:=si h
   exact go_fin3 fun a hF=>hQ _ _ _ (Outs.again ⟨(.slice none 0 0),(.slice none 0 0),hS79,hF.weaken ea⟩)
  exact go_nomore3
 exact go_nomore3
theorem pr_Mean_ok (K:Nat) (Z:Zone) (l0:List SStmt) (A0:OA) (c0:Nat) (l1:List Int) (A1:OA) (c1:Nat) (l2:List Int) (A2:OA) (c2:Nat) (w0:World) (hZ:∀ w,Sub w0 w→Z w) (hR0:RdZ Z A0 l0) (hL0:l0.length≤c0) (hR1:RdL w0 A1 l1) (hL1:l1.length≤c1) (hR2:RdL w0 A2 l2) (hL2:l2.length≤c2) (r:SEnded×SFault) (h:pr_Mean.f K l0 l1 l2=some r) :
  Calls Try.prog 8 #[.slice A0 l0.length c0,.slice A1 l1.length c1,.slice A2 l2.length c2] w0 (pr_Mean.Post w0 r):=by
 have hS:=St.start w0
 unfold pr_Mean.f at h
 refine calls_enter (n:=56) (args:=[.slice A0 l0.length c0,.slice A1 l1.length c1,.slice A2 l2.length c2]) (fn:=Try.f8) rfl rfl rfl rfl ?_
 show WE _ _ _ _ [(0,.slice A0 l0.length c0),(1,.slice A1 l1.length c1),(2,.slice A2 l2.length c2)] _
 refine ws fun K1 hK1=>wr [(0,1),(1,1)]<|gw (some 6) (.cells #[.slice none 0 0,.slice none 0 0,vI 0] 28) (fun b=>pP b 0) hS fun b1 w1 hx1 hS1=>?_
 refine gw (some 7) (.cells #[vI 0,vI 0] 31) (fun b=>pP b 0) hS1 fun b2 w2 hx2 hS2=>?_
 refine gn hK1<|ws fun K2 hK2=>ws fun K3 hK3=>wr [(0,0),(1,1),(2,1),(3,2)] ?_
 rcases hq1:pr_CheckBody.f K l0 with _ | r1
 ·rw [hq1] at h; cases h
 rw [hq1] at h
 simp only [] at h
 refine gb0 [0] [(10,.slice A0 l0.length c0)]<|ge_call (d:=some 11) (f:=28) (args:=#[.slice A0 l0.length c0]) (by kernel_rfl) (pr_CheckBody_ok K Z l0 A0 c0 _ (fun w' k=>(hZ w' (hS2.subw.trans k))) hR0 hL0 _ hq1) ?_
 rintro _ w3 ⟨rfl,hS3⟩
 refine ⟨_,rfl,hS3.below,?_⟩
 have hS4:=hS2.call hS3
 refine gw (some 8) (.cells #[vI 0,vI 0] 31) (fun b=>pP b 0) hS4 fun b3 w4 hx3 hS5=>?_
 refine gs b3 0 #[vI 0,vI 0] 31 [vI r1.Code,vI r1.At] hS5 fun w5 hS6=>?_
 have hS7:=hS6.nc #[vI r1.Code,vI r1.At] (by kernel_rfl)
 refine gn hK3<|ws fun K4 hK4=>wr [(0,0),(1,0),(2,0)]<|gb [0,1,2] [(14,.bool (r1.Code != 0)),(13,vI r1.Code),(12,pP b3 0)] [ld b3 0 (vI r1.Code)] ⟨hS7.c 0,trivial⟩<|gn hK4 ?_
 by_cases hc1:r1.Code=0
 ·rw [if_pos hc1] at h
  refine wk 14 (r1.Code != 0) false (bne_eq_false_iff_eq.2 hc1)<|wf<|we_skip fun a hF=>hK2 _ _ ?_ a hF
  refine ws fun K5 hK5=>ws fun K6 hK6=>wr [(0,0),(1,0),(2,0),(3,0),(4,0),(5,0),(6,0),(7,0)]<|gb0 [0,1,2,3] [(20,.bool ((l1.length:Int) != 8)),(19,.bool ((l1.length:Int) != 8)),(18,vI (l1.length:Int)),(17,.slice A1 l1.length c1)] ?_
  by_cases hc2:(l1.length:Int)=8
  ·rw [if_pos hc2] at h
   refine gk 20 ((l1.length:Int) != 8) false (bne_eq_false_iff_eq.2 hc2)<|gb0 [4,5,6,7] [(24,.bool ((l2.length:Int) != 4)),(23,.bool ((l2.length:Int) != 4)),(22,vI (l2.length:Int)),(21,.slice A2 l2.length c2)]<|gn hK6 ?_
   by_cases hc3:(l2.length:Int)=4
   ·rw [if_pos hc3] at h
    refine wk 24 ((l2.length:Int) != 4) false (bne_eq_false_iff_eq.2 hc3)<|wf<|we_skip fun a hF=>hK5 _ _ ?_ a hF
    refine ws fun K7 hK7=>wr [(0,0),(1,0),(2,1),(3,0)]<|gb0 [0,1] [(28,.agg #[.slice none 0 0,.slice none 0 0,vI 0,.slice A2 l2.length c2,vI (-1)]),(27,.slice A2 l2.length c2)]<|gw (some 29) (.cells #[.slice none 0 0,.slice none 0 0,vI 0,.slice A2 l2.length c2,vI (-1)] 62) (fun b=>pP b 0) hS7 fun b4 w6 hx4 hS8=>?_
    refine gb0 [3] [(9,pP b4 0)]<|gn hK7<|ws fun K8 hK8=>wr [(0,0),(1,1),(2,0),(3,2),(4,0),(5,0),(6,0),(7,2)]<|gb0 [0] [(30,pP b4 0)]<|gw (some 31) (.cells #[] 3) (fun b=>.slice (some ⟨b,0,none⟩) 0 0) hS8 fun b5 w7 hx5 hS9=>?_
    refine gb0 [2] [(32,.slice A1 l1.length c1)] ?_
    have hS10:=hS9.asRow (α:=Int) (c:=0) ([]:List Int) (Nat.le_refl _) (by decide) rfl rfl
    by_cases hc4:0+l1.length≤17592186044416
    ·rw [if_pos hc4] at h
     refine ge_appendL (α:=Int) (m:=0) (d:=33) (t:=23) (el:=3) (bytes:=8) (c1:=c1) (A1:=A1) (x:=(.tmp 31)) (y:=(.tmp 32)) (ty:=23) (v:=(.slice (some ⟨b5,0,none⟩) 0 0)) (z:=vI 0) (l:=([]:List Int)) (us:=l1) (by kernel_rfl) (by kernel_rfl) (by kernel_rfl) (by kernel_rfl) (by kernel_rfl) rfl hS10 (hS10.rd hR1) rfl (Nat.mul_le_of_le_div _ _ _ hc4) fun v1 w8 hS11=>?_
     have hS12:St w0 w8 [Own.of v1 3 l1,bk b4 #[.slice none 0 0,.slice none 0 0,vI 0,.slice A2 l2.length c2,vI (-1)] 62,bk b3 #[vI r1.Code,vI r1.At] 31,bk b2 #[vI 0,vI 0] 31,bk b1 #[.slice none 0 0,.slice none 0 0,vI 0] 28]:=hS11
     refine gb0 [4,5,6] [(36,pP b4 0),(35,pP b4 0),(34,pP b4 0)] ?_
     obtain ⟨Z1,cz1,rfl⟩:=hS12.open 0 rfl
     have hS13:=hS12.b 1
     refine gs b4 0 #[.slice none 0 0,.slice none 0 0,vI 0,.slice A2 l2.length c2,vI (-1)] 62 [(.slice Z1 l1.length cz1)] hS13 fun w9 hS14=>?_
     have hS15:=hS14.nc #[(.slice Z1 l1.length cz1),.slice none 0 0,vI 0,.slice A2 l2.length c2,vI (-1)] (by kernel_rfl)
     refine gn hK8<|ws fun K9 hK9=>wr [(0,0),(1,0),(2,2)]<|gb0 [0,1] [(38,.slice A0 l0.length c0),(37,pP b4 0)] ?_
     rcases hq2:pr_mean_all.f K l1 ([]:List SPut) 0 l2 (-1) l0 0 with _ | r2
     ·rw [hq2] at h; cases h
     rw [hq2] at h
     simp only [] at h
     have hS20:=(((hS15.nil (α:=SPut) 42).b 2).b 2).packN 3
     refine ge_call2 (m:=0) (d:=some 39) (f:=30) (args:=#[pP b4 0,.slice A0 l0.length c0,vI 0]) (by kernel_rfl) (pr_mean_all_ok K Z b4 l1 Z1 cz1 ([]:List SPut) none 0 0 l2 A2 c2 (-1) l0 A0 c0 0 _ _ _ hS20 (fun w L h w' k=>(hZ w' (h.subw.trans k))) hR2 hL2 hR0 hL0 _ hq2) ?_
     rintro _ w10 ⟨v2,v3,rfl,hS19⟩
     refine ⟨_,rfl,?_⟩
     have hS21:=hS19.unpack [bk b4 #[v2,v3,vI r2.2.2.1,.slice A2 l2.length c2,vI r2.2.2.2] 62,Own.of v2 3 r2.1,Own.of v3 42 r2.2.1]
     refine gn hK9<|ws fun K10 hK10=>ws fun K11 hK11=>wr [(0,0),(1,0),(2,0),(3,0),(4,0)]<|gb [0,1,2,3,4] [(44,.bool (decide (r2.2.2.2 ≥ 0))),(43,vI r2.2.2.2),(42,pP b4 4),(41,pP b4 0),(40,pP b4 0)] [ld b4 4 (vI r2.2.2.2)] ⟨hS21.c 0,trivial⟩<|gn hK11 ?_
     by_cases hc5:r2.2.2.2 ≥ 0
     ·rw [if_pos hc5] at h
      refine wk 44 (decide (r2.2.2.2 ≥ 0)) true (decide_eq_true hc5)<|wt<|ws fun K12 hK12=>wr [(0,0),(1,0),(2,0),(3,0),(4,0),(5,1),(6,2),(7,2)]<|gb [0,1,2,3,4] [(49,vI r2.2.2.2),(48,pP b4 4),(47,pP b4 0),(46,pP b4 0),(45,.agg #[.slice none 0 0,.slice none 0 0,vI 0])] [ld b4 4 (vI r2.2.2.2)] ⟨hS21.c 0,trivial⟩<|ge_call (d:=some 50) (f:=29) (args:=#[vI 11,vI r2.2.2.2]) (by kernel_rfl) (pr_F_ok 11 r2.2.2.2 _ _ rfl) ?_
      rintro _ w11 ⟨rfl,hS22⟩
      refine ⟨_,rfl,hS22.below,?_⟩
      have hS24:=(hS21.call hS22).b 5
      refine gs b1 0 #[.slice none 0 0,.slice none 0 0,vI 0] 28 [.slice none 0 0,.slice none 0 0,vI 0] hS24 fun w12 hS25=>?_
      have hS27:=(hS25.nc #[.slice none 0 0,.slice none 0 0,vI 0] (by kernel_rfl)).b 5
      refine gs b2 0 #[vI 0,vI 0] 31 [vI ((pr_F.f 11 r2.2.2.2).Code),vI ((pr_F.f 11 r2.2.2.2).At)] hS27 fun w13 hS28=>?_
      have hS29:=hS28.nc #[vI ((pr_F.f 11 r2.2.2.2).Code),vI ((pr_F.f 11 r2.2.2.2).At)] (by kernel_rfl)
      refine gn hK12 ?_
      have hS30:=hS29.nil (α:=Int) 3
      have hS31:=hS30.nil (α:=SPut) 42
      have hS33:=hS31.p [1,0] rfl
      obtain rfl:=si h
      exact we_ret (pr [.cell 6 28,.cell 7 31] [.agg #[(.slice none 0 0),(.slice none 0 0),vI 0],.agg #[vI ((pr_F.f 11 r2.2.2.2).Code),vI ((pr_F.f 11 r2.2.2.2).At)]] [ld b1 0 ((.slice none 0 0)),ld b1 1 ((.slice none 0 0)),ld b1 2 (vI 0),ld b2 0 (vI ((pr_F.f 11 r2.2.2.2).Code)),ld b2 1 (vI ((pr_F.f 11 r2.2.2.2).At))] ⟨hS31.c 3,hS31.c 3,hS31.c 3,hS31.c 2,hS31.c 2,trivial⟩ ⟨(.slice none 0 0),(.slice none 0 0),rfl,hS33⟩)
     rw [if_neg hc5] at h
     refine wk 44 (decide (r2.2.2.2 ≥ 0)) false (decide_eq_false hc5)<|wf<|we_skip fun a hF=>hK10 _ _ ?_ a hF
     refine ws fun K13 hK13=>wr [(0,0),(1,0),(2,0),(3,0),(4,0),(5,2),(6,2)]<|gb [0,1,2,3,4] [(55,.agg #[vI 0,vI 0]),(54,.agg #[v2,v3,vI r2.2.2.1]),(53,pP b4 0),(52,pP b4 0),(51,pP b4 0)] [ld b4 0 (v2),ld b4 1 (v3),ld b4 2 (vI r2.2.2.1)] ⟨hS21.c 0,hS21.c 0,hS21.c 0,trivial⟩ ?_
     obtain ⟨Z2,cz2,rfl⟩:=hS21.open 1 rfl
     obtain ⟨Z3,cz3,rfl⟩:=hS21.open 2 rfl
     have hS34:=hS21.b 5
     refine gs b1 0 #[.slice none 0 0,.slice none 0 0,vI 0] 28 [(.slice Z2 r2.1.length cz2),(.slice Z3 r2.2.1.length cz3),vI r2.2.2.1] hS34 fun w14 hS35=>?_
     have hS37:=(hS35.nc #[(.slice Z2 r2.1.length cz2),(.slice Z3 r2.2.1.length cz3),vI r2.2.2.1] (by kernel_rfl)).b 5
     refine gs b2 0 #[vI 0,vI 0] 31 [vI 0,vI 0] hS37 fun w15 hS38=>?_
     have hS39:=hS38.nc #[vI 0,vI 0] (by kernel_rfl)
     refine gn hK13 ?_
     have hS42:=hS39.p [3,4] rfl
     obtain rfl:=si h
     exact we_ret (pr [.cell 6 28,.cell 7 31] [.agg #[(.slice Z2 r2.1.length cz2),(.slice Z3 r2.2.1.length cz3),vI r2.2.2.1],.agg #[vI 0,vI 0]] [ld b1 0 ((.slice Z2 r2.1.length cz2)),ld b1 1 ((.slice Z3 r2.2.1.length cz3)),ld b1 2 (vI r2.2.2.1),ld b2 0 (vI 0),ld b2 1 (vI 0)] ⟨hS39.c 1,hS39.c 1,hS39.c 1,hS39.c 0,hS39.c 0,trivial⟩ ⟨(.slice Z2 r2.1.length cz2),(.slice Z3 r2.2.1.length cz3),rfl,hS42⟩)
    rw [if_neg hc4] at h
    cases h
   rw [if_neg hc3] at h
   refine wk 24 ((l2.length:Int) != 4) true (bne_iff_ne.2 hc3)<|wt<|ws fun K14 hK14=>wr [(0,0),(1,1),(2,2),(3,2)]<|gb0 [0] [(25,.agg #[.slice none 0 0,.slice none 0 0,vI 0])]<|ge_call (d:=some 26) (f:=29) (args:=#[vI 3,vI 0]) (by kernel_rfl) (pr_F_ok 3 0 _ _ rfl) ?_
   rintro _ w16 ⟨rfl,hS43⟩
   refine ⟨_,rfl,hS43.below,?_⟩
   have hS45:=(hS7.call hS43).b 2
   refine gs b1 0 #[.slice none 0 0,.slice none 0 0,vI 0] 28 [.slice none 0 0,.slice none 0 0,vI 0] hS45 fun w17 hS46=>?_
   have hS48:=(hS46.nc #[.slice none 0 0,.slice none 0 0,vI 0] (by kernel_rfl)).b 2
   refine gs b2 0 #[vI 0,vI 0] 31 [vI ((pr_F.f 3 0).Code),vI ((pr_F.f 3 0).At)] hS48 fun w18 hS49=>?_
   have hS50:=hS49.nc #[vI ((pr_F.f 3 0).Code),vI ((pr_F.f 3 0).At)] (by kernel_rfl)
   refine gn hK14 ?_
   have hS51:=hS50.nil (α:=Int) 3
   have hS52:=hS51.nil (α:=SPut) 42
   have hS54:=hS52.p [1,0] rfl
   obtain rfl:=si h
   exact we_ret (pr [.cell 6 28,.cell 7 31] [.agg #[(.slice none 0 0),(.slice none 0 0),vI 0],.agg #[vI ((pr_F.f 3 0).Code),vI ((pr_F.f 3 0).At)]] [ld b1 0 ((.slice none 0 0)),ld b1 1 ((.slice none 0 0)),ld b1 2 (vI 0),ld b2 0 (vI ((pr_F.f 3 0).Code)),ld b2 1 (vI ((pr_F.f 3 0).At))] ⟨hS52.c 3,hS52.c 3,hS52.c 3,hS52.c 2,hS52.c 2,trivial⟩ ⟨(.slice none 0 0),(.slice none 0 0),rfl,hS54⟩)
  rw [if_neg hc2] at h
  refine gk 20 ((l1.length:Int) != 8) true (bne_iff_ne.2 hc2)<|gb0 [4,5,6,7] [(24,.bool true),(23,undef),(22,undef),(21,undef)]<|gn hK6<|wt<|ws fun K15 hK15=>wr [(0,0),(1,1),(2,2),(3,2)]<|gb0 [0] [(25,.agg #[.slice none 0 0,.slice none 0 0,vI 0])]<|ge_call (d:=some 26) (f:=29) (args:=#[vI 3,vI 0]) (by kernel_rfl) (pr_F_ok 3 0 _ _ rfl) ?_
  rintro _ w19 ⟨rfl,hS55⟩
  refine ⟨_,rfl,hS55.below,?_⟩
  have hS57:=(hS7.call hS55).b 2
  refine gs b1 0 #[.slice none 0 0,.slice none 0 0,vI 0] 28 [.slice none 0 0,.slice none 0 0,vI 0] hS57 fun w20 hS58=>?_
  have hS60:=(hS58.nc #[.slice none 0 0,.slice none 0 0,vI 0] (by kernel_rfl)).b 2
  refine gs b2 0 #[vI 0,vI 0] 31 [vI ((pr_F.f 3 0).Code),vI ((pr_F.f 3 0).At)] hS60 fun w21 hS61=>?_
  have hS62:=hS61.nc #[vI ((pr_F.f 3 0).Code),vI ((pr_F.f 3 0).At)] (by kernel_rfl)
  refine gn hK15 ?_
  have hS63:=hS62.nil (α:=Int) 3
  have hS64:=hS63.nil (α:=SPut) 42
  have hS66:=hS64.p [1,0] rfl
  obtain rfl:=si h
  exact we_ret (pr [.cell 6 28,.cell 7 31] [.agg #[(.slice none 0 0),(.slice none 0 0),vI 0],.agg #[vI ((pr_F.f 3 0).Code),vI ((pr_F.f 3 0).At)]] [ld b1 0 ((.slice none 0 0)),ld b1 1 ((.slice none 0 0)),ld b1 2 (vI 0),ld b2 0 (vI ((pr_F.f 3 0).Code)),ld b2 1 (vI ((pr_F.f 3 0).At))] ⟨hS64.c 3,hS64.c 3,hS64.c 3,hS64.c 2,hS64.c 2,trivial⟩ ⟨(.slice none 0 0),(.slice none 0 0),rfl,hS66⟩)
 rw [if_neg hc1] at h
 refine wk 14 (r1.Code != 0) true (bne_iff_ne.2 hc1)<|wt<|ws fun K16 hK16=>?_
 rcases hq6:pr_Mean.p0 r1 with _ | (⟨z4,z5,m3,m4,z6⟩ | rr1)
 ·rw [hq6] at h; cases h
 ·rw [hq6] at h
  simp only [] at h
  refine kp (pr_Mean_p0 K w0 Z l0 A0 c0 l1 A1 c1 l2 A2 c2 hZ hR0 hL0 hR1 hL1 hR2 hL2 b1 b2 r1 b3 hc1 _ hq6 _ hS7 _ ?_)
  rintro _ a w24 ⟨rfl,v6,v7,hS80,hF⟩
  replace hS80:St w0 w24 [bk b2 #[vI z4,vI z5] 31,bk b1 #[v6,v7,vI z6] 28,Own.of v6 3 m3,Own.of v7 42 m4]:=hS80
  refine hK16 [(6,pP b1 0),(7,pP b2 0)] w24 ?_ a hF
  have hS83:=hS80.p [2,3] rfl
  obtain rfl:=si h
  exact we_ret (pr [.cell 6 28,.cell 7 31] [.agg #[v6,v7,vI z6],.agg #[vI z4,vI z5]] [ld b1 0 (v6),ld b1 1 (v7),ld b1 2 (vI z6),ld b2 0 (vI z4),ld b2 1 (vI z5)] ⟨hS80.c 1,hS80.c 1,hS80.c 1,hS80.c 0,hS80.c 0,trivial⟩ ⟨v6,v7,rfl,hS83⟩)
 rw [hq6] at h
 simp only [] at h
 refine kp (pr_Mean_p0 K w0 Z l0 A0 c0 l1 A1 c1 l2 A2 c2 hZ hR0 hL0 hR1 hL1 hR2 hL2 b1 b2 r1 b3 hc1 _ hq6 _ hS7 _ ?_)
 rintro _ a w1 ⟨_,rfl,hb⟩
 obtain rfl:=si h
 exact hb

/-! punctual/punctualsame.twinExpr -/
abbrev ps_twinExpr.Post (w0:World) (Z:Zone) (r:SExpr) (e:Ending) (w:World):Prop:=∃ (A2:OA) (c2:Nat) (ft:List Nat) (wf:World),e=.returned (.agg #[vI r.Kind,vI r.N,.slice A2 r.A.length c2])∧r.A.length≤c2∧RdZ (Zand Z wf) A2 r.A∧St w0 w [Own.frz ft wf]
abbrev ps_twinExpr.Rec (rec_ps_twinExpr:Int→Int→(List SExpr)→Option SExpr):Prop:=∀ (Z:Zone) (x0_0:Int) (x0_1:Int) (l0_2:List SExpr) (A0_2:OA) (c0_2:Nat) (w0:World) (hZ:∀ w,Sub w0 w→Z w) (hR0_2:RdZ Z A0_2 l0_2) (hL0_2:l0_2.length≤c0_2) (r:SExpr) (h:rec_ps_twinExpr x0_0 x0_1 l0_2=some r),Calls Try.prog 31 #[.agg #[vI x0_0,vI x0_1,.slice A0_2 l0_2.length c0_2]] w0 (ps_twinExpr.Post w0 Z r)
def ps_twinExpr.r0 (l0_2 : List SExpr) (rec_ps_twinExpr : Int → Int → (List SExpr) → Option SExpr) : (List SExpr) × Nat → Option (((List SExpr) × Nat) ⊕ ((List SExpr) ⊕ SExpr))
 | (m1,i1) =>
  if (i1:Int)<(l0_2.length:Int) then
   match l0_2[i1]? with
   | none=>none
   | some e1 =>
    match rec_ps_twinExpr e1.Kind e1.N e1.A with
    | none=>none
    | some r1 =>
     if m1.length<3518437208883 then
      some (.inl ((m1++[r1]),(i1+1)))
     else
      none
  else
   some (.inr (.inl m1))
def ps_twinExpr.b (K : Nat) (rec_ps_twinExpr : Int → Int → (List SExpr) → Option SExpr) (x0_0 : Int) (x0_1 : Int) (l0_2 : List SExpr) : Option SExpr :=
 match iter (ps_twinExpr.r0 l0_2 rec_ps_twinExpr) K (([]:List SExpr),0) with
 | none=>none
 | some (.inl m3) =>
  some (⟨x0_0,x0_1,m3⟩:SExpr)
 | some (.inr rr1) =>
  some rr1
abbrev ps_twinExpr.A0 (w0:World) (Z:Zone) (x0_0 x0_1:Int) (l0_2:List SExpr) (A0_2:OA) (c0_2:Nat) (wf1:World) (b1 b2:Nat):((List SExpr)×Nat)→Act→World→Prop:=fun (s:(List SExpr)×Nat) a w=>∃ (ft2:List Nat) (wf2:World) (v1:Value) (hds1:List HExpr),Sub wf1 wf2∧DRows (Zand Z wf2) hds1 s.1∧St w0 w [bk b2 #[vI 0,vI 0,.slice none 0 0] 66,bk b1 #[vI x0_0,vI x0_1,.slice A0_2 l0_2.length c0_2] 66,Own.of v1 66 hds1,Own.frz ft2 wf2]∧Frm 22 a [(1,pP b1 0),(2,pP b2 0),(3,v1),(7,.slice A0_2 l0_2.length c0_2),(8,vI (l0_2.length:Int)),(9,vI (s.2:Int))]
abbrev ps_twinExpr.B0 (w0:World) (Z:Zone) (x0_0 x0_1:Int) (l0_2:List SExpr) (A0_2:OA) (c0_2:Nat) (wf1:World) (b1 b2:Nat):((List SExpr) ⊕ SExpr)→Exit→Act→World→Prop:=Exits 0 (fun (s:(List SExpr)) a w=>∃ (ft3:List Nat) (wf3:World) (v2:Value) (hds2:List HExpr),Sub wf1 wf3∧DRows (Zand Z wf3) hds2 s∧St w0 w [bk b2 #[vI 0,vI 0,.slice none 0 0] 66,bk b1 #[vI x0_0,vI x0_1,.slice A0_2 l0_2.length c0_2] 66,Own.of v2 66 hds2,Own.frz ft3 wf3]∧Frm 22 a [(1,pP b1 0),(2,pP b2 0),(3,v2)]) (Rets Try.prog Try.f31 (ps_twinExpr.Post w0 Z))
theorem ps_twinExpr_r0 (K:Nat) (w0:World) (Z:Zone) (x0_0 x0_1:Int) (l0_2:List SExpr) (A0_2:OA) (c0_2:Nat) (hZ:∀ w,Sub w0 w→Z w) (hR0_2:RdZ Z A0_2 l0_2) (hL0_2:l0_2.length≤c0_2) (rec_ps_twinExpr:Int→Int→(List SExpr)→Option SExpr) (hr_ps_twinExpr:ps_twinExpr.Rec rec_ps_twinExpr) (ft1:List Nat) (wf1:World) (b1 b2:Nat) (s:(List SExpr)×Nat) (o:((List SExpr)×Nat) ⊕ ((List SExpr) ⊕ SExpr)) (h:ps_twinExpr.r0 l0_2 rec_ps_twinExpr s=some o) (a:Act) (w:World) (hA:ps_twinExpr.A0 w0 Z x0_0 x0_1 l0_2 A0_2 c0_2 wf1 b1 b2 s a w) (Q:Exit→Act→World→Prop) (hQ:∀ x a w,Outs (ps_twinExpr.A0 w0 Z x0_0 x0_1 l0_2 A0_2 c0_2 wf1 b1 b2) (ps_twinExpr.B0 w0 Z x0_0 x0_1 l0_2 A0_2 c0_2 wf1 b1 b2) o x a w→Q x a w):(subF Try.f31 [1,1,0,1,0,0]).wp Try.prog Q a w:=by
 obtain ⟨m1,i1⟩:=s
 obtain ⟨ft2,wf2,v1,hds1,hsb1,hd1,hS,hF⟩:=hA
 replace hS:St w0 w [bk b2 #[vI 0,vI 0,.slice none 0 0] 66,bk b1 #[vI x0_0,vI x0_1,.slice A0_2 l0_2.length c0_2] 66,Own.of v1 66 hds1,Own.frz ft2 wf2]:=hS
 simp only [ps_twinExpr.r0] at h
 refine (?_:WE Try.prog 22 (subF Try.f31 [1,1,0,1,0,0]) Q [(1,pP b1 0),(2,pP b2 0),(3,v1),(7,.slice A0_2 l0_2.length c0_2),(8,vI (l0_2.length:Int)),(9,vI (i1:Int))] w) a hF
 clear hF a
 refine ws fun K5 hK5=>wr [(0,0)]<|gb0 [0] [(10,.bool (decide ((i1:Int)<(l0_2.length:Int))))]<|gn hK5<|ws fun K6 hK6=>?_
 by_cases hc1:(i1:Int)<(l0_2.length:Int)
 ·rw [if_pos hc1] at h
  refine wk 10 (decide ((i1:Int)<(l0_2.length:Int))) true (decide_eq_true hc1)<|wt<|we_skip fun a hF=>hK6 _ _ ?_ a hF
  refine ws fun K7 hK7=>we_block<|ws fun K8 hK8=>wr [(0,0),(1,0),(2,1),(3,2)] ?_
  rcases hx3:l0_2[i1]? with _ | e1
  ·rw [hx3] at h; cases h
  rw [hx3] at h
  simp only [] at h
  obtain ⟨An1,cn1,hCs1,hLn1,hRn1⟩:=SExpr.getZ hR0_2 hx3
  refine gi 11 0 64 66 3 l0_2.length c0_2 (.tmp 7) (.tmp 9) A0_2 .i64 (i1:Int) i1 (hR0_2.eqSome (hZ _ hS.subw) (pos_of_get hx3)) rfl (lt_of_get hx3) ?_
  refine gb [1] [(12,.agg #[vI e1.Kind,vI e1.N,.slice An1 e1.A.length cn1])] [.loaded ⟨blkOf A0_2,offOf A0_2+i1*3,none⟩ (vI e1.Kind),.loaded ⟨blkOf A0_2,offOf A0_2+i1*3+1,none⟩ (vI e1.N),.loaded ⟨blkOf A0_2,offOf A0_2+i1*3+2,none⟩ (.slice An1 e1.A.length cn1)] ⟨hCs1 _ (hZ _ hS.subw) 0 _ rfl,hCs1 _ (hZ _ hS.subw) 1 _ rfl,hCs1 _ (hZ _ hS.subw) 2 _ rfl,trivial⟩<|gw (some 5) (.cells #[vI 0,vI 0,.slice none 0 0] 66) (fun b=>pP b 0) hS fun b3 w3 hx4 hS9=>?_
  refine gs b3 0 #[vI 0,vI 0,.slice none 0 0] 66 [vI e1.Kind,vI e1.N,.slice An1 e1.A.length cn1] hS9 fun w4 hS10=>?_
  have hS11:=hS10.nc #[vI e1.Kind,vI e1.N,.slice An1 e1.A.length cn1] (by kernel_rfl)
  refine gn hK8<|wr [(0,0),(1,0),(2,1),(3,1),(4,2),(5,0)] ?_
  rcases hq1:rec_ps_twinExpr e1.Kind e1.N e1.A with _ | r1
  ·rw [hq1] at h; cases h
  rw [hq1] at h
  simp only [] at h
  refine gb [0,1] [(14,.agg #[vI e1.Kind,vI e1.N,.slice An1 e1.A.length cn1]),(13,v1)] [ld b3 0 (vI e1.Kind),ld b3 1 (vI e1.N),ld b3 2 (.slice An1 e1.A.length cn1)] ⟨hS11.c 0,hS11.c 0,hS11.c 0,trivial⟩<|ge_call (d:=some 15) (f:=31) (args:=#[.agg #[vI e1.Kind,vI e1.N,.slice An1 e1.A.length cn1]]) (by kernel_rfl) (hr_ps_twinExpr (Zand Z wf2) e1.Kind e1.N e1.A An1 cn1 _ (fun w' k=>⟨(hZ w' (hS11.subw.trans k)),(hS11.frzSub 4 rfl).trans k⟩) (hRn1.up (ZLe.in _ _)) hLn1 _ hq1) ?_
  rintro _ w5 ⟨A1,c1,ft4,wf4,rfl,hL1,hR1,hS12⟩
  refine ⟨_,rfl,hS12.below,?_⟩
  have hS15:=((hS11.call hS12).b 5).b 1
  obtain ⟨ft5,wf5,hsb3,hsb4,hS16⟩:=hS15.frzMerge
  replace hR1:RdZ (Zand Z wf5) A1 r1.A:=hR1.up (ZLe.both hsb4 hsb3)
  refine gw (some 16) (.cells #[vI r1.Kind,vI r1.N,.slice A1 r1.A.length c1] 66) (fun b=>.slice (some ⟨b,0,none⟩) 1 1) hS16 fun b4 w6 hx5 hS17=>?_
  have hS18:=hS17.b 5
  by_cases hc2:m1.length<3518437208883
  ·rw [if_pos hc2] at h
   have hd3:DRows (Zand Z wf5) (hds1++[(⟨r1.Kind,r1.N,⟨A1,r1.A.length,c1⟩⟩:HExpr)]) (m1++[r1]):=DRows.add (hd1.up (ZLe.up hsb4)) (SExpr.mkZ r1 hL1 hR1)
   refine ge_append (α:=HExpr) (m:=0) (d:=17) (t:=64) (el:=66) (bytes:=40) (c1:=1) (b1:=b4) (x:=(.tmp 13)) (y:=(.tmp 16)) (ty:=64) (v:=v1) (z:=.agg #[vI 0,vI 0,.slice none 0 0]) (l:=hds1) (u:=(⟨r1.Kind,r1.N,⟨A1,r1.A.length,c1⟩⟩:HExpr)) (by kernel_rfl) (by kernel_rfl) (by kernel_rfl) (by kernel_rfl) (by kernel_rfl) rfl hS18 rfl (by have h0:hds1.length=m1.length:=DRows.len (hd1.up (ZLe.up hsb4)); omega) fun v3 w7 hS19=>?_
   refine gb0 [5] [(3,v3)]<|gn hK7<|wr [(0,0),(1,0)]<|ge_addn (d:=18) (ty:=3) (x:=(.tmp 9)) (y:=(.const (vI 1))) (t:=3) (t2:=3) (k:=.i64) (m:=i1) (by kernel_rfl) (by kernel_rfl) (by kernel_rfl) (by have h0:=RdZ.small hR0_2 (hZ _ hS19.subw); omega) ?_
   refine gb0 [1] [(9,vI ((i1+1:Nat):Int))] ?_
   have hS24:=hS19.p [3,4,0,1] rfl
   obtain rfl:=si h
   exact ge_nil fun a hF=>hQ _ _ _ (Outs.again ⟨ft5,wf5,v3,(hds1++[(⟨r1.Kind,r1.N,⟨A1,r1.A.length,c1⟩⟩:HExpr)]),(hsb1.trans hsb4),hd3,hS24,hF.weaken ea⟩)
  rw [if_neg hc2] at h
  cases h
 rw [if_neg hc1] at h
 refine wk 10 (decide ((i1:Int)<(l0_2.length:Int))) false (decide_eq_false hc1)<|wf ?_
 have hS28:=(((hS.b 3).b 3).b 3).b 3
 obtain rfl:=si h
 exact we_exit fun a hF=>hQ _ _ _ (Outs.out nofun (Exits.here ⟨ft2,wf2,v1,hds1,hsb1,hd1,hS28,hF.weaken ea⟩))
theorem ps_twinExpr_step (K:Nat) (rec_ps_twinExpr:Int→Int→(List SExpr)→Option SExpr) (hr_ps_twinExpr:ps_twinExpr.Rec rec_ps_twinExpr) (Z:Zone) (x0_0 x0_1:Int) (l0_2:List SExpr) (A0_2:OA) (c0_2:Nat) (w0:World) (hZ:∀ w,Sub w0 w→Z w) (hR0_2:RdZ Z A0_2 l0_2) (hL0_2:l0_2.length≤c0_2) (r:SExpr) (h:ps_twinExpr.b K rec_ps_twinExpr x0_0 x0_1 l0_2=some r) :
  Calls Try.prog 31 #[.agg #[vI x0_0,vI x0_1,.slice A0_2 l0_2.length c0_2]] w0 (ps_twinExpr.Post w0 Z r):=by
 have hS:=St.start w0
 unfold ps_twinExpr.b at h
 refine calls_enter (n:=22) (args:=[.agg #[vI x0_0,vI x0_1,.slice A0_2 l0_2.length c0_2]]) (fn:=Try.f31) rfl rfl rfl rfl ?_
 show WE _ _ _ _ [(0,.agg #[vI x0_0,vI x0_1,.slice A0_2 l0_2.length c0_2])] _
 obtain ⟨ft1,wf1,hS1⟩:=hS.frz0
 refine ws fun K1 hK1=>wr [(0,1),(1,1)]<|gw (some 1) (.cells #[vI x0_0,vI x0_1,.slice A0_2 l0_2.length c0_2] 66) (fun b=>pP b 0) hS1 fun b1 w1 hx1 hS2=>?_
 refine gw (some 2) (.cells #[vI 0,vI 0,.slice none 0 0] 66) (fun b=>pP b 0) hS2 fun b2 w2 hx2 hS3=>?_
 refine gn hK1<|ws fun K2 hK2=>wr [(0,0)]<|gb0 [0] [(3,.slice none 0 0)]<|gn hK2<|ws fun K3 hK3=>ws fun K4 hK4=>wr [(0,0),(1,0),(2,0),(3,0)]<|gb [0,1,2,3] [(9,vI 0),(8,vI (l0_2.length:Int)),(7,.slice A0_2 l0_2.length c0_2),(6,pP b1 2)] [ld b1 2 (.slice A0_2 l0_2.length c0_2)] ⟨hS3.c 1,trivial⟩<|gn hK4<|we_block ?_
 have hS8:=((((hS3.nil (α:=HExpr) 66).b 3).b 1).b 3).b 3
 rcases hq2:iter (ps_twinExpr.r0 l0_2 rec_ps_twinExpr) K (([]:List SExpr),0) with _ | (m3 | rr1)
 ·rw [hq2] at h; cases h
 ·rw [hq2] at h
  simp only [] at h
  refine we_iter (A:=ps_twinExpr.A0 w0 Z x0_0 x0_1 l0_2 A0_2 c0_2 wf1 b1 b2) (B:=ps_twinExpr.B0 w0 Z x0_0 x0_1 l0_2 A0_2 c0_2 wf1 b1 b2) hq2 (fun a hF=>⟨ft1,wf1,(.slice none 0 0),([]:List HExpr),(Sub.refl _),(DRows.nil _),hS8,hF.weaken ea⟩) (fun s o hf a w hA Q hQ=>ps_twinExpr_r0 K w0 Z x0_0 x0_1 l0_2 A0_2 c0_2 hZ hR0_2 hL0_2 rec_ps_twinExpr hr_ps_twinExpr ft1 wf1 b1 b2 s o hf a w hA Q hQ) ?_
  rintro _ a w8 _ ⟨rfl,ft6,wf6,v4,hds3,hRz1,hRz2,hS29,hF⟩
  replace hS29:St w0 w8 [bk b2 #[vI 0,vI 0,.slice none 0 0] 66,bk b1 #[vI x0_0,vI x0_1,.slice A0_2 l0_2.length c0_2] 66,Own.of v4 66 hds3,Own.frz ft6 wf6]:=hS29
  refine hK3 [(1,pP b1 0),(2,pP b2 0),(3,v4)] w8 ?_ a hF
  refine ws fun K9 hK9=>wr [(0,0),(1,0),(2,2)]<|gb0 [0,1] [(20,pP b1 2),(19,v4)] ?_
  obtain ⟨Z1,cz1,rfl⟩:=hS29.dopen 2 rfl hRz2
  have hS31:=(hS29.b 3).b 3
  obtain ⟨ft7,wf7,hsb5,-,hRd1,hLd1,hS32⟩:=hS31.dfrz (Z:=Z) hRz2
  have hS33:=hS32.b 2
  refine gs b1 2 #[vI x0_0,vI x0_1,.slice A0_2 l0_2.length c0_2] 66 [.slice Z1 m3.length cz1] hS33 fun w9 hS34=>?_
  have hS35:=hS34.nc #[vI x0_0,vI x0_1,.slice Z1 m3.length cz1] (by kernel_rfl)
  refine gn hK9<|ws fun K10 hK10=>wr [(0,0),(1,2)]<|gb [0] [(21,.agg #[vI x0_0,vI x0_1,.slice Z1 m3.length cz1])] [ld b1 0 (vI x0_0),ld b1 1 (vI x0_1),ld b1 2 (.slice Z1 m3.length cz1)] ⟨hS35.c 0,hS35.c 0,hS35.c 0,trivial⟩ ?_
  have hS36:=hS35.b 2
  refine gs b2 0 #[vI 0,vI 0,.slice none 0 0] 66 [vI x0_0,vI x0_1,.slice Z1 m3.length cz1] hS36 fun w10 hS37=>?_
  have hS38:=hS37.nc #[vI x0_0,vI x0_1,.slice Z1 m3.length cz1] (by kernel_rfl)
  refine gn hK10 ?_
  have hS40:=hS38.p [2] rfl
  obtain rfl:=si h
  exact we_ret (pr [.cell 2 66] [.agg #[vI x0_0,vI x0_1,.slice Z1 m3.length cz1]] [ld b2 0 (vI x0_0),ld b2 1 (vI x0_1),ld b2 2 (.slice Z1 m3.length cz1)] ⟨hS38.c 0,hS38.c 0,hS38.c 0,trivial⟩ ⟨Z1,cz1,ft7,wf7,rfl,hLd1,hRd1,hS40⟩)
 rw [hq2] at h
 simp only [] at h
 refine we_iter (A:=ps_twinExpr.A0 w0 Z x0_0 x0_1 l0_2 A0_2 c0_2 wf1 b1 b2) (B:=ps_twinExpr.B0 w0 Z x0_0 x0_1 l0_2 A0_2 c0_2 wf1 b1 b2) hq2 (fun a hF=>⟨ft1,wf1,(.slice none 0 0),([]:List HExpr),(Sub.refl _),(DRows.nil _),hS8,hF.weaken ea⟩) (fun s o hf a w hA Q hQ=>ps_twinExpr_r0 K w0 Z x0_0 x0_1 l0_2 A0_2 c0_2 hZ hR0_2 hL0_2 rec_ps_twinExpr hr_ps_twinExpr ft1 wf1 b1 b2 s o hf a w hA Q hQ) ?_
 rintro _ a w1 _ ⟨rfl,hb⟩
 obtain rfl:=si h
 exact hb
def ps_twinExpr.recs (K : Nat) : Nat → (Int → Int → (List SExpr) → Option SExpr)
 | 0=>fun _ _ _=>none
 | n+1=>ps_twinExpr.b K (ps_twinExpr.recs K n)
theorem ps_twinExpr_all (K n:Nat):ps_twinExpr.Rec (ps_twinExpr.recs K n):=by
 induction n with
 | zero=>exact (by unfold ps_twinExpr.Rec; intros; rename_i h; cases (show none=some _ from h))
 | succ n ih=>exact ps_twinExpr_step K _ ih
def ps_twinExpr.f (K : Nat) (x0_0 : Int) (x0_1 : Int) (l0_2 : List SExpr) : Option SExpr := (ps_twinExpr.recs K K) x0_0 x0_1 l0_2
theorem ps_twinExpr_ok (K:Nat) (Z:Zone) (x0_0 x0_1:Int) (l0_2:List SExpr) (A0_2:OA) (c0_2:Nat) (w0:World) (hZ:∀ w,Sub w0 w→Z w) (hR0_2:RdZ Z A0_2 l0_2) (hL0_2:l0_2.length≤c0_2) (r:SExpr) (h:ps_twinExpr.f K x0_0 x0_1 l0_2=some r):Calls Try.prog 31 #[.agg #[vI x0_0,vI x0_1,.slice A0_2 l0_2.length c0_2]] w0 (ps_twinExpr.Post w0 Z r):=(ps_twinExpr_all K K) Z x0_0 x0_1 l0_2 A0_2 c0_2 w0 hZ hR0_2 hL0_2 r h

/-! punctual/punctualsame.Twin -/
abbrev ps_Twin.Post (w0:World) (Z:Zone) (r:List SStmt) (e:Ending) (w:World):Prop:=∃ (v1:Value) (hds1:List HStmt) (ft:List Nat) (wf:World),e=.returned (v1)∧DRows (Zand Z wf) hds1 r∧St w0 w [Own.of v1 70 hds1,Own.frz ft wf]
abbrev ps_Twin.Rec (rec_ps_Twin:(List SStmt)→Option (List SStmt)):Prop:=∀ (Z:Zone) (l0:List SStmt) (A0:OA) (c0:Nat) (w0:World) (hZ:∀ w,Sub w0 w→Z w) (hR0:RdZ Z A0 l0) (hL0:l0.length≤c0) (r:List SStmt) (h:rec_ps_Twin l0=some r),Calls Try.prog 9 #[.slice A0 l0.length c0] w0 (ps_Twin.Post w0 Z r)
def ps_Twin.p1 (K : Nat) (e1 : SStmt) : Option ((Int × Int × (List SExpr) × Int × Int × (List SExpr) × Int × Int × (List SExpr)) ⊕ (List SStmt)) :=
  match ps_twinExpr.f K e1.E.Kind e1.E.N e1.E.A with
  | none=>none
  | some r1 =>
   match ps_twinExpr.f K e1.If.A.Kind e1.If.A.N e1.If.A.A with
   | none=>none
   | some r2 =>
    match ps_twinExpr.f K e1.If.B.Kind e1.If.B.N e1.If.B.A with
    | none=>none
    | some r3 =>
     some (.inl (r1.Kind,r1.N,r1.A,r2.Kind,r2.N,r2.A,r3.Kind,r3.N,r3.A))
def ps_Twin.r0 (K : Nat) (l0 : List SStmt) (rec_ps_Twin : (List SStmt) → Option (List SStmt)) : (List SStmt) × Nat → Option (((List SStmt) × Nat) ⊕ ((List SStmt) ⊕ (List SStmt)))
 | (m1,i1) =>
  if (i1:Int)<(l0.length:Int) then
   match l0[i1]? with
   | none=>none
   | some e1 =>
    match ps_Twin.p1 K e1 with
    | none=>none
    | some (.inl (z7,z8,m6,z9,z10,m7,z11,z12,m8)) =>
     match rec_ps_Twin e1.Body with
     | none=>none
     | some r4 =>
      match rec_ps_Twin e1.Else with
      | none=>none
      | some r5 =>
       if m1.length<733007751850 then
        some (.inl ((m1++[(⟨e1.Kind,e1.N,(⟨z7,z8,m6⟩:SExpr),(⟨e1.If.Kind,(⟨z9,z10,m7⟩:SExpr),(⟨z11,z12,m8⟩:SExpr)⟩:SCond),r4,r5⟩:SStmt)]),(i1+1)))
       else
        none
    | some (.inr rr1) =>
     some (.inr (.inr rr1))
  else
   some (.inr (.inl m1))
def ps_Twin.b (K : Nat) (rec_ps_Twin : (List SStmt) → Option (List SStmt)) (l0 : List SStmt) : Option (List SStmt) :=
 match iter (ps_Twin.r0 K l0 rec_ps_Twin) K (([]:List SStmt),0) with
 | none=>none
 | some (.inl m9) =>
  some m9
 | some (.inr rr2) =>
  some rr2
abbrev ps_Twin.A1 (w0:World) (Z:Zone) (l0:List SStmt) (A0:OA) (c0:Nat) (wf2:World) (v1:Value) (hds1:List HStmt) (i1:Nat) (e1:SStmt) (An4:OA) (cn4:Nat) (An5:OA) (cn5 b1:Nat):(Int×Int×(List SExpr)×Int×Int×(List SExpr)×Int×Int×(List SExpr))→Act→World→Prop:=fun (s:Int×Int×(List SExpr)×Int×Int×(List SExpr)×Int×Int×(List SExpr)) a w=>∃ (ft4:List Nat) (wf4:World) (Z1:OA) (cz1:Nat) (Z2:OA) (cz2:Nat) (Z3:OA) (cz3:Nat),Sub wf2 wf4∧RdZ (Zand Z wf4) Z1 s.2.2.1∧s.2.2.1.length≤cz1∧RdZ (Zand Z wf4) Z2 s.2.2.2.2.2.1∧s.2.2.2.2.2.1.length≤cz2∧RdZ (Zand Z wf4) Z3 s.2.2.2.2.2.2.2.2∧s.2.2.2.2.2.2.2.2.length≤cz3∧St w0 w [bk b1 #[vI e1.Kind,vI e1.N,vI s.1,vI s.2.1,.slice Z1 s.2.2.1.length cz1,vI e1.If.Kind,vI s.2.2.2.1,vI s.2.2.2.2.1,.slice Z2 s.2.2.2.2.2.1.length cz2,vI s.2.2.2.2.2.2.1,vI s.2.2.2.2.2.2.2.1,.slice Z3 s.2.2.2.2.2.2.2.2.length cz3,.slice An4 e1.Body.length cn4,.slice An5 e1.Else.length cn5] 70,Own.of v1 70 hds1,Own.frz ft4 wf4]∧Frm 42 a [(3,v1),(5,pP b1 0),(6,.slice A0 l0.length c0),(7,vI (l0.length:Int)),(8,vI (i1:Int))]
abbrev ps_Twin.B1 (w0:World) (Z:Zone):(List SStmt)→Exit→Act→World→Prop:=Rets Try.prog Try.f9 (ps_Twin.Post w0 Z)
theorem ps_Twin_p1 (K:Nat) (w0:World) (Z:Zone) (l0:List SStmt) (A0:OA) (c0:Nat) (hZ:∀ w,Sub w0 w→Z w) (hR0:RdZ Z A0 l0) (hL0:l0.length≤c0) (rec_ps_Twin:(List SStmt)→Option (List SStmt)) (hr_ps_Twin:ps_Twin.Rec rec_ps_Twin) (ft1:List Nat) (wf1:World) (ft2:List Nat) (wf2:World) (m1:List SStmt) (v1:Value) (hds1:List HStmt) (i1:Nat) (hsb1:Sub wf1 wf2) (hd1:DRows (Zand Z wf2) hds1 m1) (hc1:(i1:Int)<(l0.length:Int)) (e1:SStmt) (hx1:l0[i1]?=some e1) (An1:OA) (cn1:Nat) (An2:OA) (cn2:Nat) (An3:OA) (cn3:Nat) (An4:OA) (cn4:Nat) (An5:OA) (cn5:Nat) (hCs1:CellsAt Z A0 (i1*14) [vI e1.Kind,vI e1.N,vI e1.E.Kind,vI e1.E.N,.slice An1 e1.E.A.length cn1,vI e1.If.Kind,vI e1.If.A.Kind,vI e1.If.A.N,.slice An2 e1.If.A.A.length cn2,vI e1.If.B.Kind,vI e1.If.B.N,.slice An3 e1.If.B.A.length cn3,.slice An4 e1.Body.length cn4,.slice An5 e1.Else.length cn5]) (hLn1:e1.E.A.length≤cn1) (hRn1:RdZ Z An1 e1.E.A) (hLn2:e1.If.A.A.length≤cn2) (hRn2:RdZ Z An2 e1.If.A.A) (hLn3:e1.If.B.A.length≤cn3) (hRn3:RdZ Z An3 e1.If.B.A) (hLn4:e1.Body.length≤cn4) (hRn4:RdZ Z An4 e1.Body) (hLn5:e1.Else.length≤cn5) (hRn5:RdZ Z An5 e1.Else) (b1:Nat) (o:(Int×Int×(List SExpr)×Int×Int×(List SExpr)×Int×Int×(List SExpr)) ⊕ (List SStmt)) (h:ps_Twin.p1 K e1=some o) (w:World) (hS:St w0 w [bk b1 #[vI e1.Kind,vI e1.N,vI e1.E.Kind,vI e1.E.N,.slice An1 e1.E.A.length cn1,vI e1.If.Kind,vI e1.If.A.Kind,vI e1.If.A.N,.slice An2 e1.If.A.A.length cn2,vI e1.If.B.Kind,vI e1.If.B.N,.slice An3 e1.If.B.A.length cn3,.slice An4 e1.Body.length cn4,.slice An5 e1.Else.length cn5] 70,Own.of v1 70 hds1,Own.frz ft2 wf2]) (Q:Exit→Act→World→Prop) (hQ:∀ x a w,Outs (ps_Twin.A1 w0 Z l0 A0 c0 wf2 v1 hds1 i1 e1 An4 cn4 An5 cn5 b1) (ps_Twin.B1 w0 Z) o x a w→Q x a w):WE Try.prog 42 (subF Try.f9 [1,1,0,1,0,0,1,1,0,0,1,0]) Q [(3,v1),(5,pP b1 0),(6,.slice A0 l0.length c0),(7,vI (l0.length:Int)),(8,vI (i1:Int)),(9,.bool true),(10,.pointer (some ⟨blkOf A0,offOf A0+i1*14,none⟩)),(11,.agg #[vI e1.Kind,vI e1.N,vI e1.E.Kind,vI e1.E.N,.slice An1 e1.E.A.length cn1,vI e1.If.Kind,vI e1.If.A.Kind,vI e1.If.A.N,.slice An2 e1.If.A.A.length cn2,vI e1.If.B.Kind,vI e1.If.B.N,.slice An3 e1.If.B.A.length cn3,.slice An4 e1.Body.length cn4,.slice An5 e1.Else.length cn5])] w:=by
 simp only [ps_Twin.p1] at h
 refine we_orders3 (by kernel_rfl) [(1,[⟨b1,2,none⟩,⟨b1,3,none⟩,⟨b1,4,none⟩],[2,6,10],[]),(5,[⟨b1,6,none⟩,⟨b1,7,none⟩,⟨b1,8,none⟩],[6,10],[]),(9,[⟨b1,9,none⟩,⟨b1,10,none⟩,⟨b1,11,none⟩],[],[])] (.vals [0] (.vals [1] (.vals [3] (.vals [4] (.vals [5] (.vals [7] (.vals [8] (.vals [9] (.alt 2 1 (.vals [11] (.alt 6 1 (.alt 10 1 (.alt 12 2 (.vals [13] (.vals [14] (.alt 15 2 (.vals [16] (.vals [17] (.alt 18 2 .fin .nomore))) .nomore))) .nomore) .nomore) .nomore)) .nomore))))))))) (by kernel_rfl) (by kernel_rfl) ?_
 have hS8:=hS.drew
 refine g30 [0] [(12,pP b1 2)]<|g3 1 [(13,.agg #[vI e1.E.Kind,vI e1.E.N,.slice An1 e1.E.A.length cn1])] [ld b1 2 (vI e1.E.Kind),ld b1 3 (vI e1.E.N),ld b1 4 (.slice An1 e1.E.A.length cn1)] ⟨hS8.c 0,hS8.c 0,hS8.c 0,trivial⟩<|g30 [3,4] [(16,pP b1 6),(15,pP b1 5)]<|g3 5 [(17,.agg #[vI e1.If.A.Kind,vI e1.If.A.N,.slice An2 e1.If.A.A.length cn2])] [ld b1 6 (vI e1.If.A.Kind),ld b1 7 (vI e1.If.A.N),ld b1 8 (.slice An2 e1.If.A.A.length cn2)] ⟨hS8.c 0,hS8.c 0,hS8.c 0,trivial⟩<|g30 [7,8] [(20,pP b1 9),(19,pP b1 5)]<|g3 9 [(21,.agg #[vI e1.If.B.Kind,vI e1.If.B.N,.slice An3 e1.If.B.A.length cn3])] [ld b1 9 (vI e1.If.B.Kind),ld b1 10 (vI e1.If.B.N),ld b1 11 (.slice An3 e1.If.B.A.length cn3)] ⟨hS8.c 0,hS8.c 0,hS8.c 0,trivial⟩<|go_alt3 (fun KK hKK=>?_) ?_
 ·refine ge_one2 ?_
  rcases hq1:ps_twinExpr.f K e1.E.Kind e1.E.N e1.E.A with _ | r1
  ·rw [hq1] at h; cases h
  rw [hq1] at h
  simp only [] at h
  refine ge_call (d:=some 14) (f:=31) (args:=#[.agg #[vI e1.E.Kind,vI e1.E.N,.slice An1 e1.E.A.length cn1]]) (by kernel_rfl) (ps_twinExpr_ok K (Zand Z wf2) e1.E.Kind e1.E.N e1.E.A An1 cn1 _ (fun w' k=>⟨(hZ w' (hS8.subw.trans k)),(hS8.frzSub 2 rfl).trans k⟩) (hRn1.up (ZLe.in _ _)) hLn1 _ hq1) ?_
  rintro _ w3 ⟨A1,c1,ft5,wf5,rfl,hL1,hR1,hS9⟩
  refine ⟨_,rfl,hS9.below,?_⟩
  have hS12:=((hS8.call hS9).b 3).b 1
  obtain ⟨ft6,wf6,hsb4,hsb5,hS13⟩:=hS12.frzMerge
  replace hR1:RdZ (Zand Z wf6) A1 r1.A:=hR1.up (ZLe.both hsb5 hsb4)
  refine ge_nil fun a hF=>hKK _ _ (RS.of2 (l:=[ld b1 6 (vI e1.If.A.Kind),ld b1 7 (vI e1.If.A.N),ld b1 8 (.slice An2 e1.If.A.A.length cn2),ld b1 9 (vI e1.If.B.Kind),ld b1 10 (vI e1.If.B.N),ld b1 11 (.slice An3 e1.If.B.A.length cn3)]) (by kernel_rfl) ⟨hS8.c 0,hS8.c 0,hS8.c 0,hS8.c 0,hS8.c 0,hS8.c 0,trivial⟩ ⟨hS13.c 1,hS13.c 1,hS13.c 1,hS13.c 1,hS13.c 1,hS13.c 1,trivial⟩) ?_ a hF
  refine g30 [11] [(23,pP b1 2)]<|go_alt3 (fun KK hKK=>?_) ?_
  ·refine ge_one2 ?_
   rcases hq2:ps_twinExpr.f K e1.If.A.Kind e1.If.A.N e1.If.A.A with _ | r2
   ·rw [hq2] at h; cases h
   rw [hq2] at h
   simp only [] at h
   refine ge_call (d:=some 18) (f:=31) (args:=#[.agg #[vI e1.If.A.Kind,vI e1.If.A.N,.slice An2 e1.If.A.A.length cn2]]) (by kernel_rfl) (ps_twinExpr_ok K (Zand Z wf6) e1.If.A.Kind e1.If.A.N e1.If.A.A An2 cn2 _ (fun w' k=>⟨(hZ w' (hS13.subw.trans k)),(hS13.frzSub 0 rfl).trans k⟩) (hRn2.up (ZLe.in _ _)) hLn2 _ hq2) ?_
   rintro _ w4 ⟨A2,c2,ft7,wf7,rfl,hL2,hR2,hS14⟩
   refine ⟨_,rfl,hS14.below,?_⟩
   have hS17:=((hS13.call hS14).b 1).b 1
   obtain ⟨ft8,wf8,hsb6,hsb7,hS18⟩:=hS17.frzMerge
   replace hR2:RdZ (Zand Z wf8) A2 r2.A:=hR2.up (ZLe.both hsb7 hsb6)
   refine ge_nil fun a hF=>hKK _ _ (RS.of2 (l:=[ld b1 9 (vI e1.If.B.Kind),ld b1 10 (vI e1.If.B.N),ld b1 11 (.slice An3 e1.If.B.A.length cn3)]) (by kernel_rfl) ⟨hS13.c 1,hS13.c 1,hS13.c 1,trivial⟩ ⟨hS18.c 1,hS18.c 1,hS18.c 1,trivial⟩) ?_ a hF
   refine go_alt3 (fun KK hKK=>?_) ?_
   ·refine ge_one2 ?_
    rcases hq3:ps_twinExpr.f K e1.If.B.Kind e1.If.B.N e1.If.B.A with _ | r3
    ·rw [hq3] at h; cases h
    rw [hq3] at h
    simp only [] at h
    refine ge_call (d:=some 22) (f:=31) (args:=#[.agg #[vI e1.If.B.Kind,vI e1.If.B.N,.slice An3 e1.If.B.A.length cn3]]) (by kernel_rfl) (ps_twinExpr_ok K (Zand Z wf8) e1.If.B.Kind e1.If.B.N e1.If.B.A An3 cn3 _ (fun w' k=>⟨(hZ w' (hS18.subw.trans k)),(hS18.frzSub 0 rfl).trans k⟩) (hRn3.up (ZLe.in _ _)) hLn3 _ hq3) ?_
    rintro _ w5 ⟨A3,c3,ft9,wf9,rfl,hL3,hR3,hS19⟩
    refine ⟨_,rfl,hS19.below,?_⟩
    have hS22:=((hS18.call hS19).b 1).b 1
    obtain ⟨ft10,wf10,hsb8,hsb9,hS23⟩:=hS22.frzMerge
    replace hR3:RdZ (Zand Z wf10) A3 r3.A:=hR3.up (ZLe.both hsb9 hsb8)
    refine g2 hKK<|go_alt3 (fun KK hKK=>?_) ?_
    ·have hS24:=hS23.b 1
     refine gs b1 2 #[vI e1.Kind,vI e1.N,vI e1.E.Kind,vI e1.E.N,.slice An1 e1.E.A.length cn1,vI e1.If.Kind,vI e1.If.A.Kind,vI e1.If.A.N,.slice An2 e1.If.A.A.length cn2,vI e1.If.B.Kind,vI e1.If.B.N,.slice An3 e1.If.B.A.length cn3,.slice An4 e1.Body.length cn4,.slice An5 e1.Else.length cn5] 70 [vI r1.Kind,vI r1.N,.slice A1 r1.A.length c1] hS24 fun w6 hS25=>?_
     have hS26:=hS25.nc #[vI e1.Kind,vI e1.N,vI r1.Kind,vI r1.N,.slice A1 r1.A.length c1,vI e1.If.Kind,vI e1.If.A.Kind,vI e1.If.A.N,.slice An2 e1.If.A.A.length cn2,vI e1.If.B.Kind,vI e1.If.B.N,.slice An3 e1.If.B.A.length cn3,.slice An4 e1.Body.length cn4,.slice An5 e1.Else.length cn5] (by kernel_rfl)
     refine g2 hKK<|g30 [13,14] [(25,pP b1 6),(24,pP b1 5)]<|go_alt3 (fun KK hKK=>?_) ?_
     ·refine gs b1 6 #[vI e1.Kind,vI e1.N,vI r1.Kind,vI r1.N,.slice A1 r1.A.length c1,vI e1.If.Kind,vI e1.If.A.Kind,vI e1.If.A.N,.slice An2 e1.If.A.A.length cn2,vI e1.If.B.Kind,vI e1.If.B.N,.slice An3 e1.If.B.A.length cn3,.slice An4 e1.Body.length cn4,.slice An5 e1.Else.length cn5] 70 [vI r2.Kind,vI r2.N,.slice A2 r2.A.length c2] hS26 fun w7 hS27=>?_
      have hS28:=hS27.nc #[vI e1.Kind,vI e1.N,vI r1.Kind,vI r1.N,.slice A1 r1.A.length c1,vI e1.If.Kind,vI r2.Kind,vI r2.N,.slice A2 r2.A.length c2,vI e1.If.B.Kind,vI e1.If.B.N,.slice An3 e1.If.B.A.length cn3,.slice An4 e1.Body.length cn4,.slice An5 e1.Else.length cn5] (by kernel_rfl)
      refine g2 hKK<|g30 [16,17] [(27,pP b1 9),(26,pP b1 5)]<|go_alt3 (fun KK hKK=>?_) ?_
      ·refine gs b1 9 #[vI e1.Kind,vI e1.N,vI r1.Kind,vI r1.N,.slice A1 r1.A.length c1,vI e1.If.Kind,vI r2.Kind,vI r2.N,.slice A2 r2.A.length c2,vI e1.If.B.Kind,vI e1.If.B.N,.slice An3 e1.If.B.A.length cn3,.slice An4 e1.Body.length cn4,.slice An5 e1.Else.length cn5] 70 [vI r3.Kind,vI r3.N,.slice A3 r3.A.length c3] hS28 fun w8 hS29=>?_
       have hS30:=hS29.nc #[vI e1.Kind,vI e1.N,vI r1.Kind,vI r1.N,.slice A1 r1.A.length c1,vI e1.If.Kind,vI r2.Kind,vI r2.N,.slice A2 r2.A.length c2,vI r3.Kind,vI r3.N,.slice A3 r3.A.length c3,.slice An4 e1.Body.length cn4,.slice An5 e1.Else.length cn5] (by kernel_rfl)
       refine g2 hKK ?_
       have hS33:=((hS30.b 1).b 2).b 2
       obtain rfl:=si h
       exact go_fin3 fun a hF=>hQ _ _ _ (Outs.again ⟨ft10,wf10,A1,c1,A2,c2,A3,c3,((hsb5.trans hsb7).trans hsb9),(hR1.up (ZLe.up (hsb7.trans hsb9))),hL1,(hR2.up (ZLe.up hsb9)),hL2,hR3,hL3,hS33,hF.weaken ea⟩)
      exact go_nomore3
     exact go_nomore3
    exact go_nomore3
   exact go_nomore3
  exact go_nomore3
 exact go_nomore3
abbrev ps_Twin.A0 (w0:World) (Z:Zone) (l0:List SStmt) (A0:OA) (c0:Nat) (wf1:World):((List SStmt)×Nat)→Act→World→Prop:=fun (s:(List SStmt)×Nat) a w=>∃ (ft2:List Nat) (wf2:World) (v1:Value) (hds1:List HStmt),Sub wf1 wf2∧DRows (Zand Z wf2) hds1 s.1∧St w0 w [Own.of v1 70 hds1,Own.frz ft2 wf2]∧Frm 42 a [(3,v1),(6,.slice A0 l0.length c0),(7,vI (l0.length:Int)),(8,vI (s.2:Int))]
abbrev ps_Twin.B0 (w0:World) (Z:Zone) (wf1:World):((List SStmt) ⊕ (List SStmt))→Exit→Act→World→Prop:=Exits 0 (fun (s:(List SStmt)) a w=>∃ (ft3:List Nat) (wf3:World) (v2:Value) (hds2:List HStmt),Sub wf1 wf3∧DRows (Zand Z wf3) hds2 s∧St w0 w [Own.of v2 70 hds2,Own.frz ft3 wf3]∧Frm 42 a [(3,v2)]) (Rets Try.prog Try.f9 (ps_Twin.Post w0 Z))
theorem ps_Twin_r0 (K:Nat) (w0:World) (Z:Zone) (l0:List SStmt) (A0:OA) (c0:Nat) (hZ:∀ w,Sub w0 w→Z w) (hR0:RdZ Z A0 l0) (hL0:l0.length≤c0) (rec_ps_Twin:(List SStmt)→Option (List SStmt)) (hr_ps_Twin:ps_Twin.Rec rec_ps_Twin) (ft1:List Nat) (wf1:World) (s:(List SStmt)×Nat) (o:((List SStmt)×Nat) ⊕ ((List SStmt) ⊕ (List SStmt))) (h:ps_Twin.r0 K l0 rec_ps_Twin s=some o) (a:Act) (w:World) (hA:ps_Twin.A0 w0 Z l0 A0 c0 wf1 s a w) (Q:Exit→Act→World→Prop) (hQ:∀ x a w,Outs (ps_Twin.A0 w0 Z l0 A0 c0 wf1) (ps_Twin.B0 w0 Z wf1) o x a w→Q x a w):(subF Try.f9 [1,1,0,1,0,0]).wp Try.prog Q a w:=by
 obtain ⟨m1,i1⟩:=s
 obtain ⟨ft2,wf2,v1,hds1,hsb1,hd1,hS,hF⟩:=hA
 replace hS:St w0 w [Own.of v1 70 hds1,Own.frz ft2 wf2]:=hS
 simp only [ps_Twin.r0] at h
 refine (?_:WE Try.prog 42 (subF Try.f9 [1,1,0,1,0,0]) Q [(3,v1),(6,.slice A0 l0.length c0),(7,vI (l0.length:Int)),(8,vI (i1:Int))] w) a hF
 clear hF a
 refine ws fun K5 hK5=>wr [(0,0)]<|gb0 [0] [(9,.bool (decide ((i1:Int)<(l0.length:Int))))]<|gn hK5<|ws fun K6 hK6=>?_
 by_cases hc1:(i1:Int)<(l0.length:Int)
 ·rw [if_pos hc1] at h
  refine wk 9 (decide ((i1:Int)<(l0.length:Int))) true (decide_eq_true hc1)<|wt<|we_skip fun a hF=>hK6 _ _ ?_ a hF
  refine ws fun K7 hK7=>we_block<|ws fun K8 hK8=>wr [(0,0),(1,0),(2,1),(3,2)] ?_
  rcases hx1:l0[i1]? with _ | e1
  ·rw [hx1] at h; cases h
  rw [hx1] at h
  simp only [] at h
  obtain ⟨An1,cn1,An2,cn2,An3,cn3,An4,cn4,An5,cn5,hCs1,hLn1,hRn1,hLn2,hRn2,hLn3,hRn3,hLn4,hRn4,hLn5,hRn5⟩:=SStmt.getZ hR0 hx1
  refine gi 10 0 22 70 14 l0.length c0 (.tmp 6) (.tmp 8) A0 .i64 (i1:Int) i1 (hR0.eqSome (hZ _ hS.subw) (pos_of_get hx1)) rfl (lt_of_get hx1) ?_
  refine gb [1] [(11,.agg #[vI e1.Kind,vI e1.N,vI e1.E.Kind,vI e1.E.N,.slice An1 e1.E.A.length cn1,vI e1.If.Kind,vI e1.If.A.Kind,vI e1.If.A.N,.slice An2 e1.If.A.A.length cn2,vI e1.If.B.Kind,vI e1.If.B.N,.slice An3 e1.If.B.A.length cn3,.slice An4 e1.Body.length cn4,.slice An5 e1.Else.length cn5])] [.loaded ⟨blkOf A0,offOf A0+i1*14,none⟩ (vI e1.Kind),.loaded ⟨blkOf A0,offOf A0+i1*14+1,none⟩ (vI e1.N),.loaded ⟨blkOf A0,offOf A0+i1*14+2,none⟩ (vI e1.E.Kind),.loaded ⟨blkOf A0,offOf A0+i1*14+3,none⟩ (vI e1.E.N),.loaded ⟨blkOf A0,offOf A0+i1*14+4,none⟩ (.slice An1 e1.E.A.length cn1),.loaded ⟨blkOf A0,offOf A0+i1*14+5,none⟩ (vI e1.If.Kind),.loaded ⟨blkOf A0,offOf A0+i1*14+6,none⟩ (vI e1.If.A.Kind),.loaded ⟨blkOf A0,offOf A0+i1*14+7,none⟩ (vI e1.If.A.N),.loaded ⟨blkOf A0,offOf A0+i1*14+8,none⟩ (.slice An2 e1.If.A.A.length cn2),.loaded ⟨blkOf A0,offOf A0+i1*14+9,none⟩ (vI e1.If.B.Kind),.loaded ⟨blkOf A0,offOf A0+i1*14+10,none⟩ (vI e1.If.B.N),.loaded ⟨blkOf A0,offOf A0+i1*14+11,none⟩ (.slice An3 e1.If.B.A.length cn3),.loaded ⟨blkOf A0,offOf A0+i1*14+12,none⟩ (.slice An4 e1.Body.length cn4),.loaded ⟨blkOf A0,offOf A0+i1*14+13,none⟩ (.slice An5 e1.Else.length cn5)] ⟨hCs1 _ (hZ _ hS.subw) 0 _ rfl,hCs1 _ (hZ _ hS.subw) 1 _ rfl,hCs1 _ (hZ _ hS.subw) 2 _ rfl,hCs1 _ (hZ _ hS.subw) 3 _ rfl,hCs1 _ (hZ _ hS.subw) 4 _ rfl,hCs1 _ (hZ _ hS.subw) 5 _ rfl,hCs1 _ (hZ _ hS.subw) 6 _ rfl,hCs1 _ (hZ _ hS.subw) 7 _ rfl,hCs1 _ (hZ _ hS.subw) 8 _ rfl,hCs1 _ (hZ _ hS.subw) 9 _ rfl,hCs1 _ (hZ _ hS.subw) 10 _ rfl,hCs1 _ (hZ _ hS.subw) 11 _ rfl,hCs1 _ (hZ _ hS.subw) 12 _ rfl,hCs1 _ (hZ _ hS.subw) 13 _ rfl,trivial⟩<|gw (some 5) (.cells #[vI 0,vI 0,vI 0,vI 0,.slice none 0 0,vI 0,vI 0,vI 0,.slice none 0 0,vI 0,vI 0,.slice none 0 0,.slice none 0 0,.slice none 0 0] 70) (fun b=>pP b 0) hS fun b1 w1 hx2 hS5=>?_
  refine gs b1 0 #[vI 0,vI 0,vI 0,vI 0,.slice none 0 0,vI 0,vI 0,vI 0,.slice none 0 0,vI 0,vI 0,.slice none 0 0,.slice none 0 0,.slice none 0 0] 70 [vI e1.Kind,vI e1.N,vI e1.E.Kind,vI e1.E.N,.slice An1 e1.E.A.length cn1,vI e1.If.Kind,vI e1.If.A.Kind,vI e1.If.A.N,.slice An2 e1.If.A.A.length cn2,vI e1.If.B.Kind,vI e1.If.B.N,.slice An3 e1.If.B.A.length cn3,.slice An4 e1.Body.length cn4,.slice An5 e1.Else.length cn5] hS5 fun w2 hS6=>?_
  have hS7:=hS6.nc #[vI e1.Kind,vI e1.N,vI e1.E.Kind,vI e1.E.N,.slice An1 e1.E.A.length cn1,vI e1.If.Kind,vI e1.If.A.Kind,vI e1.If.A.N,.slice An2 e1.If.A.A.length cn2,vI e1.If.B.Kind,vI e1.If.B.N,.slice An3 e1.If.B.A.length cn3,.slice An4 e1.Body.length cn4,.slice An5 e1.Else.length cn5] (by kernel_rfl)
  refine gn hK8<|ws fun K9 hK9=>?_
  rcases hq4:ps_Twin.p1 K e1 with _ | (⟨z7,z8,m6,z9,z10,m7,z11,z12,m8⟩ | rr1)
  ·rw [hq4] at h; cases h
  ·rw [hq4] at h
   simp only [] at h
   refine kp (ps_Twin_p1 K w0 Z l0 A0 c0 hZ hR0 hL0 rec_ps_Twin hr_ps_Twin ft1 wf1 ft2 wf2 m1 v1 hds1 i1 hsb1 hd1 hc1 e1 hx1 An1 cn1 An2 cn2 An3 cn3 An4 cn4 An5 cn5 hCs1 hLn1 hRn1 hLn2 hRn2 hLn3 hRn3 hLn4 hRn4 hLn5 hRn5 b1 _ hq4 _ hS7 _ ?_)
   rintro _ a w9 ⟨rfl,ft11,wf11,Z4,cz4,Z5,cz5,Z6,cz6,hRz4,hRz5,hRz6,hRz7,hRz8,hRz9,hRz10,hS34,hF⟩
   replace hS34:St w0 w9 [bk b1 #[vI e1.Kind,vI e1.N,vI z7,vI z8,.slice Z4 m6.length cz4,vI e1.If.Kind,vI z9,vI z10,.slice Z5 m7.length cz5,vI z11,vI z12,.slice Z6 m8.length cz6,.slice An4 e1.Body.length cn4,.slice An5 e1.Else.length cn5] 70,Own.of v1 70 hds1,Own.frz ft11 wf11]:=hS34
   refine hK9 [(3,v1),(5,pP b1 0),(6,.slice A0 l0.length c0),(7,vI (l0.length:Int)),(8,vI (i1:Int))] w9 ?_ a hF
   refine ws fun K10 hK10=>we_draws (by kernel_rfl) [(0,0),(1,0),(3,0),(4,0),(2,1),(6,0),(5,1),(7,2),(8,0),(9,2)] (by kernel_rfl) ?_
   have hS35:=hS34.drew
   rcases hq5:rec_ps_Twin e1.Body with _ | r4
   ·rw [hq5] at h; cases h
   rw [hq5] at h
   simp only [] at h
   refine gb [0,1,3,4] [(32,.slice An5 e1.Else.length cn5),(31,pP b1 13),(29,.slice An4 e1.Body.length cn4),(28,pP b1 12)] [ld b1 12 (.slice An4 e1.Body.length cn4),ld b1 13 (.slice An5 e1.Else.length cn5)] ⟨hS35.c 0,hS35.c 0,trivial⟩<|ge_call (d:=some 30) (f:=9) (args:=#[.slice An4 e1.Body.length cn4]) (by kernel_rfl) (hr_ps_Twin (Zand Z wf11) e1.Body An4 cn4 _ (fun w' k=>⟨(hZ w' (hS35.subw.trans k)),(hS35.frzSub 2 rfl).trans k⟩) (hRn4.up (ZLe.in _ _)) hLn4 _ hq5) ?_
   rintro _ w10 ⟨v3,hds3,ft12,wf12,rfl,hd3,hS36⟩
   refine ⟨_,rfl,hS36.below,?_⟩
   have hS39:=((hS35.call hS36).b 4).b 2
   obtain ⟨ft13,wf13,hsb10,hsb11,hS40⟩:=hS39.frzMerge
   replace hd3:DRows (Zand Z wf13) hds3 r4:=hd3.up (ZLe.both hsb11 hsb10)
   rcases hq6:rec_ps_Twin e1.Else with _ | r5
   ·rw [hq6] at h; cases h
   rw [hq6] at h
   simp only [] at h
   refine gb0 [6] [(34,pP b1 12)]<|ge_call (d:=some 33) (f:=9) (args:=#[.slice An5 e1.Else.length cn5]) (by kernel_rfl) (hr_ps_Twin (Zand Z wf13) e1.Else An5 cn5 _ (fun w' k=>⟨(hZ w' (hS40.subw.trans k)),(hS40.frzSub 0 rfl).trans k⟩) (hRn5.up (ZLe.in _ _)) hLn5 _ hq6) ?_
   rintro _ w11 ⟨v4,hds4,ft14,wf14,rfl,hd4,hS41⟩
   refine ⟨_,rfl,hS41.below,?_⟩
   have hS44:=((hS40.call hS41).b 2).b 2
   obtain ⟨ft15,wf15,hsb12,hsb13,hS45⟩:=hS44.frzMerge
   replace hd4:DRows (Zand Z wf15) hds4 r5:=hd4.up (ZLe.both hsb13 hsb12)
   obtain ⟨Z7,cz7,rfl⟩:=hS45.dopen 2 rfl hd3
   have hS46:=hS45.b 2
   obtain ⟨ft16,wf16,hsb14,-,hRd1,hLd1,hS47⟩:=hS46.dfrz (Z:=Z) (hd3.up (ZLe.up hsb13))
   have hS48:=hS47.b 2
   refine gs b1 12 #[vI e1.Kind,vI e1.N,vI z7,vI z8,.slice Z4 m6.length cz4,vI e1.If.Kind,vI z9,vI z10,.slice Z5 m7.length cz5,vI z11,vI z12,.slice Z6 m8.length cz6,.slice An4 e1.Body.length cn4,.slice An5 e1.Else.length cn5] 70 [.slice Z7 r4.length cz7] hS48 fun w12 hS49=>?_
   have hS50:=hS49.nc #[vI e1.Kind,vI e1.N,vI z7,vI z8,.slice Z4 m6.length cz4,vI e1.If.Kind,vI z9,vI z10,.slice Z5 m7.length cz5,vI z11,vI z12,.slice Z6 m8.length cz6,.slice Z7 r4.length cz7,.slice An5 e1.Else.length cn5] (by kernel_rfl)
   refine gb0 [8] [(35,pP b1 13)] ?_
   obtain ⟨Z8,cz8,rfl⟩:=hS50.dopen 2 rfl hd4
   have hS52:=(hS50.b 1).b 2
   obtain ⟨ft17,wf17,hsb15,-,hRd2,hLd2,hS53⟩:=hS52.dfrz (Z:=Z) (hd4.up (ZLe.up hsb14))
   have hS54:=hS53.b 1
   refine gs b1 13 #[vI e1.Kind,vI e1.N,vI z7,vI z8,.slice Z4 m6.length cz4,vI e1.If.Kind,vI z9,vI z10,.slice Z5 m7.length cz5,vI z11,vI z12,.slice Z6 m8.length cz6,.slice Z7 r4.length cz7,.slice An5 e1.Else.length cn5] 70 [.slice Z8 r5.length cz8] hS54 fun w13 hS55=>?_
   have hS56:=hS55.nc #[vI e1.Kind,vI e1.N,vI z7,vI z8,.slice Z4 m6.length cz4,vI e1.If.Kind,vI z9,vI z10,.slice Z5 m7.length cz5,vI z11,vI z12,.slice Z6 m8.length cz6,.slice Z7 r4.length cz7,.slice Z8 r5.length cz8] (by kernel_rfl)
   refine gn hK10<|wr [(0,0),(1,0),(2,1),(3,2),(4,0)]<|gb [0,1] [(37,.agg #[vI e1.Kind,vI e1.N,vI z7,vI z8,.slice Z4 m6.length cz4,vI e1.If.Kind,vI z9,vI z10,.slice Z5 m7.length cz5,vI z11,vI z12,.slice Z6 m8.length cz6,.slice Z7 r4.length cz7,.slice Z8 r5.length cz8]),(36,v1)] [ld b1 0 (vI e1.Kind),ld b1 1 (vI e1.N),ld b1 2 (vI z7),ld b1 3 (vI z8),ld b1 4 (.slice Z4 m6.length cz4),ld b1 5 (vI e1.If.Kind),ld b1 6 (vI z9),ld b1 7 (vI z10),ld b1 8 (.slice Z5 m7.length cz5),ld b1 9 (vI z11),ld b1 10 (vI z12),ld b1 11 (.slice Z6 m8.length cz6),ld b1 12 (.slice Z7 r4.length cz7),ld b1 13 (.slice Z8 r5.length cz8)] ⟨hS56.c 0,hS56.c 0,hS56.c 0,hS56.c 0,hS56.c 0,hS56.c 0,hS56.c 0,hS56.c 0,hS56.c 0,hS56.c 0,hS56.c 0,hS56.c 0,hS56.c 0,hS56.c 0,trivial⟩<|gw (some 38) (.cells #[vI e1.Kind,vI e1.N,vI z7,vI z8,.slice Z4 m6.length cz4,vI e1.If.Kind,vI z9,vI z10,.slice Z5 m7.length cz5,vI z11,vI z12,.slice Z6 m8.length cz6,.slice Z7 r4.length cz7,.slice Z8 r5.length cz8] 70) (fun b=>.slice (some ⟨b,0,none⟩) 1 1) hS56 fun b2 w14 hx3 hS57=>?_
   have hS58:=hS57.b 3
   by_cases hc2:m1.length<733007751850
   ·rw [if_pos hc2] at h
    have hd5:DRows (Zand Z wf17) (hds1++[(⟨e1.Kind,e1.N,z7,z8,⟨Z4,m6.length,cz4⟩,e1.If.Kind,z9,z10,⟨Z5,m7.length,cz5⟩,z11,z12,⟨Z6,m8.length,cz6⟩,⟨Z7,r4.length,cz7⟩,⟨Z8,r5.length,cz8⟩⟩:HStmt)]) (m1++[(⟨e1.Kind,e1.N,(⟨z7,z8,m6⟩:SExpr),(⟨e1.If.Kind,(⟨z9,z10,m7⟩:SExpr),(⟨z11,z12,m8⟩:SExpr)⟩:SCond),r4,r5⟩:SStmt)]):=DRows.add (hd1.up (ZLe.up ((((hRz4.trans hsb11).trans hsb13).trans hsb14).trans hsb15))) (SStmt.mkZ (⟨e1.Kind,e1.N,(⟨z7,z8,m6⟩:SExpr),(⟨e1.If.Kind,(⟨z9,z10,m7⟩:SExpr),(⟨z11,z12,m8⟩:SExpr)⟩:SCond),r4,r5⟩:SStmt) hRz6 (hRz5.up (ZLe.up (((hsb11.trans hsb13).trans hsb14).trans hsb15))) hRz8 (hRz7.up (ZLe.up (((hsb11.trans hsb13).trans hsb14).trans hsb15))) hRz10 (hRz9.up (ZLe.up (((hsb11.trans hsb13).trans hsb14).trans hsb15))) hLd1 (hRd1.up (ZLe.up hsb15)) hLd2 hRd2)
    refine ge_append (α:=HStmt) (m:=0) (d:=39) (t:=22) (el:=70) (bytes:=192) (c1:=1) (b1:=b2) (x:=(.tmp 36)) (y:=(.tmp 38)) (ty:=22) (v:=v1) (z:=.agg #[vI 0,vI 0,vI 0,vI 0,.slice none 0 0,vI 0,vI 0,vI 0,.slice none 0 0,vI 0,vI 0,.slice none 0 0,.slice none 0 0,.slice none 0 0]) (l:=hds1) (u:=(⟨e1.Kind,e1.N,z7,z8,⟨Z4,m6.length,cz4⟩,e1.If.Kind,z9,z10,⟨Z5,m7.length,cz5⟩,z11,z12,⟨Z6,m8.length,cz6⟩,⟨Z7,r4.length,cz7⟩,⟨Z8,r5.length,cz8⟩⟩:HStmt)) (by kernel_rfl) (by kernel_rfl) (by kernel_rfl) (by kernel_rfl) (by kernel_rfl) rfl hS58 rfl (by have h0:hds1.length=m1.length:=DRows.len (hd1.up (ZLe.up ((((hRz4.trans hsb11).trans hsb13).trans hsb14).trans hsb15))); omega) fun v5 w15 hS59=>?_
    refine gb0 [4] [(3,v5)]<|gn hK7<|wr [(0,0),(1,0)]<|ge_addn (d:=40) (ty:=3) (x:=(.tmp 8)) (y:=(.const (vI 1))) (t:=3) (t2:=3) (k:=.i64) (m:=i1) (by kernel_rfl) (by kernel_rfl) (by kernel_rfl) (by have h0:=RdZ.small hR0 (hZ _ hS59.subw); omega) ?_
    refine gb0 [1] [(8,vI ((i1+1:Nat):Int))] ?_
    have hS62:=hS59.p [0,2] rfl
    obtain rfl:=si h
    exact ge_nil fun a hF=>hQ _ _ _ (Outs.again ⟨ft17,wf17,v5,(hds1++[(⟨e1.Kind,e1.N,z7,z8,⟨Z4,m6.length,cz4⟩,e1.If.Kind,z9,z10,⟨Z5,m7.length,cz5⟩,z11,z12,⟨Z6,m8.length,cz6⟩,⟨Z7,r4.length,cz7⟩,⟨Z8,r5.length,cz8⟩⟩:HStmt)]),(((((hsb1.trans hRz4).trans hsb11).trans hsb13).trans hsb14).trans hsb15),hd5,hS62,hF.weaken ea⟩)
   rw [if_neg hc2] at h
   cases h
  rw [hq4] at h
  simp only [] at h
  refine kp (ps_Twin_p1 K w0 Z l0 A0 c0 hZ hR0 hL0 rec_ps_Twin hr_ps_Twin ft1 wf1 ft2 wf2 m1 v1 hds1 i1 hsb1 hd1 hc1 e1 hx1 An1 cn1 An2 cn2 An3 cn3 An4 cn4 An5 cn5 hCs1 hLn1 hRn1 hLn2 hRn2 hLn3 hRn3 hLn4 hRn4 hLn5 hRn5 b1 _ hq4 _ hS7 _ ?_)
  rintro _ a w1 ⟨_,rfl,hb⟩
  obtain rfl:=si h
  exact hQ _ _ _ (Outs.out nofun (Exits.on ⟨rfl,hb⟩))
 rw [if_neg hc1] at h
 refine wk 9 (decide ((i1:Int)<(l0.length:Int))) false (decide_eq_false hc1)<|wf ?_
 have hS64:=(hS.b 1).b 1
 obtain rfl:=si h
 exact we_exit fun a hF=>hQ _ _ _ (Outs.out nofun (Exits.here ⟨ft2,wf2,v1,hds1,hsb1,hd1,hS64,hF.weaken ea⟩))
theorem ps_Twin_step (K:Nat) (rec_ps_Twin:(List SStmt)→Option (List SStmt)) (hr_ps_Twin:ps_Twin.Rec rec_ps_Twin) (Z:Zone) (l0:List SStmt) (A0:OA) (c0:Nat) (w0:World) (hZ:∀ w,Sub w0 w→Z w) (hR0:RdZ Z A0 l0) (hL0:l0.length≤c0) (r:List SStmt) (h:ps_Twin.b K rec_ps_Twin l0=some r) :
  Calls Try.prog 9 #[.slice A0 l0.length c0] w0 (ps_Twin.Post w0 Z r):=by
 have hS:=St.start w0
 unfold ps_Twin.b at h
 refine calls_enter (n:=42) (args:=[.slice A0 l0.length c0]) (fn:=Try.f9) rfl rfl rfl rfl ?_
 show WE _ _ _ _ [(0,.slice A0 l0.length c0)] _
 obtain ⟨ft1,wf1,hS1⟩:=hS.frz0
 refine ws fun K1 hK1=>wr [(0,0)]<|gb0 [0] [(2,.slice none 0 0)]<|gn hK1<|ws fun K2 hK2=>wr [(0,0)]<|gb0 [0] [(3,.slice none 0 0)]<|gn hK2<|ws fun K3 hK3=>ws fun K4 hK4=>wr [(0,0),(1,0),(2,0)]<|gb0 [0,1,2] [(8,vI 0),(7,vI (l0.length:Int)),(6,.slice A0 l0.length c0)]<|gn hK4<|we_block ?_
 have hS4:=((hS1.nil (α:=HStmt) 70).b 1).b 1
 rcases hq7:iter (ps_Twin.r0 K l0 rec_ps_Twin) K (([]:List SStmt),0) with _ | (m9 | rr2)
 ·rw [hq7] at h; cases h
 ·rw [hq7] at h
  simp only [] at h
  refine we_iter (A:=ps_Twin.A0 w0 Z l0 A0 c0 wf1) (B:=ps_Twin.B0 w0 Z wf1) hq7 (fun a hF=>⟨ft1,wf1,(.slice none 0 0),([]:List HStmt),(Sub.refl _),(DRows.nil _),hS4,hF.weaken ea⟩) (fun s o hf a w hA Q hQ=>ps_Twin_r0 K w0 Z l0 A0 c0 hZ hR0 hL0 rec_ps_Twin hr_ps_Twin ft1 wf1 s o hf a w hA Q hQ) ?_
  rintro _ a w16 _ ⟨rfl,ft18,wf18,v6,hds5,hRz11,hRz12,hS65,hF⟩
  replace hS65:St w0 w16 [Own.of v6 70 hds5,Own.frz ft18 wf18]:=hS65
  refine hK3 [(3,v6)] w16 ?_ a hF
  refine ws fun K11 hK11=>wr [(0,0),(1,0)]<|gb0 [0,1] [(2,v6),(41,v6)]<|gn hK11 ?_
  have hS67:=(hS65.b 1).b 1
  obtain rfl:=si h
  exact we_ret (pr0 [.tmp 2] [v6] ⟨v6,hds5,ft18,wf18,rfl,hRz12,hS67⟩)
 rw [hq7] at h
 simp only [] at h
 refine we_iter (A:=ps_Twin.A0 w0 Z l0 A0 c0 wf1) (B:=ps_Twin.B0 w0 Z wf1) hq7 (fun a hF=>⟨ft1,wf1,(.slice none 0 0),([]:List HStmt),(Sub.refl _),(DRows.nil _),hS4,hF.weaken ea⟩) (fun s o hf a w hA Q hQ=>ps_Twin_r0 K w0 Z l0 A0 c0 hZ hR0 hL0 rec_ps_Twin hr_ps_Twin ft1 wf1 s o hf a w hA Q hQ) ?_
 rintro _ a w1 _ ⟨rfl,hb⟩
 obtain rfl:=si h
 exact hb
def ps_Twin.recs (K : Nat) : Nat → ((List SStmt) → Option (List SStmt))
 | 0=>fun _=>none
 | n+1=>ps_Twin.b K (ps_Twin.recs K n)
theorem ps_Twin_all (K n:Nat):ps_Twin.Rec (ps_Twin.recs K n):=by
 induction n with
 | zero=>exact (by unfold ps_Twin.Rec; intros; rename_i h; cases (show none=some _ from h))
 | succ n ih=>exact ps_Twin_step K _ ih
def ps_Twin.f (K : Nat) (l0 : List SStmt) : Option (List SStmt) := (ps_Twin.recs K K) l0
theorem ps_Twin_ok (K:Nat) (Z:Zone) (l0:List SStmt) (A0:OA) (c0:Nat) (w0:World) (hZ:∀ w,Sub w0 w→Z w) (hR0:RdZ Z A0 l0) (hL0:l0.length≤c0) (r:List SStmt) (h:ps_Twin.f K l0=some r):Calls Try.prog 9 #[.slice A0 l0.length c0] w0 (ps_Twin.Post w0 Z r):=(ps_Twin_all K K) Z l0 A0 c0 w0 hZ hR0 hL0 r h

/-! punctual/punctualsame.Lend[int] -/
abbrev ps_Lend_int.Post (w0:World) (n:Nat) (r:List Int) (e:Ending) (w:World):Prop:=∃ (A:OA) (c:Nat),e=.returned (.slice A n c)∧r.length≤c∧St w0 w [ro A c 3 r]
def ps_Lend_int.f (l0 : List Int) (x1 : Int) : Option (List Int) :=
 if 0≤(IntKind.i64.wrap ((l0.length:Int)+3)) then
  if ((IntKind.i64.wrap ((l0.length:Int)+3)).toNat)≤17592186044416 then
   if (List.replicate 0 (0:Int)).length+l0.length≤17592186044416 then
    if ((List.replicate 0 (0:Int))++l0).length+3≤17592186044416 then
     some (((List.replicate 0 (0:Int))++l0)++([x1,x1,x1]:List Int))
    else
     none
   else
    none
  else
   none
 else
  none
theorem ps_Lend_int_ok (l0:List Int) (A0:OA) (c0:Nat) (x1:Int) (w0:World) (hR0:RdL w0 A0 l0) (hL0:l0.length≤c0) (r:List Int) (h:ps_Lend_int.f l0 x1=some r) :
  Calls Try.prog 10 #[.slice A0 l0.length c0,vI x1] w0 (ps_Lend_int.Post w0 l0.length r):=by
 have hS:=St.start w0
 unfold ps_Lend_int.f at h
 refine calls_enter (n:=21) (args:=[.slice A0 l0.length c0,vI x1]) (fn:=Try.f10) rfl rfl rfl rfl ?_
 show WE _ _ _ _ [(0,.slice A0 l0.length c0),(1,vI x1)] _
 refine ws fun K1 hK1=>wr [(0,0)]<|gb0 [0] [(4,.slice none 0 0)]<|gn hK1<|ws fun K2 hK2=>wr [(0,0),(1,0),(2,0),(3,1),(4,0),(5,2),(6,0),(7,0),(8,0),(9,1),(10,2),(11,0)]<|gb0 [0,1,2] [(8,vI (IntKind.i64.wrap ((l0.length:Int)+3))),(7,vI (l0.length:Int)),(6,.slice A0 l0.length c0)] ?_
 by_cases hc1:0≤(IntKind.i64.wrap ((l0.length:Int)+3))
 ·rw [if_pos hc1] at h
  by_cases hc2:((IntKind.i64.wrap ((l0.length:Int)+3)).toNat)≤17592186044416
  ·rw [if_pos hc2] at h
   refine ge_make (α:=Int) (d:=9) (t:=23) (el:=3) (bytes:=8) (l:=0) (c:=((IntKind.i64.wrap ((l0.length:Int)+3)).toNat)) (x:=(.const (vI 0))) (y:=(.tmp 8)) (ty:=23) (k1:=.i64) (k2:=.i64) (li:=0) (ci:=(IntKind.i64.wrap ((l0.length:Int)+3))) (z:=vI 0) (z':=(0:Int)) (by kernel_rfl) (by kernel_rfl) (by kernel_rfl) rfl (Int.toNat_of_nonneg hc1).symm (by kernel_rfl) (by kernel_rfl) rfl hS (Nat.zero_le _) rfl (by omega) fun v1 w1 _ hS1=>?_
   refine gb0 [4] [(10,.slice A0 l0.length c0)] ?_
   by_cases hc3:(List.replicate 0 (0:Int)).length+l0.length≤17592186044416
   ·rw [if_pos hc3] at h
    refine ge_appendL (α:=Int) (m:=0) (d:=11) (t:=23) (el:=3) (bytes:=8) (c1:=c0) (A1:=A0) (x:=(.tmp 9)) (y:=(.tmp 10)) (ty:=23) (v:=v1) (z:=vI 0) (l:=(List.replicate 0 (0:Int))) (us:=l0) (by kernel_rfl) (by kernel_rfl) (by kernel_rfl) (by kernel_rfl) (by kernel_rfl) rfl hS1 (hS1.rd hR0) rfl (Nat.mul_le_of_le_div _ _ _ hc3) fun v2 w2 hS2=>?_
    have hS3:St w0 w2 [Own.of v2 3 ((List.replicate 0 (0:Int))++l0)]:=hS2
    refine gb0 [6,7,8] [(14,vI x1),(13,vI x1),(12,vI x1)]<|gw (some 15) (.cells #[vI x1,vI x1,vI x1] 3) (fun b=>.slice (some ⟨b,0,none⟩) 3 3) hS3 fun b1 w3 hx1 hS4=>?_
    have hS5:=hS4.b 1
    by_cases hc4:((List.replicate 0 (0:Int))++l0).length+3≤17592186044416
    ·rw [if_pos hc4] at h
     refine ge_appendL (α:=Int) (m:=0) (d:=16) (t:=23) (el:=3) (bytes:=8) (c1:=3) (A1:=(some ⟨b1,0,none⟩)) (x:=(.tmp 11)) (y:=(.tmp 15)) (ty:=23) (v:=v2) (z:=vI 0) (l:=((List.replicate 0 (0:Int))++l0)) (us:=([x1,x1,x1]:List Int)) (by kernel_rfl) (by kernel_rfl) (by kernel_rfl) (by kernel_rfl) (by kernel_rfl) rfl hS5 (hS5.rdBlk 1 ([x1,x1,x1]:List Int) rfl rfl rfl) rfl (Nat.mul_le_of_le_div _ _ _ hc4) fun v3 w4 hS6=>?_
     have hS7:St w0 w4 [Own.of v3 3 (((List.replicate 0 (0:Int))++l0)++([x1,x1,x1]:List Int)),bk b1 #[vI x1,vI x1,vI x1] 3]:=hS6
     refine gb0 [11] [(5,v3)]<|gn hK2<|ws fun K3 hK3=>wr [(0,0),(1,0),(2,0),(3,0),(4,0)]<|gb0 [0,1,2] [(19,vI (l0.length:Int)),(18,.slice A0 l0.length c0),(17,v3)] ?_
     obtain ⟨Z1,cz1,rfl,hcp1⟩:=hS7.open2 0 rfl
     refine ge_sliceHi (d:=20) (ty:=23) (t:=23) (el:=3) (sz:=1) (m:=((((List.replicate 0 (0:Int))++l0)++([x1,x1,x1]:List Int)).length)) (c:=cz1) (hn:=l0.length) (x:=(.tmp 17)) (y:=(.tmp 19)) (A:=Z1) (k':=.i64) (hi:=(l0.length:Int)) (by kernel_rfl) (by kernel_rfl) (by kernel_rfl) rfl (by kernel_rfl) (by kernel_rfl) (by have h0:=hcp1; simp only [List.length_append,List.length_cons,List.length_nil] at h0; omega) ?_
     refine gb0 [4] [(4,.slice Z1 l0.length cz1)]<|gn hK3 ?_
     have hS8:=hS7.takeN 1
     obtain rfl:=si h
     exact we_ret (pr0 [.tmp 4] [.slice Z1 l0.length cz1] ⟨Z1,cz1,rfl,hcp1,hS8⟩)
    rw [if_neg hc4] at h
    cases h
   rw [if_neg hc3] at h
   cases h
  rw [if_neg hc2] at h
  cases h
 rw [if_neg hc1] at h
 cases h
theorem ps_Lend_int_full (l0:List Int) (x1:Int) {r:List Int} (h:ps_Lend_int.f l0 x1=some r):r=l0++[x1,x1,x1]:=by
 unfold ps_Lend_int.f at h
 repeat' split at h
 all_goals first | (exact (Option.some.inj h).symm) | cases h

/-! punctual/punctualsame.Same[int] -/
abbrev ps_Same_int.Post (w0:World) (r:Bool) (e:Ending) (w:World):Prop:=e=.returned (.bool r)∧St w0 w []
def ps_Same_int.r0 (l0 : List Int) (l1 : List Int) : Nat → Option (Nat ⊕ (Unit ⊕ Bool))
 | i1 =>
  if (i1:Int)<(l0.length:Int) then
   match l0[i1]? with
   | none=>none
   | some e1 =>
    match l1[i1]? with
    | none=>none
    | some e2 =>
     if e1=e2 then
      some (.inl (i1+1))
     else
      some (.inr (.inr false))
  else
   some (.inr (.inl ()))
def ps_Same_int.f (K : Nat) (l0 : List Int) (l1 : List Int) : Option Bool :=
 if (l0.length:Int)=(l1.length:Int) then
  match iter (ps_Same_int.r0 l0 l1) K 0 with
  | none=>none
  | some (.inl _) =>
   some true
  | some (.inr rr1) =>
   some rr1
 else
  some false
abbrev ps_Same_int.A0 (w0:World) (l0:List Int) (A0:OA) (c0:Nat) (l1:List Int) (A1:OA) (c1:Nat):Nat→Act→World→Prop:=fun (s:Nat) a w=>St w0 w []∧Frm 26 a [(0,.slice A0 l0.length c0),(1,.slice A1 l1.length c1),(12,vI (l0.length:Int)),(13,vI (s:Int))]
abbrev ps_Same_int.B0 (w0:World):(Unit ⊕ Bool)→Exit→Act→World→Prop:=Exits 0 (fun (s:Unit) a w=>St w0 w []∧Frm 26 a []) (Rets Try.prog Try.f18 (ps_Same_int.Post w0))
theorem ps_Same_int_r0 (K:Nat) (w0:World) (l0:List Int) (A0:OA) (c0:Nat) (l1:List Int) (A1:OA) (c1:Nat) (hR0:RdL w0 A0 l0) (hL0:l0.length≤c0) (hR1:RdL w0 A1 l1) (hL1:l1.length≤c1) (hc1:(l0.length:Int)=(l1.length:Int)) (s:Nat) (o:Nat ⊕ (Unit ⊕ Bool)) (h:ps_Same_int.r0 l0 l1 s=some o) (a:Act) (w:World) (hA:ps_Same_int.A0 w0 l0 A0 c0 l1 A1 c1 s a w) (Q:Exit→Act→World→Prop) (hQ:∀ x a w,Outs (ps_Same_int.A0 w0 l0 A0 c0 l1 A1 c1) (ps_Same_int.B0 w0) o x a w→Q x a w):(subF Try.f18 [1,1,0,1,0,0]).wp Try.prog Q a w:=by
 obtain ⟨i1,hs⟩:∃ z,z=s:=⟨s,rfl⟩
 subst hs
 obtain ⟨hS,hF⟩:=hA
 replace hS:St w0 w []:=hS
 simp only [ps_Same_int.r0] at h
 refine (?_:WE Try.prog 26 (subF Try.f18 [1,1,0,1,0,0]) Q [(0,.slice A0 l0.length c0),(1,.slice A1 l1.length c1),(12,vI (l0.length:Int)),(13,vI (i1:Int))] w) a hF
 clear hF a
 refine ws fun K6 hK6=>wr [(0,0)]<|gb0 [0] [(14,.bool (decide ((i1:Int)<(l0.length:Int))))]<|gn hK6<|ws fun K7 hK7=>?_
 by_cases hc2:(i1:Int)<(l0.length:Int)
 ·rw [if_pos hc2] at h
  refine wk 14 (decide ((i1:Int)<(l0.length:Int))) true (decide_eq_true hc2)<|wt<|we_skip fun a hF=>hK7 _ _ ?_ a hF
  refine ws fun K8 hK8=>we_block<|ws fun K9 hK9=>wr [(0,0),(1,0)]<|gb0 [0,1] [(5,vI (i1:Int)),(15,vI (i1:Int))]<|gn hK9<|ws fun K10 hK10=>we_draws (by kernel_rfl) [(0,0),(1,0),(2,0),(3,0),(4,0),(5,0),(6,0),(7,0),(8,0)] (by kernel_rfl) ?_
  have hS1:=hS.drew
  refine gb0 [0,1] [(17,vI (i1:Int)),(16,.slice A0 l0.length c0)] ?_
  rcases hx1:l0[i1]? with _ | e1
  ·rw [hx1] at h; cases h
  rw [hx1] at h
  simp only [] at h
  refine gi 18 0 23 3 1 l0.length c0 (.tmp 16) (.tmp 17) A0 .i64 (i1:Int) i1 ((hS1.rd hR0).eqSome (pos_of_get hx1)) rfl (lt_of_get hx1) ?_
  refine gb [3,4,5] [(21,vI (i1:Int)),(20,.slice A1 l1.length c1),(19,vI e1)] [.loaded ⟨blkOf A0,offOf A0+i1*1,none⟩ (vI e1)] ⟨RdL.cell (j:=0) (hS1.rd hR0) hx1 rfl,trivial⟩ ?_
  rcases hx2:l1[i1]? with _ | e2
  ·rw [hx2] at h; cases h
  rw [hx2] at h
  simp only [] at h
  refine gi 22 0 23 3 1 l1.length c1 (.tmp 20) (.tmp 21) A1 .i64 (i1:Int) i1 ((hS1.rd hR1).eqSome (pos_of_get hx2)) rfl (lt_of_get hx2) ?_
  refine gb [7,8] [(24,.bool (e1 != e2)),(23,vI e2)] [.loaded ⟨blkOf A1,offOf A1+i1*1,none⟩ (vI e2)] ⟨RdL.cell (j:=0) (hS1.rd hR1) hx2 rfl,trivial⟩<|gn hK10 ?_
  by_cases hc3:e1=e2
  ·rw [if_pos hc3] at h
   refine wk 24 (e1 != e2) false (bne_eq_false_iff_eq.2 hc3)<|wf<|we_skip fun a hF=>hK8 _ _ ?_ a hF
   refine wr [(0,0),(1,0)]<|ge_addn (d:=25) (ty:=3) (x:=(.tmp 13)) (y:=(.const (vI 1))) (t:=3) (t2:=3) (k:=.i64) (m:=i1) (by kernel_rfl) (by kernel_rfl) (by kernel_rfl) (by have h0:=hR0.small; omega) ?_
   refine gb0 [1] [(13,vI ((i1+1:Nat):Int))] ?_
   obtain rfl:=si h
   exact ge_nil fun a hF=>hQ _ _ _ (Outs.again ⟨hS1,hF.weaken ea⟩)
  rw [if_neg hc3] at h
  refine wk 24 (e1 != e2) true (bne_iff_ne.2 hc3)<|wt<|ws fun K11 hK11=>wr [(0,0)]<|gb0 [0] [(4,.bool false)]<|gn hK11 ?_
  obtain rfl:=si h
  exact we_ret fun a hF=>hQ _ _ _ (Outs.out nofun (Exits.on ⟨rfl,(pr0 [.tmp 4] [.bool false] ⟨rfl,hS1⟩) a hF⟩))
 rw [if_neg hc2] at h
 refine wk 14 (decide ((i1:Int)<(l0.length:Int))) false (decide_eq_false hc2)<|wf ?_
 obtain rfl:=si h
 exact we_exit fun a hF=>hQ _ _ _ (Outs.out nofun (Exits.here ⟨hS,hF.weaken trivial⟩))
theorem ps_Same_int_ok (K:Nat) (l0:List Int) (A0:OA) (c0:Nat) (l1:List Int) (A1:OA) (c1:Nat) (w0:World) (hR0:RdL w0 A0 l0) (hL0:l0.length≤c0) (hR1:RdL w0 A1 l1) (hL1:l1.length≤c1) (r:Bool) (h:ps_Same_int.f K l0 l1=some r) :
  Calls Try.prog 18 #[.slice A0 l0.length c0,.slice A1 l1.length c1] w0 (ps_Same_int.Post w0 r):=by
 have hS:=St.start w0
 unfold ps_Same_int.f at h
 refine calls_enter (n:=26) (args:=[.slice A0 l0.length c0,.slice A1 l1.length c1]) (fn:=Try.f18) rfl rfl rfl rfl ?_
 show WE _ _ _ _ [(0,.slice A0 l0.length c0),(1,.slice A1 l1.length c1)] _
 refine ws fun K1 hK1=>wr [(0,0)]<|gb0 [0] [(4,.bool false)]<|gn hK1<|ws fun K2 hK2=>ws fun K3 hK3=>wr [(0,0),(1,0),(2,0),(3,0),(4,0)]<|gb0 [0,1,2,3,4] [(10,.bool ((l0.length:Int) != (l1.length:Int))),(9,vI (l1.length:Int)),(8,.slice A1 l1.length c1),(7,vI (l0.length:Int)),(6,.slice A0 l0.length c0)]<|gn hK3 ?_
 by_cases hc1:(l0.length:Int)=(l1.length:Int)
 ·rw [if_pos hc1] at h
  refine wk 10 ((l0.length:Int) != (l1.length:Int)) false (bne_eq_false_iff_eq.2 hc1)<|wf<|we_skip fun a hF=>hK2 _ _ ?_ a hF
  refine ws fun K4 hK4=>ws fun K5 hK5=>wr [(0,0),(1,0),(2,0)]<|gb0 [0,1,2] [(13,vI 0),(12,vI (l0.length:Int)),(11,.slice A0 l0.length c0)]<|gn hK5<|we_block ?_
  rcases hq1:iter (ps_Same_int.r0 l0 l1) K 0 with _ | (_ | rr1)
  ·rw [hq1] at h; cases h
  ·rw [hq1] at h
   simp only [] at h
   refine we_iter (A:=ps_Same_int.A0 w0 l0 A0 c0 l1 A1 c1) (B:=ps_Same_int.B0 w0) hq1 (fun a hF=>⟨hS,hF.weaken ea⟩) (fun s o hf a w hA Q hQ=>ps_Same_int_r0 K w0 l0 A0 c0 l1 A1 c1 hR0 hL0 hR1 hL1 hc1 s o hf a w hA Q hQ) ?_
   rintro _ a w1 _ ⟨rfl,hS2,hF⟩
   replace hS2:St w0 w1 []:=hS2
   refine hK4 [] w1 ?_ a hF
   refine ws fun K12 hK12=>wr [(0,0)]<|gb0 [0] [(4,.bool true)]<|gn hK12 ?_
   obtain rfl:=si h
   exact we_ret (pr0 [.tmp 4] [.bool true] ⟨rfl,hS2⟩)
  rw [hq1] at h
  simp only [] at h
  refine we_iter (A:=ps_Same_int.A0 w0 l0 A0 c0 l1 A1 c1) (B:=ps_Same_int.B0 w0) hq1 (fun a hF=>⟨hS,hF.weaken ea⟩) (fun s o hf a w hA Q hQ=>ps_Same_int_r0 K w0 l0 A0 c0 l1 A1 c1 hR0 hL0 hR1 hL1 hc1 s o hf a w hA Q hQ) ?_
  rintro _ a w1 _ ⟨rfl,hb⟩
  obtain rfl:=si h
  exact hb
 rw [if_neg hc1] at h
 refine wk 10 ((l0.length:Int) != (l1.length:Int)) true (bne_iff_ne.2 hc1)<|wt<|ws fun K13 hK13=>wr [(0,0)]<|gb0 [0] [(4,.bool false)]<|gn hK13 ?_
 obtain rfl:=si h
 exact we_ret (pr0 [.tmp 4] [.bool false] ⟨rfl,hS⟩)

/-! punctual/punctualsame.Ends -/
abbrev ps_Ends.Post (w0:World) (r:Bool) (e:Ending) (w:World):Prop:=e=.returned (.bool r)∧St w0 w []
def ps_Ends.f (K : Nat) (l0_0 : List Int) (l0_1 : List SPut) (x0_2 : Int) (l1_0 : List Int) (l1_1 : List SPut) (x1_2 : Int) : Option Bool :=
 if x0_2=x1_2 then
  match ps_Same_int.f K l0_0 l1_0 with
  | none=>none
  | some r1 =>
   if r1=true then
    match ps_Same_api_Put.f K l0_1 l1_1 with
    | none=>none
    | some r2 =>
     some r2
   else
    some false
 else
  some false
theorem ps_Ends_ok (K:Nat) (l0_0:List Int) (A0_0:OA) (c0_0:Nat) (l0_1:List SPut) (A0_1:OA) (c0_1:Nat) (x0_2:Int) (l1_0:List Int) (A1_0:OA) (c1_0:Nat) (l1_1:List SPut) (A1_1:OA) (c1_1:Nat) (x1_2:Int) (w0:World) (hR0_0:RdL w0 A0_0 l0_0) (hL0_0:l0_0.length≤c0_0) (hR0_1:RdL w0 A0_1 l0_1) (hL0_1:l0_1.length≤c0_1) (hR1_0:RdL w0 A1_0 l1_0) (hL1_0:l1_0.length≤c1_0) (hR1_1:RdL w0 A1_1 l1_1) (hL1_1:l1_1.length≤c1_1) (r:Bool) (h:ps_Ends.f K l0_0 l0_1 x0_2 l1_0 l1_1 x1_2=some r) :
  Calls Try.prog 12 #[.agg #[.slice A0_0 l0_0.length c0_0,.slice A0_1 l0_1.length c0_1,vI x0_2],.agg #[.slice A1_0 l1_0.length c1_0,.slice A1_1 l1_1.length c1_1,vI x1_2]] w0 (ps_Ends.Post w0 r):=by
 have hS:=St.start w0
 unfold ps_Ends.f at h
 refine calls_enter (n:=24) (args:=[.agg #[.slice A0_0 l0_0.length c0_0,.slice A0_1 l0_1.length c0_1,vI x0_2],.agg #[.slice A1_0 l1_0.length c1_0,.slice A1_1 l1_1.length c1_1,vI x1_2]]) (fn:=Try.f12) rfl rfl rfl rfl ?_
 show WE _ _ _ _ [(0,.agg #[.slice A0_0 l0_0.length c0_0,.slice A0_1 l0_1.length c0_1,vI x0_2]),(1,.agg #[.slice A1_0 l1_0.length c1_0,.slice A1_1 l1_1.length c1_1,vI x1_2])] _
 refine ws fun K1 hK1=>wr [(0,1),(1,1),(2,0)]<|gw (some 2) (.cells #[.slice A0_0 l0_0.length c0_0,.slice A0_1 l0_1.length c0_1,vI x0_2] 28) (fun b=>pP b 0) hS fun b1 w1 hx1 hS1=>?_
 refine gw (some 3) (.cells #[.slice A1_0 l1_0.length c1_0,.slice A1_1 l1_1.length c1_1,vI x1_2] 28) (fun b=>pP b 0) hS1 fun b2 w2 hx2 hS2=>?_
 refine gb0 [2] [(4,.bool false)]<|gn hK1<|ws fun K2 hK2=>wr [(0,0),(1,0),(2,0),(3,0),(4,0),(5,0),(6,0),(7,0),(8,0),(9,0),(10,1),(11,0),(12,0),(13,0),(14,0),(15,0),(16,0),(17,1),(18,0),(19,0)]<|gb [0,1,2,3,4,5] [(10,.bool (x0_2==x1_2)),(9,.bool (x0_2==x1_2)),(8,vI x1_2),(7,pP b2 2),(6,vI x0_2),(5,pP b1 2)] [ld b1 2 (vI x0_2),ld b2 2 (vI x1_2)] ⟨hS2.c 1,hS2.c 0,trivial⟩ ?_
 by_cases hc1:x0_2=x1_2
 ·rw [if_pos hc1] at h
  refine gk 10 (x0_2==x1_2) true (beq_iff_eq.2 hc1) ?_
  rcases hq1:ps_Same_int.f K l0_0 l1_0 with _ | r1
  ·rw [hq1] at h; cases h
  rw [hq1] at h
  simp only [] at h
  refine gb [6,7,8,9] [(14,.slice A1_0 l1_0.length c1_0),(13,pP b2 0),(12,.slice A0_0 l0_0.length c0_0),(11,pP b1 0)] [ld b1 0 (.slice A0_0 l0_0.length c0_0),ld b2 0 (.slice A1_0 l1_0.length c1_0)] ⟨hS2.c 1,hS2.c 0,trivial⟩<|ge_call (d:=some 15) (f:=18) (args:=#[.slice A0_0 l0_0.length c0_0,.slice A1_0 l1_0.length c1_0]) (by kernel_rfl) (ps_Same_int_ok K l0_0 A0_0 c0_0 l1_0 A1_0 c1_0 _ (hS2.rd hR0_0) hL0_0 (hS2.rd hR1_0) hL1_0 _ hq1) ?_
  rintro _ w3 ⟨rfl,hS3⟩
  refine ⟨_,rfl,hS3.below,?_⟩
  have hS4:=hS2.call hS3
  refine gb0 [11,12] [(17,.bool r1),(16,.bool r1)] ?_
  by_cases hc2:r1=true
  ·rw [if_pos hc2] at h
   refine gk 17 r1 true hc2 ?_
   rcases hq2:ps_Same_api_Put.f K l0_1 l1_1 with _ | r2
   ·rw [hq2] at h; cases h
   rw [hq2] at h
   simp only [] at h
   refine gb [13,14,15,16] [(21,.slice A1_1 l1_1.length c1_1),(20,pP b2 1),(19,.slice A0_1 l0_1.length c0_1),(18,pP b1 1)] [ld b1 1 (.slice A0_1 l0_1.length c0_1),ld b2 1 (.slice A1_1 l1_1.length c1_1)] ⟨hS4.c 1,hS4.c 0,trivial⟩<|ge_call (d:=some 22) (f:=19) (args:=#[.slice A0_1 l0_1.length c0_1,.slice A1_1 l1_1.length c1_1]) (by kernel_rfl) (ps_Same_api_Put_ok K l0_1 A0_1 c0_1 l1_1 A1_1 c1_1 _ (hS4.rd hR0_1) hL0_1 (hS4.rd hR1_1) hL1_1 _ hq2) ?_
   rintro _ w4 ⟨rfl,hS5⟩
   refine ⟨_,rfl,hS5.below,?_⟩
   have hS6:=hS4.call hS5
   refine gb0 [18,19] [(4,.bool r2),(23,.bool r2)]<|gn hK2 ?_
   have hS7:=hS6.takeN 0
   obtain rfl:=si h
   exact we_ret (pr0 [.tmp 4] [.bool r2] ⟨rfl,hS7⟩)
  rw [if_neg hc2] at h
  refine gk 17 r1 false (Bool.eq_false_iff.2 hc2)<|gb0 [13,14,15,16] [(21,undef),(20,undef),(19,undef),(18,undef)]<|ge_off rfl rfl rfl (by kernel_rfl) ?_
  refine gb0 [18,19] [(4,.bool false),(23,.bool false)]<|gn hK2 ?_
  have hS8:=hS4.takeN 0
  obtain rfl:=si h
  exact we_ret (pr0 [.tmp 4] [.bool false] ⟨rfl,hS8⟩)
 rw [if_neg hc1] at h
 refine gk 10 (x0_2==x1_2) false (beq_eq_false_iff_ne.2 hc1)<|gb0 [6,7,8,9] [(14,undef),(13,undef),(12,undef),(11,undef)]<|ge_off rfl rfl rfl (by kernel_rfl) ?_
 refine gb0 [11,12,13,14,15,16] [(21,undef),(20,undef),(19,undef),(18,undef),(17,.bool false),(16,.bool false)]<|ge_off rfl rfl rfl (by kernel_rfl) ?_
 refine gb0 [18,19] [(4,.bool false),(23,.bool false)]<|gn hK2 ?_
 have hS9:=hS2.takeN 0
 obtain rfl:=si h
 exact we_ret (pr0 [.tmp 4] [.bool false] ⟨rfl,hS9⟩)

/-! punctual/punctualsame.Exprs -/
abbrev ps_Exprs.Post (w0:World) (r:Bool) (e:Ending) (w:World):Prop:=e=.returned (.bool r)∧St w0 w []
abbrev ps_Exprs.Rec (rec_ps_Exprs:Int→Int→(List SExpr)→Int→Int→(List SExpr)→Option Bool):Prop:=∀ (Z:Zone) (x0_0:Int) (x0_1:Int) (l0_2:List SExpr) (A0_2:OA) (c0_2:Nat) (x1_0:Int) (x1_1:Int) (l1_2:List SExpr) (A1_2:OA) (c1_2:Nat) (w0:World) (hZ:∀ w,Sub w0 w→Z w) (hR0_2:RdZ Z A0_2 l0_2) (hL0_2:l0_2.length≤c0_2) (hR1_2:RdZ Z A1_2 l1_2) (hL1_2:l1_2.length≤c1_2) (r:Bool) (h:rec_ps_Exprs x0_0 x0_1 l0_2 x1_0 x1_1 l1_2=some r),Calls Try.prog 37 #[.agg #[vI x0_0,vI x0_1,.slice A0_2 l0_2.length c0_2],.agg #[vI x1_0,vI x1_1,.slice A1_2 l1_2.length c1_2]] w0 (ps_Exprs.Post w0 r)
def ps_Exprs.p0 (x0_0 : Int) (x0_1 : Int) (l0_2 : List SExpr) (x1_0 : Int) (x1_1 : Int) (l1_2 : List SExpr) : Option (Unit ⊕ Bool) :=
  if x0_0=x1_0 then
   if x0_1=x1_1 then
    if (l0_2.length:Int)=(l1_2.length:Int) then
     some (.inl ())
    else
     some (.inr false)
   else
    some (.inr false)
  else
   some (.inr false)
def ps_Exprs.r1 (l0_2 : List SExpr) (l1_2 : List SExpr) (rec_ps_Exprs : Int → Int → (List SExpr) → Int → Int → (List SExpr) → Option Bool) : Nat → Option (Nat ⊕ (Unit ⊕ Bool))
 | i1 =>
  if (i1:Int)<(l0_2.length:Int) then
   match l0_2[i1]? with
   | none=>none
   | some e1 =>
    match l1_2[i1]? with
    | none=>none
    | some e2 =>
     match rec_ps_Exprs e1.Kind e1.N e1.A e2.Kind e2.N e2.A with
     | none=>none
     | some r1 =>
      if r1=true then
       some (.inl (i1+1))
      else
       some (.inr (.inr false))
  else
   some (.inr (.inl ()))
def ps_Exprs.b (K : Nat) (rec_ps_Exprs : Int → Int → (List SExpr) → Int → Int → (List SExpr) → Option Bool) (x0_0 : Int) (x0_1 : Int) (l0_2 : List SExpr) (x1_0 : Int) (x1_1 : Int) (l1_2 : List SExpr) : Option Bool :=
 match ps_Exprs.p0 x0_0 x0_1 l0_2 x1_0 x1_1 l1_2 with
 | none=>none
 | some (.inl _) =>
  match iter (ps_Exprs.r1 l0_2 l1_2 rec_ps_Exprs) K 0 with
  | none=>none
  | some (.inl _) =>
   some true
  | some (.inr rr1) =>
   some rr1
 | some (.inr rr2) =>
  some rr2
abbrev ps_Exprs.A0 (w0:World) (x0_0 x0_1:Int) (l0_2:List SExpr) (A0_2:OA) (c0_2:Nat) (x1_0 x1_1:Int) (l1_2:List SExpr) (A1_2:OA) (c1_2 b1 b2:Nat):Unit→Act→World→Prop:=fun (s:Unit) a w=>St w0 w [bk b2 #[vI x1_0,vI x1_1,.slice A1_2 l1_2.length c1_2] 66,bk b1 #[vI x0_0,vI x0_1,.slice A0_2 l0_2.length c0_2] 66]∧Frm 46 a [(2,pP b1 0),(3,pP b2 0)]
abbrev ps_Exprs.B0 (w0:World):Bool→Exit→Act→World→Prop:=Rets Try.prog Try.f37 (ps_Exprs.Post w0)
theorem ps_Exprs_p0 (K:Nat) (w0:World) (Z:Zone) (x0_0 x0_1:Int) (l0_2:List SExpr) (A0_2:OA) (c0_2:Nat) (x1_0 x1_1:Int) (l1_2:List SExpr) (A1_2:OA) (c1_2:Nat) (hZ:∀ w,Sub w0 w→Z w) (hR0_2:RdZ Z A0_2 l0_2) (hL0_2:l0_2.length≤c0_2) (hR1_2:RdZ Z A1_2 l1_2) (hL1_2:l1_2.length≤c1_2) (rec_ps_Exprs:Int→Int→(List SExpr)→Int→Int→(List SExpr)→Option Bool) (hr_ps_Exprs:ps_Exprs.Rec rec_ps_Exprs) (b1 b2:Nat) (o:Unit ⊕ Bool) (h:ps_Exprs.p0 x0_0 x0_1 l0_2 x1_0 x1_1 l1_2=some o) (w:World) (hS:St w0 w [bk b2 #[vI x1_0,vI x1_1,.slice A1_2 l1_2.length c1_2] 66,bk b1 #[vI x0_0,vI x0_1,.slice A0_2 l0_2.length c0_2] 66]) (Q:Exit→Act→World→Prop) (hQ:∀ x a w,Outs (ps_Exprs.A0 w0 x0_0 x0_1 l0_2 A0_2 c0_2 x1_0 x1_1 l1_2 A1_2 c1_2 b1 b2) (ps_Exprs.B0 w0) o x a w→Q x a w):WE Try.prog 46 (subF Try.f37 [1,0]) Q [(0,.agg #[vI x0_0,vI x0_1,.slice A0_2 l0_2.length c0_2]),(1,.agg #[vI x1_0,vI x1_1,.slice A1_2 l1_2.length c1_2]),(2,pP b1 0),(3,pP b2 0),(4,.bool false)] w:=by
 simp only [ps_Exprs.p0] at h
 refine ws fun K3 hK3=>wr [(0,0),(1,0),(2,0),(3,0),(4,0),(5,0),(6,0),(7,0),(8,0),(9,0),(10,0),(11,0),(12,0),(13,0),(14,0),(15,0),(16,0),(17,0),(18,0),(19,0),(20,0)]<|gb [0,1,2,3,4,5] [(11,.bool (x0_0 != x1_0)),(10,.bool (x0_0 != x1_0)),(9,vI x1_0),(8,pP b2 0),(7,vI x0_0),(6,pP b1 0)] [ld b1 0 (vI x0_0),ld b2 0 (vI x1_0)] ⟨hS.c 1,hS.c 0,trivial⟩ ?_
 by_cases hc1:x0_0=x1_0
 ·rw [if_pos hc1] at h
  refine gk 11 (x0_0 != x1_0) false (bne_eq_false_iff_eq.2 hc1)<|gb [6,7,8,9,10,11,12] [(18,.bool (x0_1 != x1_1)),(17,.bool (x0_1 != x1_1)),(16,.bool (x0_1 != x1_1)),(15,vI x1_1),(14,pP b2 1),(13,vI x0_1),(12,pP b1 1)] [ld b1 1 (vI x0_1),ld b2 1 (vI x1_1)] ⟨hS.c 1,hS.c 0,trivial⟩ ?_
  by_cases hc2:x0_1=x1_1
  ·rw [if_pos hc2] at h
   refine gk 18 (x0_1 != x1_1) false (bne_eq_false_iff_eq.2 hc2)<|gb [13,14,15,16,17,18,19,20] [(26,.bool ((l0_2.length:Int) != (l1_2.length:Int))),(25,.bool ((l0_2.length:Int) != (l1_2.length:Int))),(24,vI (l1_2.length:Int)),(23,.slice A1_2 l1_2.length c1_2),(22,pP b2 2),(21,vI (l0_2.length:Int)),(20,.slice A0_2 l0_2.length c0_2),(19,pP b1 2)] [ld b1 2 (.slice A0_2 l0_2.length c0_2),ld b2 2 (.slice A1_2 l1_2.length c1_2)] ⟨hS.c 1,hS.c 0,trivial⟩<|gn hK3 ?_
   by_cases hc3:(l0_2.length:Int)=(l1_2.length:Int)
   ·rw [if_pos hc3] at h
    refine wk 26 ((l0_2.length:Int) != (l1_2.length:Int)) false (bne_eq_false_iff_eq.2 hc3)<|wf ?_
    have hS4:=(hS.b 1).b 1
    obtain rfl:=si h
    exact we_skip fun a hF=>hQ _ _ _ (Outs.again ⟨hS4,hF.weaken ea⟩)
   rw [if_neg hc3] at h
   refine wk 26 ((l0_2.length:Int) != (l1_2.length:Int)) true (bne_iff_ne.2 hc3)<|wt<|ws fun K4 hK4=>wr [(0,0)]<|gb0 [0] [(4,.bool false)]<|gn hK4 ?_
   have hS5:=hS.takeN 0
   obtain rfl:=si h
   exact rq hQ fun a hF=>⟨rfl,(pr0 [.tmp 4] [.bool false] ⟨rfl,hS5⟩) a hF⟩
  rw [if_neg hc2] at h
  refine gk 18 (x0_1 != x1_1) true (bne_iff_ne.2 hc2)<|gb0 [13,14,15,16,17,18,19,20] [(26,.bool true),(25,undef),(24,undef),(23,undef),(22,undef),(21,undef),(20,undef),(19,undef)]<|gn hK3<|wt<|ws fun K5 hK5=>wr [(0,0)]<|gb0 [0] [(4,.bool false)]<|gn hK5 ?_
  have hS6:=hS.takeN 0
  obtain rfl:=si h
  exact rq hQ fun a hF=>⟨rfl,(pr0 [.tmp 4] [.bool false] ⟨rfl,hS6⟩) a hF⟩
 rw [if_neg hc1] at h
 refine gk 11 (x0_0 != x1_0) true (bne_iff_ne.2 hc1)<|gb0 [6,7,8,9,10,11,12,13,14,15,16,17,18,19,20] [(26,.bool true),(25,undef),(24,undef),(23,undef),(22,undef),(21,undef),(20,undef),(19,undef),(18,.bool true),(17,.bool true),(16,undef),(15,undef),(14,undef),(13,undef),(12,undef)]<|gn hK3<|wt<|ws fun K6 hK6=>wr [(0,0)]<|gb0 [0] [(4,.bool false)]<|gn hK6 ?_
 have hS7:=hS.takeN 0
 obtain rfl:=si h
 exact rq hQ fun a hF=>⟨rfl,(pr0 [.tmp 4] [.bool false] ⟨rfl,hS7⟩) a hF⟩
abbrev ps_Exprs.A1 (w0:World) (x0_0 x0_1:Int) (l0_2:List SExpr) (A0_2:OA) (c0_2:Nat) (x1_0 x1_1:Int) (l1_2:List SExpr) (A1_2:OA) (c1_2 b1 b2:Nat):Nat→Act→World→Prop:=fun (s:Nat) a w=>St w0 w [bk b2 #[vI x1_0,vI x1_1,.slice A1_2 l1_2.length c1_2] 66,bk b1 #[vI x0_0,vI x0_1,.slice A0_2 l0_2.length c0_2] 66]∧Frm 46 a [(2,pP b1 0),(3,pP b2 0),(29,vI (l0_2.length:Int)),(30,vI (s:Int))]
abbrev ps_Exprs.B1 (w0:World):(Unit ⊕ Bool)→Exit→Act→World→Prop:=Exits 0 (fun (s:Unit) a w=>St w0 w []∧Frm 46 a []) (Rets Try.prog Try.f37 (ps_Exprs.Post w0))
theorem ps_Exprs_r1 (K:Nat) (w0:World) (Z:Zone) (x0_0 x0_1:Int) (l0_2:List SExpr) (A0_2:OA) (c0_2:Nat) (x1_0 x1_1:Int) (l1_2:List SExpr) (A1_2:OA) (c1_2:Nat) (hZ:∀ w,Sub w0 w→Z w) (hR0_2:RdZ Z A0_2 l0_2) (hL0_2:l0_2.length≤c0_2) (hR1_2:RdZ Z A1_2 l1_2) (hL1_2:l1_2.length≤c1_2) (rec_ps_Exprs:Int→Int→(List SExpr)→Int→Int→(List SExpr)→Option Bool) (hr_ps_Exprs:ps_Exprs.Rec rec_ps_Exprs) (b1 b2 s:Nat) (o:Nat ⊕ (Unit ⊕ Bool)) (h:ps_Exprs.r1 l0_2 l1_2 rec_ps_Exprs s=some o) (a:Act) (w:World) (hA:ps_Exprs.A1 w0 x0_0 x0_1 l0_2 A0_2 c0_2 x1_0 x1_1 l1_2 A1_2 c1_2 b1 b2 s a w) (Q:Exit→Act→World→Prop) (hQ:∀ x a w,Outs (ps_Exprs.A1 w0 x0_0 x0_1 l0_2 A0_2 c0_2 x1_0 x1_1 l1_2 A1_2 c1_2 b1 b2) (ps_Exprs.B1 w0) o x a w→Q x a w):(subF Try.f37 [1,1,0,1,0,0]).wp Try.prog Q a w:=by
 obtain ⟨i1,hs⟩:∃ z,z=s:=⟨s,rfl⟩
 subst hs
 obtain ⟨hS,hF⟩:=hA
 replace hS:St w0 w [bk b2 #[vI x1_0,vI x1_1,.slice A1_2 l1_2.length c1_2] 66,bk b1 #[vI x0_0,vI x0_1,.slice A0_2 l0_2.length c0_2] 66]:=hS
 simp only [ps_Exprs.r1] at h
 refine (?_:WE Try.prog 46 (subF Try.f37 [1,1,0,1,0,0]) Q [(2,pP b1 0),(3,pP b2 0),(29,vI (l0_2.length:Int)),(30,vI (i1:Int))] w) a hF
 clear hF a
 refine ws fun K9 hK9=>wr [(0,0)]<|gb0 [0] [(31,.bool (decide ((i1:Int)<(l0_2.length:Int))))]<|gn hK9<|ws fun K10 hK10=>?_
 by_cases hc4:(i1:Int)<(l0_2.length:Int)
 ·rw [if_pos hc4] at h
  refine wk 31 (decide ((i1:Int)<(l0_2.length:Int))) true (decide_eq_true hc4)<|wt<|we_skip fun a hF=>hK10 _ _ ?_ a hF
  refine ws fun K11 hK11=>we_block<|ws fun K12 hK12=>wr [(0,0),(1,0)]<|gb0 [0,1] [(5,vI (i1:Int)),(32,vI (i1:Int))]<|gn hK12<|ws fun K13 hK13=>we_draws (by kernel_rfl) [(0,0),(1,0),(2,0),(3,0),(4,0),(5,0),(6,0),(7,0),(8,0),(9,0),(10,1),(11,0)] (by kernel_rfl) ?_
  have hS11:=hS.drew
  refine gb [0,1,2] [(35,vI (i1:Int)),(34,.slice A0_2 l0_2.length c0_2),(33,pP b1 2)] [ld b1 2 (.slice A0_2 l0_2.length c0_2)] ⟨hS11.c 1,trivial⟩ ?_
  rcases hx3:l0_2[i1]? with _ | e1
  ·rw [hx3] at h; cases h
  rw [hx3] at h
  simp only [] at h
  obtain ⟨An1,cn1,hCs1,hLn1,hRn1⟩:=SExpr.getZ hR0_2 hx3
  refine gi 36 0 64 66 3 l0_2.length c0_2 (.tmp 34) (.tmp 35) A0_2 .i64 (i1:Int) i1 (hR0_2.eqSome (hZ _ hS11.subw) (pos_of_get hx3)) rfl (lt_of_get hx3) ?_
  refine gb [4,5,6,7] [(40,vI (i1:Int)),(39,.slice A1_2 l1_2.length c1_2),(38,pP b2 2),(37,.agg #[vI e1.Kind,vI e1.N,.slice An1 e1.A.length cn1])] [.loaded ⟨blkOf A0_2,offOf A0_2+i1*3,none⟩ (vI e1.Kind),.loaded ⟨blkOf A0_2,offOf A0_2+i1*3+1,none⟩ (vI e1.N),.loaded ⟨blkOf A0_2,offOf A0_2+i1*3+2,none⟩ (.slice An1 e1.A.length cn1),ld b2 2 (.slice A1_2 l1_2.length c1_2)] ⟨hCs1 _ (hZ _ hS11.subw) 0 _ rfl,hCs1 _ (hZ _ hS11.subw) 1 _ rfl,hCs1 _ (hZ _ hS11.subw) 2 _ rfl,hS11.c 0,trivial⟩ ?_
  rcases hx4:l1_2[i1]? with _ | e2
  ·rw [hx4] at h; cases h
  rw [hx4] at h
  simp only [] at h
  obtain ⟨An2,cn2,hCs2,hLn2,hRn2⟩:=SExpr.getZ hR1_2 hx4
  refine gi 41 0 64 66 3 l1_2.length c1_2 (.tmp 39) (.tmp 40) A1_2 .i64 (i1:Int) i1 (hR1_2.eqSome (hZ _ hS11.subw) (pos_of_get hx4)) rfl (lt_of_get hx4) ?_
  rcases hq2:rec_ps_Exprs e1.Kind e1.N e1.A e2.Kind e2.N e2.A with _ | r1
  ·rw [hq2] at h; cases h
  rw [hq2] at h
  simp only [] at h
  refine gb [9] [(42,.agg #[vI e2.Kind,vI e2.N,.slice An2 e2.A.length cn2])] [.loaded ⟨blkOf A1_2,offOf A1_2+i1*3,none⟩ (vI e2.Kind),.loaded ⟨blkOf A1_2,offOf A1_2+i1*3+1,none⟩ (vI e2.N),.loaded ⟨blkOf A1_2,offOf A1_2+i1*3+2,none⟩ (.slice An2 e2.A.length cn2)] ⟨hCs2 _ (hZ _ hS11.subw) 0 _ rfl,hCs2 _ (hZ _ hS11.subw) 1 _ rfl,hCs2 _ (hZ _ hS11.subw) 2 _ rfl,trivial⟩<|ge_call (d:=some 43) (f:=37) (args:=#[.agg #[vI e1.Kind,vI e1.N,.slice An1 e1.A.length cn1],.agg #[vI e2.Kind,vI e2.N,.slice An2 e2.A.length cn2]]) (by kernel_rfl) (hr_ps_Exprs Z e1.Kind e1.N e1.A An1 cn1 e2.Kind e2.N e2.A An2 cn2 _ (fun w' k=>(hZ w' (hS11.subw.trans k))) hRn1 hLn1 hRn2 hLn2 _ hq2) ?_
  rintro _ w4 ⟨rfl,hS12⟩
  refine ⟨_,rfl,hS12.below,?_⟩
  have hS13:=hS11.call hS12
  refine gb0 [11] [(44,.bool (!r1))]<|gn hK13 ?_
  by_cases hc5:r1=true
  ·rw [if_pos hc5] at h
   refine wk 44 (!r1) false (congrArg (fun z=>!z) hc5)<|wf<|we_skip fun a hF=>hK11 _ _ ?_ a hF
   refine wr [(0,0),(1,0)]<|ge_addn (d:=45) (ty:=3) (x:=(.tmp 30)) (y:=(.const (vI 1))) (t:=3) (t2:=3) (k:=.i64) (m:=i1) (by kernel_rfl) (by kernel_rfl) (by kernel_rfl) (by have h0:=RdZ.small hR0_2 (hZ _ hS13.subw); omega) ?_
   refine gb0 [1] [(30,vI ((i1+1:Nat):Int))] ?_
   have hS15:=(hS13.b 1).b 1
   obtain rfl:=si h
   exact ge_nil fun a hF=>hQ _ _ _ (Outs.again ⟨hS15,hF.weaken ea⟩)
  rw [if_neg hc5] at h
  refine wk 44 (!r1) true (congrArg (fun z=>!z) (Bool.eq_false_iff.2 hc5))<|wt<|ws fun K14 hK14=>wr [(0,0)]<|gb0 [0] [(4,.bool false)]<|gn hK14 ?_
  have hS16:=hS13.takeN 0
  obtain rfl:=si h
  exact we_ret fun a hF=>hQ _ _ _ (Outs.out nofun (Exits.on ⟨rfl,(pr0 [.tmp 4] [.bool false] ⟨rfl,hS16⟩) a hF⟩))
 rw [if_neg hc4] at h
 refine wk 31 (decide ((i1:Int)<(l0_2.length:Int))) false (decide_eq_false hc4)<|wf ?_
 have hS17:=hS.takeN 0
 obtain rfl:=si h
 exact we_exit fun a hF=>hQ _ _ _ (Outs.out nofun (Exits.here ⟨hS17,hF.weaken trivial⟩))
theorem ps_Exprs_step (K:Nat) (rec_ps_Exprs:Int→Int→(List SExpr)→Int→Int→(List SExpr)→Option Bool) (hr_ps_Exprs:ps_Exprs.Rec rec_ps_Exprs) (Z:Zone) (x0_0 x0_1:Int) (l0_2:List SExpr) (A0_2:OA) (c0_2:Nat) (x1_0 x1_1:Int) (l1_2:List SExpr) (A1_2:OA) (c1_2:Nat) (w0:World) (hZ:∀ w,Sub w0 w→Z w) (hR0_2:RdZ Z A0_2 l0_2) (hL0_2:l0_2.length≤c0_2) (hR1_2:RdZ Z A1_2 l1_2) (hL1_2:l1_2.length≤c1_2) (r:Bool) (h:ps_Exprs.b K rec_ps_Exprs x0_0 x0_1 l0_2 x1_0 x1_1 l1_2=some r) :
  Calls Try.prog 37 #[.agg #[vI x0_0,vI x0_1,.slice A0_2 l0_2.length c0_2],.agg #[vI x1_0,vI x1_1,.slice A1_2 l1_2.length c1_2]] w0 (ps_Exprs.Post w0 r):=by
 have hS:=St.start w0
 unfold ps_Exprs.b at h
 refine calls_enter (n:=46) (args:=[.agg #[vI x0_0,vI x0_1,.slice A0_2 l0_2.length c0_2],.agg #[vI x1_0,vI x1_1,.slice A1_2 l1_2.length c1_2]]) (fn:=Try.f37) rfl rfl rfl rfl ?_
 show WE _ _ _ _ [(0,.agg #[vI x0_0,vI x0_1,.slice A0_2 l0_2.length c0_2]),(1,.agg #[vI x1_0,vI x1_1,.slice A1_2 l1_2.length c1_2])] _
 refine ws fun K1 hK1=>wr [(0,1),(1,1),(2,0)]<|gw (some 2) (.cells #[vI x0_0,vI x0_1,.slice A0_2 l0_2.length c0_2] 66) (fun b=>pP b 0) hS fun b1 w1 hx1 hS1=>?_
 refine gw (some 3) (.cells #[vI x1_0,vI x1_1,.slice A1_2 l1_2.length c1_2] 66) (fun b=>pP b 0) hS1 fun b2 w2 hx2 hS2=>?_
 refine gb0 [2] [(4,.bool false)]<|gn hK1<|ws fun K2 hK2=>?_
 rcases hq1:ps_Exprs.p0 x0_0 x0_1 l0_2 x1_0 x1_1 l1_2 with _ | (_ | rr2)
 ·rw [hq1] at h; cases h
 ·rw [hq1] at h
  simp only [] at h
  refine kp (ps_Exprs_p0 K w0 Z x0_0 x0_1 l0_2 A0_2 c0_2 x1_0 x1_1 l1_2 A1_2 c1_2 hZ hR0_2 hL0_2 hR1_2 hL1_2 rec_ps_Exprs hr_ps_Exprs b1 b2 _ hq1 _ hS2 _ ?_)
  rintro _ a w3 ⟨rfl,hS8,hF⟩
  replace hS8:St w0 w3 [bk b2 #[vI x1_0,vI x1_1,.slice A1_2 l1_2.length c1_2] 66,bk b1 #[vI x0_0,vI x0_1,.slice A0_2 l0_2.length c0_2] 66]:=hS8
  refine hK2 [(2,pP b1 0),(3,pP b2 0)] w3 ?_ a hF
  refine ws fun K7 hK7=>ws fun K8 hK8=>wr [(0,0),(1,0),(2,0),(3,0)]<|gb [0,1,2,3] [(30,vI 0),(29,vI (l0_2.length:Int)),(28,.slice A0_2 l0_2.length c0_2),(27,pP b1 2)] [ld b1 2 (.slice A0_2 l0_2.length c0_2)] ⟨hS8.c 1,trivial⟩<|gn hK8<|we_block ?_
  have hS10:=(hS8.b 1).b 1
  rcases hq3:iter (ps_Exprs.r1 l0_2 l1_2 rec_ps_Exprs) K 0 with _ | (_ | rr1)
  ·rw [hq3] at h; cases h
  ·rw [hq3] at h
   simp only [] at h
   refine we_iter (A:=ps_Exprs.A1 w0 x0_0 x0_1 l0_2 A0_2 c0_2 x1_0 x1_1 l1_2 A1_2 c1_2 b1 b2) (B:=ps_Exprs.B1 w0) hq3 (fun a hF=>⟨hS10,hF.weaken ea⟩) (fun s o hf a w hA Q hQ=>ps_Exprs_r1 K w0 Z x0_0 x0_1 l0_2 A0_2 c0_2 x1_0 x1_1 l1_2 A1_2 c1_2 hZ hR0_2 hL0_2 hR1_2 hL1_2 rec_ps_Exprs hr_ps_Exprs b1 b2 s o hf a w hA Q hQ) ?_
   rintro _ a w5 _ ⟨rfl,hS18,hF⟩
   replace hS18:St w0 w5 []:=hS18
   refine hK7 [] w5 ?_ a hF
   refine ws fun K15 hK15=>wr [(0,0)]<|gb0 [0] [(4,.bool true)]<|gn hK15 ?_
   obtain rfl:=si h
   exact we_ret (pr0 [.tmp 4] [.bool true] ⟨rfl,hS18⟩)
  rw [hq3] at h
  simp only [] at h
  refine we_iter (A:=ps_Exprs.A1 w0 x0_0 x0_1 l0_2 A0_2 c0_2 x1_0 x1_1 l1_2 A1_2 c1_2 b1 b2) (B:=ps_Exprs.B1 w0) hq3 (fun a hF=>⟨hS10,hF.weaken ea⟩) (fun s o hf a w hA Q hQ=>ps_Exprs_r1 K w0 Z x0_0 x0_1 l0_2 A0_2 c0_2 x1_0 x1_1 l1_2 A1_2 c1_2 hZ hR0_2 hL0_2 hR1_2 hL1_2 rec_ps_Exprs hr_ps_Exprs b1 b2 s o hf a w hA Q hQ) ?_
  rintro _ a w1 _ ⟨rfl,hb⟩
  obtain rfl:=si h
  exact hb
 rw [hq1] at h
 simp only [] at h
 refine kp (ps_Exprs_p0 K w0 Z x0_0 x0_1 l0_2 A0_2 c0_2 x1_0 x1_1 l1_2 A1_2 c1_2 hZ hR0_2 hL0_2 hR1_2 hL1_2 rec_ps_Exprs hr_ps_Exprs b1 b2 _ hq1 _ hS2 _ ?_)
 rintro _ a w1 ⟨_,rfl,hb⟩
 obtain rfl:=si h
 exact hb
def ps_Exprs.recs (K : Nat) : Nat → (Int → Int → (List SExpr) → Int → Int → (List SExpr) → Option Bool)
 | 0=>fun _ _ _ _ _ _=>none
 | n+1=>ps_Exprs.b K (ps_Exprs.recs K n)
theorem ps_Exprs_all (K n:Nat):ps_Exprs.Rec (ps_Exprs.recs K n):=by
 induction n with
 | zero=>exact (by unfold ps_Exprs.Rec; intros; rename_i h; cases (show none=some _ from h))
 | succ n ih=>exact ps_Exprs_step K _ ih
def ps_Exprs.f (K : Nat) (x0_0 : Int) (x0_1 : Int) (l0_2 : List SExpr) (x1_0 : Int) (x1_1 : Int) (l1_2 : List SExpr) : Option Bool := (ps_Exprs.recs K K) x0_0 x0_1 l0_2 x1_0 x1_1 l1_2
theorem ps_Exprs_ok (K:Nat) (Z:Zone) (x0_0 x0_1:Int) (l0_2:List SExpr) (A0_2:OA) (c0_2:Nat) (x1_0 x1_1:Int) (l1_2:List SExpr) (A1_2:OA) (c1_2:Nat) (w0:World) (hZ:∀ w,Sub w0 w→Z w) (hR0_2:RdZ Z A0_2 l0_2) (hL0_2:l0_2.length≤c0_2) (hR1_2:RdZ Z A1_2 l1_2) (hL1_2:l1_2.length≤c1_2) (r:Bool) (h:ps_Exprs.f K x0_0 x0_1 l0_2 x1_0 x1_1 l1_2=some r):Calls Try.prog 37 #[.agg #[vI x0_0,vI x0_1,.slice A0_2 l0_2.length c0_2],.agg #[vI x1_0,vI x1_1,.slice A1_2 l1_2.length c1_2]] w0 (ps_Exprs.Post w0 r):=(ps_Exprs_all K K) Z x0_0 x0_1 l0_2 A0_2 c0_2 x1_0 x1_1 l1_2 A1_2 c1_2 w0 hZ hR0_2 hL0_2 hR1_2 hL1_2 r h
end Go.Proofs.Ytcjphfmmmlgcbaa.GV
