/- Walks of single functions, written by a program of this work. -/
import Derived.Test.YtcjphfmmmlgcbaaGWMeaningJoins3
namespace Go.Proofs.Ytcjphfmmmlgcbaa.GV
open Go Go.RowKit
set_option linter.unusedVariables false
set_option linter.unusedSimpArgs false
set_option maxRecDepth 100000

/-! punctual/punctuallaw.claims -/
abbrev claims.Post (w0:World) (r:Bool) (e:Ending) (w:World):Prop:=e=.returned (.bool r)∧St w0 w []
def claims.f (K : Nat) (l0 : List SStmt) : Option Bool :=
 match ps_Deep.f K l0 with
 | none=>none
 | some r1 =>
  if r1≤300 then
   match pr_Size.f K l0 with
   | none=>none
   | some r2 =>
    some (decide (r2≤2000))
  else
   some false
theorem claims_ok (K:Nat) (Z:Zone) (l0:List SStmt) (A0:OA) (c0:Nat) (w0:World) (hZ:∀ w,Sub w0 w→Z w) (hR0:RdZ Z A0 l0) (hL0:l0.length≤c0) (r:Bool) (h:claims.f K l0=some r) :
  Calls Try.prog 7 #[.slice A0 l0.length c0] w0 (claims.Post w0 r):=by
 have hS:=St.start w0
 unfold claims.f at h
 refine calls_enter (n:=11) (args:=[.slice A0 l0.length c0]) (fn:=Try.f7) rfl rfl rfl rfl ?_
 show WE _ _ _ _ [(0,.slice A0 l0.length c0)] _
 refine ws fun K1 hK1=>wr [(0,0)]<|gb0 [0] [(2,.bool false)]<|gn hK1<|ws fun K2 hK2=>wr [(0,0),(1,1),(2,0),(3,0),(4,0),(5,1),(6,0),(7,0),(8,0)] ?_
 rcases hq1:ps_Deep.f K l0 with _ | r1
 ·rw [hq1] at h; cases h
 rw [hq1] at h
 simp only [] at h
 refine gb0 [0] [(3,.slice A0 l0.length c0)]<|ge_call (d:=some 4) (f:=27) (args:=#[.slice A0 l0.length c0]) (by kernel_rfl) (ps_Deep_ok K Z l0 A0 c0 _ (fun w' k=>(hZ w' (hS.subw.trans k))) hR0 hL0 _ hq1) ?_
 rintro _ w1 ⟨rfl,hS1⟩
 refine ⟨_,rfl,hS1.below,?_⟩
 have hS2:=hS.call hS1
 refine gb0 [2,3] [(6,.bool (decide (r1≤300))),(5,.bool (decide (r1≤300)))] ?_
 by_cases hc1:r1≤300
 ·rw [if_pos hc1] at h
  refine gk 6 (decide (r1≤300)) true (decide_eq_true hc1) ?_
  rcases hq2:pr_Size.f K l0 with _ | r2
  ·rw [hq2] at h; cases h
  rw [hq2] at h
  simp only [] at h
  refine gb0 [4] [(7,.slice A0 l0.length c0)]<|ge_call (d:=some 8) (f:=17) (args:=#[.slice A0 l0.length c0]) (by kernel_rfl) (pr_Size_ok K Z l0 A0 c0 _ (fun w' k=>(hZ w' (hS2.subw.trans k))) hR0 hL0 _ hq2) ?_
  rintro _ w2 ⟨rfl,hS3⟩
  refine ⟨_,rfl,hS3.below,?_⟩
  have hS4:=hS2.call hS3
  refine gb0 [6,7,8] [(2,.bool (decide (r2≤2000))),(10,.bool (decide (r2≤2000))),(9,.bool (decide (r2≤2000)))]<|gn hK2 ?_
  obtain rfl:=si h
  exact we_ret (pr0 [.tmp 2] [.bool (decide (r2≤2000))] ⟨rfl,hS4⟩)
 rw [if_neg hc1] at h
 refine gk 6 (decide (r1≤300)) false (decide_eq_false hc1)<|gb0 [4] [(7,undef)]<|ge_off rfl rfl rfl (by kernel_rfl) ?_
 refine gb0 [6,7,8] [(2,.bool false),(10,.bool false),(9,undef)]<|gn hK2 ?_
 obtain rfl:=si h
 exact we_ret (pr0 [.tmp 2] [.bool false] ⟨rfl,hS2⟩)

/-! punctual/punctualsame.twinExpr -/
abbrev ps_twinExpr.Post (w0:World) (Z:Zone) (r:SExpr) (e:Ending) (w:World):Prop:=∃ (A2:OA) (c2:Nat) (ft:List Nat) (wf:World),e=.returned (.agg #[vI r.Kind,vI r.N,.slice A2 r.A.length c2])∧r.A.length≤c2∧RdZ (Zand Z wf) A2 r.A∧St w0 w [Own.frz ft wf]
abbrev ps_twinExpr.Rec (rec_ps_twinExpr:Int→Int→(List SExpr)→Option SExpr):Prop:=∀ (Z:Zone) (x0_0:Int) (x0_1:Int) (l0_2:List SExpr) (A0_2:OA) (c0_2:Nat) (w0:World) (hZ:∀ w,Sub w0 w→Z w) (hR0_2:RdZ Z A0_2 l0_2) (hL0_2:l0_2.length≤c0_2) (r:SExpr) (h:rec_ps_twinExpr x0_0 x0_1 l0_2=some r),Calls Try.prog 31 #[.agg #[vI x0_0,vI x0_1,.slice A0_2 l0_2.length c0_2]] w0 (ps_twinExpr.Post w0 Z r)
def ps_twinExpr.r0 (l0_2 : List SExpr) (rec_ps_twinExpr : Int → Int → (List SExpr) → Option SExpr) : (List SExpr) × Nat → Option (((List SExpr) × Nat) ⊕ ((List SExpr) ⊕ SExpr))
 | (m1,i1) =>
  if (i1:Int)<(l0_2.length:Int) then
   match l0_2[i1]? with
   | none=>none
   | some e1 =>
    match rec_ps_twinExpr e1.Kind e1.N e1.A with
    | none=>none
    | some r1 =>
     if m1.length<3518437208883 then
      some (.inl ((m1++[r1]),(i1+1)))
     else
      none
  else
   some (.inr (.inl m1))
def ps_twinExpr.b (K : Nat) (rec_ps_twinExpr : Int → Int → (List SExpr) → Option SExpr) (x0_0 : Int) (x0_1 : Int) (l0_2 : List SExpr) : Option SExpr :=
 match iter (ps_twinExpr.r0 l0_2 rec_ps_twinExpr) K (([]:List SExpr),0) with
 | none=>none
 | some (.inl m3) =>
  some (⟨x0_0,x0_1,m3⟩:SExpr)
 | some (.inr rr1) =>
  some rr1
abbrev ps_twinExpr.A0 (w0:World) (Z:Zone) (x0_0 x0_1:Int) (l0_2:List SExpr) (A0_2:OA) (c0_2:Nat) (wf1:World) (b1 b2:Nat):((List SExpr)×Nat)→Act→World→Prop:=fun (s:(List SExpr)×Nat) a w=>∃ (ft2:List Nat) (wf2:World) (v1:Value) (hds1:List HExpr),Sub wf1 wf2∧DRows (Zand Z wf2) hds1 s.1∧St w0 w [bk b2 #[vI 0,vI 0,.slice none 0 0] 66,bk b1 #[vI x0_0,vI x0_1,.slice A0_2 l0_2.length c0_2] 66,Own.of v1 66 hds1,Own.frz ft2 wf2]∧Frm 22 a [(1,pP b1 0),(2,pP b2 0),(3,v1),(7,.slice A0_2 l0_2.length c0_2),(8,vI (l0_2.length:Int)),(9,vI (s.2:Int))]
abbrev ps_twinExpr.B0 (w0:World) (Z:Zone) (x0_0 x0_1:Int) (l0_2:List SExpr) (A0_2:OA) (c0_2:Nat) (wf1:World) (b1 b2:Nat):((List SExpr) ⊕ SExpr)→Exit→Act→World→Prop:=Exits 0 (fun (s:(List SExpr)) a w=>∃ (ft3:List Nat) (wf3:World) (v2:Value) (hds2:List HExpr),Sub wf1 wf3∧DRows (Zand Z wf3) hds2 s∧St w0 w [bk b2 #[vI 0,vI 0,.slice none 0 0] 66,bk b1 #[vI x0_0,vI x0_1,.slice A0_2 l0_2.length c0_2] 66,Own.of v2 66 hds2,Own.frz ft3 wf3]∧Frm 22 a [(1,pP b1 0),(2,pP b2 0),(3,v2)]) (Rets Try.prog Try.f31 (ps_twinExpr.Post w0 Z))
theorem ps_twinExpr_r0 (K:Nat) (w0:World) (Z:Zone) (x0_0 x0_1:Int) (l0_2:List SExpr) (A0_2:OA) (c0_2:Nat) (hZ:∀ w,Sub w0 w→Z w) (hR0_2:RdZ Z A0_2 l0_2) (hL0_2:l0_2.length≤c0_2) (rec_ps_twinExpr:Int→Int→(List SExpr)→Option SExpr) (hr_ps_twinExpr:ps_twinExpr.Rec rec_ps_twinExpr) (ft1:List Nat) (wf1:World) (b1 b2:Nat) (s:(List SExpr)×Nat) (o:((List SExpr)×Nat) ⊕ ((List SExpr) ⊕ SExpr)) (h:ps_twinExpr.r0 l0_2 rec_ps_twinExpr s=some o) (a:Act) (w:World) (hA:ps_twinExpr.A0 w0 Z x0_0 x0_1 l0_2 A0_2 c0_2 wf1 b1 b2 s a w) (Q:Exit→Act→World→Prop) (hQ:∀ x a w,Outs (ps_twinExpr.A0 w0 Z x0_0 x0_1 l0_2 A0_2 c0_2 wf1 b1 b2) (ps_twinExpr.B0 w0 Z x0_0 x0_1 l0_2 A0_2 c0_2 wf1 b1 b2) o x a w→Q x a w):(subF Try.f31 [1,1,0,1,0,0]).wp Try.prog Q a w:=by
 obtain ⟨m1,i1⟩:=s
 obtain ⟨ft2,wf2,v1,hds1,hsb1,hd1,hS,hF⟩:=hA
 replace hS:St w0 w [bk b2 #[vI 0,vI 0,.slice none 0 0] 66,bk b1 #[vI x0_0,vI x0_1,.slice A0_2 l0_2.length c0_2] 66,Own.of v1 66 hds1,Own.frz ft2 wf2]:=hS
 simp only [ps_twinExpr.r0] at h
 refine (?_:WE Try.prog 22 (subF Try.f31 [1,1,0,1,0,0]) Q [(1,pP b1 0),(2,pP b2 0),(3,v1),(7,.slice A0_2 l0_2.length c0_2),(8,vI (l0_2.length:Int)),(9,vI (i1:Int))] w) a hF
 clear hF a
 refine ws fun K5 hK5=>wr [(0,0)]<|gb0 [0] [(10,.bool (decide ((i1:Int)<(l0_2.length:Int))))]<|gn hK5<|ws fun K6 hK6=>?_
 by_cases hc1:(i1:Int)<(l0_2.length:Int)
 ·rw [if_pos hc1] at h
  refine wk 10 (decide ((i1:Int)<(l0_2.length:Int))) true (decide_eq_true hc1)<|wt<|we_skip fun a hF=>hK6 _ _ ?_ a hF
  refine ws fun K7 hK7=>we_block<|ws fun K8 hK8=>wr [(0,0),(1,0),(2,1),(3,2)] ?_
  rcases hx3:l0_2[i1]? with _ | e1
  ·rw [hx3] at h; cases h
  rw [hx3] at h
  simp only [] at h
  obtain ⟨An1,cn1,hCs1,hLn1,hRn1⟩:=SExpr.getZ hR0_2 hx3
  refine gi 11 0 64 66 3 l0_2.length c0_2 (.tmp 7) (.tmp 9) A0_2 .i64 (i1:Int) i1 (hR0_2.eqSome (hZ _ hS.subw) (pos_of_get hx3)) rfl (lt_of_get hx3) ?_
  refine gb [1] [(12,.agg #[vI e1.Kind,vI e1.N,.slice An1 e1.A.length cn1])] [.loaded ⟨blkOf A0_2,offOf A0_2+i1*3,none⟩ (vI e1.Kind),.loaded ⟨blkOf A0_2,offOf A0_2+i1*3+1,none⟩ (vI e1.N),.loaded ⟨blkOf A0_2,offOf A0_2+i1*3+2,none⟩ (.slice An1 e1.A.length cn1)] ⟨hCs1 _ (hZ _ hS.subw) 0 _ rfl,hCs1 _ (hZ _ hS.subw) 1 _ rfl,hCs1 _ (hZ _ hS.subw) 2 _ rfl,trivial⟩<|gw (some 5) (.cells #[vI 0,vI 0,.slice none 0 0] 66) (fun b=>pP b 0) hS fun b3 w3 hx4 hS9=>?_
  refine gs b3 0 #[vI 0,vI 0,.slice none 0 0] 66 [vI e1.Kind,vI e1.N,.slice An1 e1.A.length cn1] hS9 fun w4 hS10=>?_
  have hS11:=hS10.nc #[vI e1.Kind,vI e1.N,.slice An1 e1.A.length cn1] (by kernel_rfl)
  refine gn hK8<|wr [(0,0),(1,0),(2,1),(3,1),(4,2),(5,0)] ?_
  rcases hq1:rec_ps_twinExpr e1.Kind e1.N e1.A with _ | r1
  ·rw [hq1] at h; cases h
  rw [hq1] at h
  simp only [] at h
  refine gb [0,1] [(14,.agg #[vI e1.Kind,vI e1.N,.slice An1 e1.A.length cn1]),(13,v1)] [ld b3 0 (vI e1.Kind),ld b3 1 (vI e1.N),ld b3 2 (.slice An1 e1.A.length cn1)] ⟨hS11.c 0,hS11.c 0,hS11.c 0,trivial⟩<|ge_call (d:=some 15) (f:=31) (args:=#[.agg #[vI e1.Kind,vI e1.N,.slice An1 e1.A.length cn1]]) (by kernel_rfl) (hr_ps_twinExpr (Zand Z wf2) e1.Kind e1.N e1.A An1 cn1 _ (fun w' k=>⟨(hZ w' (hS11.subw.trans k)),(hS11.frzSub 4 rfl).trans k⟩) (hRn1.up (ZLe.in _ _)) hLn1 _ hq1) ?_
  rintro _ w5 ⟨A1,c1,ft4,wf4,rfl,hL1,hR1,hS12⟩
  refine ⟨_,rfl,hS12.below,?_⟩
  have hS15:=((hS11.call hS12).b 5).b 1
  obtain ⟨ft5,wf5,hsb3,hsb4,hS16⟩:=hS15.frzMerge
  replace hR1:RdZ (Zand Z wf5) A1 r1.A:=hR1.up (ZLe.both hsb4 hsb3)
  refine gw (some 16) (.cells #[vI r1.Kind,vI r1.N,.slice A1 r1.A.length c1] 66) (fun b=>.slice (some ⟨b,0,none⟩) 1 1) hS16 fun b4 w6 hx5 hS17=>?_
  have hS18:=hS17.b 5
  by_cases hc2:m1.length<3518437208883
  ·rw [if_pos hc2] at h
   have hd3:DRows (Zand Z wf5) (hds1++[(⟨r1.Kind,r1.N,⟨A1,r1.A.length,c1⟩⟩:HExpr)]) (m1++[r1]):=DRows.add (hd1.up (ZLe.up hsb4)) (SExpr.mkZ r1 hL1 hR1)
   refine ge_append (α:=HExpr) (m:=0) (d:=17) (t:=64) (el:=66) (bytes:=40) (c1:=1) (b1:=b4) (x:=(.tmp 13)) (y:=(.tmp 16)) (ty:=64) (v:=v1) (z:=.agg #[vI 0,vI 0,.slice none 0 0]) (l:=hds1) (u:=(⟨r1.Kind,r1.N,⟨A1,r1.A.length,c1⟩⟩:HExpr)) (by kernel_rfl) (by kernel_rfl) (by kernel_rfl) (by kernel_rfl) (by kernel_rfl) rfl hS18 rfl (by have h0:hds1.length=m1.length:=DRows.len (hd1.up (ZLe.up hsb4)); omega) fun v3 w7 hS19=>?_
   refine gb0 [5] [(3,v3)]<|gn hK7<|wr [(0,0),(1,0)]<|ge_addn (d:=18) (ty:=3) (x:=(.tmp 9)) (y:=(.const (vI 1))) (t:=3) (t2:=3) (k:=.i64) (m:=i1) (by kernel_rfl) (by kernel_rfl) (by kernel_rfl) (by have h0:=RdZ.small hR0_2 (hZ _ hS19.subw); omega) ?_
   refine gb0 [1] [(9,vI ((i1+1:Nat):Int))] ?_
   have hS24:=hS19.p [3,4,0,1] rfl
   obtain rfl:=si h
   exact ge_nil fun a hF=>hQ _ _ _ (Outs.again ⟨ft5,wf5,v3,(hds1++[(⟨r1.Kind,r1.N,⟨A1,r1.A.length,c1⟩⟩:HExpr)]),(hsb1.trans hsb4),hd3,hS24,hF.weaken ea⟩)
  rw [if_neg hc2] at h
  cases h
 rw [if_neg hc1] at h
 refine wk 10 (decide ((i1:Int)<(l0_2.length:Int))) false (decide_eq_false hc1)<|wf ?_
 have hS28:=(((hS.b 3).b 3).b 3).b 3
 obtain rfl:=si h
 exact we_exit fun a hF=>hQ _ _ _ (Outs.out nofun (Exits.here ⟨ft2,wf2,v1,hds1,hsb1,hd1,hS28,hF.weaken ea⟩))
theorem ps_twinExpr_step (K:Nat) (rec_ps_twinExpr:Int→Int→(List SExpr)→Option SExpr) (hr_ps_twinExpr:ps_twinExpr.Rec rec_ps_twinExpr) (Z:Zone) (x0_0 x0_1:Int) (l0_2:List SExpr) (A0_2:OA) (c0_2:Nat) (w0:World) (hZ:∀ w,Sub w0 w→Z w) (hR0_2:RdZ Z A0_2 l0_2) (hL0_2:l0_2.length≤c0_2) (r:SExpr) (h:ps_twinExpr.b K rec_ps_twinExpr x0_0 x0_1 l0_2=some r) :
  Calls Try.prog 31 #[.agg #[vI x0_0,vI x0_1,.slice A0_2 l0_2.length c0_2]] w0 (ps_twinExpr.Post w0 Z r):=by
 have hS:=St.start w0
 unfold ps_twinExpr.b at h
 refine calls_enter (n:=22) (args:=[.agg #[vI x0_0,vI x0_1,.slice A0_2 l0_2.length c0_2]]) (fn:=Try.f31) rfl rfl rfl rfl ?_
 show WE _ _ _ _ [(0,.agg #[vI x0_0,vI x0_1,.slice A0_2 l0_2.length c0_2])] _
 obtain ⟨ft1,wf1,hS1⟩:=hS.frz0
 refine ws fun K1 hK1=>wr [(0,1),(1,1)]<|gw (some 1) (.cells #[vI x0_0,vI x0_1,.slice A0_2 l0_2.length c0_2] 66) (fun b=>pP b 0) hS1 fun b1 w1 hx1 hS2=>?_
 refine gw (some 2) (.cells #[vI 0,vI 0,.slice none 0 0] 66) (fun b=>pP b 0) hS2 fun b2 w2 hx2 hS3=>?_
 refine gn hK1<|ws fun K2 hK2=>wr [(0,0)]<|gb0 [0] [(3,.slice none 0 0)]<|gn hK2<|ws fun K3 hK3=>ws fun K4 hK4=>wr [(0,0),(1,0),(2,0),(3,0)]<|gb [0,1,2,3] [(9,vI 0),(8,vI (l0_2.length:Int)),(7,.slice A0_2 l0_2.length c0_2),(6,pP b1 2)] [ld b1 2 (.slice A0_2 l0_2.length c0_2)] ⟨hS3.c 1,trivial⟩<|gn hK4<|we_block ?_
 have hS8:=((((hS3.nil (α:=HExpr) 66).b 3).b 1).b 3).b 3
 rcases hq2:iter (ps_twinExpr.r0 l0_2 rec_ps_twinExpr) K (([]:List SExpr),0) with _ | (m3 | rr1)
 ·rw [hq2] at h; cases h
 ·rw [hq2] at h
  simp only [] at h
  refine we_iter (A:=ps_twinExpr.A0 w0 Z x0_0 x0_1 l0_2 A0_2 c0_2 wf1 b1 b2) (B:=ps_twinExpr.B0 w0 Z x0_0 x0_1 l0_2 A0_2 c0_2 wf1 b1 b2) hq2 (fun a hF=>⟨ft1,wf1,(.slice none 0 0),([]:List HExpr),(Sub.refl _),(DRows.nil _),hS8,hF.weaken ea⟩) (fun s o hf a w hA Q hQ=>ps_twinExpr_r0 K w0 Z x0_0 x0_1 l0_2 A0_2 c0_2 hZ hR0_2 hL0_2 rec_ps_twinExpr hr_ps_twinExpr ft1 wf1 b1 b2 s o hf a w hA Q hQ) ?_
  rintro _ a w8 _ ⟨rfl,ft6,wf6,v4,hds3,hRz1,hRz2,hS29,hF⟩
  replace hS29:St w0 w8 [bk b2 #[vI 0,vI 0,.slice none 0 0] 66,bk b1 #[vI x0_0,vI x0_1,.slice A0_2 l0_2.length c0_2] 66,Own.of v4 66 hds3,Own.frz ft6 wf6]:=hS29
  refine hK3 [(1,pP b1 0),(2,pP b2 0),(3,v4)] w8 ?_ a hF
  refine ws fun K9 hK9=>wr [(0,0),(1,0),(2,2)]<|gb0 [0,1] [(20,pP b1 2),(19,v4)] ?_
  obtain ⟨Z1,cz1,rfl⟩:=hS29.dopen 2 rfl hRz2
  have hS31:=(hS29.b 3).b 3
  obtain ⟨ft7,wf7,hsb5,-,hRd1,hLd1,hS32⟩:=hS31.dfrz (Z:=Z) hRz2
  have hS33:=hS32.b 2
  refine gs b1 2 #[vI x0_0,vI x0_1,.slice A0_2 l0_2.length c0_2] 66 [.slice Z1 m3.length cz1] hS33 fun w9 hS34=>?_
  have hS35:=hS34.nc #[vI x0_0,vI x0_1,.slice Z1 m3.length cz1] (by kernel_rfl)
  refine gn hK9<|ws fun K10 hK10=>wr [(0,0),(1,2)]<|gb [0] [(21,.agg #[vI x0_0,vI x0_1,.slice Z1 m3.length cz1])] [ld b1 0 (vI x0_0),ld b1 1 (vI x0_1),ld b1 2 (.slice Z1 m3.length cz1)] ⟨hS35.c 0,hS35.c 0,hS35.c 0,trivial⟩ ?_
  have hS36:=hS35.b 2
  refine gs b2 0 #[vI 0,vI 0,.slice none 0 0] 66 [vI x0_0,vI x0_1,.slice Z1 m3.length cz1] hS36 fun w10 hS37=>?_
  have hS38:=hS37.nc #[vI x0_0,vI x0_1,.slice Z1 m3.length cz1] (by kernel_rfl)
  refine gn hK10 ?_
  have hS40:=hS38.p [2] rfl
  obtain rfl:=si h
  exact we_ret (pr [.cell 2 66] [.agg #[vI x0_0,vI x0_1,.slice Z1 m3.length cz1]] [ld b2 0 (vI x0_0),ld b2 1 (vI x0_1),ld b2 2 (.slice Z1 m3.length cz1)] ⟨hS38.c 0,hS38.c 0,hS38.c 0,trivial⟩ ⟨Z1,cz1,ft7,wf7,rfl,hLd1,hRd1,hS40⟩)
 rw [hq2] at h
 simp only [] at h
 refine we_iter (A:=ps_twinExpr.A0 w0 Z x0_0 x0_1 l0_2 A0_2 c0_2 wf1 b1 b2) (B:=ps_twinExpr.B0 w0 Z x0_0 x0_1 l0_2 A0_2 c0_2 wf1 b1 b2) hq2 (fun a hF=>⟨ft1,wf1,(.slice none 0 0),([]:List HExpr),(Sub.refl _),(DRows.nil _),hS8,hF.weaken ea⟩) (fun s o hf a w hA Q hQ=>ps_twinExpr_r0 K w0 Z x0_0 x0_1 l0_2 A0_2 c0_2 hZ hR0_2 hL0_2 rec_ps_twinExpr hr_ps_twinExpr ft1 wf1 b1 b2 s o hf a w hA Q hQ) ?_
 rintro _ a w1 _ ⟨rfl,hb⟩
 obtain rfl:=si h
 exact hb
def ps_twinExpr.recs (K : Nat) : Nat → (Int → Int → (List SExpr) → Option SExpr)
 | 0=>fun _ _ _=>none
 | n+1=>ps_twinExpr.b K (ps_twinExpr.recs K n)
theorem ps_twinExpr_all (K n:Nat):ps_twinExpr.Rec (ps_twinExpr.recs K n):=by
 induction n with
 | zero=>exact (by unfold ps_twinExpr.Rec; intros; rename_i h; cases (show none=some _ from h))
 | succ n ih=>exact ps_twinExpr_step K _ ih
def ps_twinExpr.f (K : Nat) (x0_0 : Int) (x0_1 : Int) (l0_2 : List SExpr) : Option SExpr := (ps_twinExpr.recs K K) x0_0 x0_1 l0_2
theorem ps_twinExpr_ok (K:Nat) (Z:Zone) (x0_0 x0_1:Int) (l0_2:List SExpr) (A0_2:OA) (c0_2:Nat) (w0:World) (hZ:∀ w,Sub w0 w→Z w) (hR0_2:RdZ Z A0_2 l0_2) (hL0_2:l0_2.length≤c0_2) (r:SExpr) (h:ps_twinExpr.f K x0_0 x0_1 l0_2=some r):Calls Try.prog 31 #[.agg #[vI x0_0,vI x0_1,.slice A0_2 l0_2.length c0_2]] w0 (ps_twinExpr.Post w0 Z r):=(ps_twinExpr_all K K) Z x0_0 x0_1 l0_2 A0_2 c0_2 w0 hZ hR0_2 hL0_2 r h

/-! punctual/punctualsame.Twin -/
abbrev ps_Twin.Post (w0:World) (Z:Zone) (r:List SStmt) (e:Ending) (w:World):Prop:=∃ (v1:Value) (hds1:List HStmt) (ft:List Nat) (wf:World),e=.returned (v1)∧DRows (Zand Z wf) hds1 r∧St w0 w [Own.of v1 70 hds1,Own.frz ft wf]
abbrev ps_Twin.Rec (rec_ps_Twin:(List SStmt)→Option (List SStmt)):Prop:=∀ (Z:Zone) (l0:List SStmt) (A0:OA) (c0:Nat) (w0:World) (hZ:∀ w,Sub w0 w→Z w) (hR0:RdZ Z A0 l0) (hL0:l0.length≤c0) (r:List SStmt) (h:rec_ps_Twin l0=some r),Calls Try.prog 9 #[.slice A0 l0.length c0] w0 (ps_Twin.Post w0 Z r)
def ps_Twin.p1 (K : Nat) (e1 : SStmt) : Option ((Int × Int × (List SExpr) × Int × Int × (List SExpr) × Int × Int × (List SExpr)) ⊕ (List SStmt)) :=
  match ps_twinExpr.f K e1.E.Kind e1.E.N e1.E.A with
  | none=>none
  | some r1 =>
   match ps_twinExpr.f K e1.If.A.Kind e1.If.A.N e1.If.A.A with
   | none=>none
   | some r2 =>
    match ps_twinExpr.f K e1.If.B.Kind e1.If.B.N e1.If.B.A with
    | none=>none
    | some r3 =>
     some (.inl (r1.Kind,r1.N,r1.A,r2.Kind,r2.N,r2.A,r3.Kind,r3.N,r3.A))
def ps_Twin.r0 (K : Nat) (l0 : List SStmt) (rec_ps_Twin : (List SStmt) → Option (List SStmt)) : (List SStmt) × Nat → Option (((List SStmt) × Nat) ⊕ ((List SStmt) ⊕ (List SStmt)))
 | (m1,i1) =>
  if (i1:Int)<(l0.length:Int) then
   match l0[i1]? with
   | none=>none
   | some e1 =>
    match ps_Twin.p1 K e1 with
    | none=>none
    | some (.inl (z7,z8,m6,z9,z10,m7,z11,z12,m8)) =>
     match rec_ps_Twin e1.Body with
     | none=>none
     | some r4 =>
      match rec_ps_Twin e1.Else with
      | none=>none
      | some r5 =>
       if m1.length<733007751850 then
        some (.inl ((m1++[(⟨e1.Kind,e1.N,(⟨z7,z8,m6⟩:SExpr),(⟨e1.If.Kind,(⟨z9,z10,m7⟩:SExpr),(⟨z11,z12,m8⟩:SExpr)⟩:SCond),r4,r5⟩:SStmt)]),(i1+1)))
       else
        none
    | some (.inr rr1) =>
     some (.inr (.inr rr1))
  else
   some (.inr (.inl m1))
def ps_Twin.b (K : Nat) (rec_ps_Twin : (List SStmt) → Option (List SStmt)) (l0 : List SStmt) : Option (List SStmt) :=
 match iter (ps_Twin.r0 K l0 rec_ps_Twin) K (([]:List SStmt),0) with
 | none=>none
 | some (.inl m9) =>
  some m9
 | some (.inr rr2) =>
  some rr2
abbrev ps_Twin.A1 (w0:World) (Z:Zone) (l0:List SStmt) (A0:OA) (c0:Nat) (wf2:World) (v1:Value) (hds1:List HStmt) (i1:Nat) (e1:SStmt) (An4:OA) (cn4:Nat) (An5:OA) (cn5 b1:Nat):(Int×Int×(List SExpr)×Int×Int×(List SExpr)×Int×Int×(List SExpr))→Act→World→Prop:=fun (s:Int×Int×(List SExpr)×Int×Int×(List SExpr)×Int×Int×(List SExpr)) a w=>∃ (ft4:List Nat) (wf4:World) (Z1:OA) (cz1:Nat) (Z2:OA) (cz2:Nat) (Z3:OA) (cz3:Nat),Sub wf2 wf4∧RdZ (Zand Z wf4) Z1 s.2.2.1∧s.2.2.1.length≤cz1∧RdZ (Zand Z wf4) Z2 s.2.2.2.2.2.1∧s.2.2.2.2.2.1.length≤cz2∧RdZ (Zand Z wf4) Z3 s.2.2.2.2.2.2.2.2∧s.2.2.2.2.2.2.2.2.length≤cz3∧St w0 w [bk b1 #[vI e1.Kind,vI e1.N,vI s.1,vI s.2.1,.slice Z1 s.2.2.1.length cz1,vI e1.If.Kind,vI s.2.2.2.1,vI s.2.2.2.2.1,.slice Z2 s.2.2.2.2.2.1.length cz2,vI s.2.2.2.2.2.2.1,vI s.2.2.2.2.2.2.2.1,.slice Z3 s.2.2.2.2.2.2.2.2.length cz3,.slice An4 e1.Body.length cn4,.slice An5 e1.Else.length cn5] 70,Own.of v1 70 hds1,Own.frz ft4 wf4]∧Frm 42 a [(3,v1),(5,pP b1 0),(6,.slice A0 l0.length c0),(7,vI (l0.length:Int)),(8,vI (i1:Int))]
abbrev ps_Twin.B1 (w0:World) (Z:Zone):(List SStmt)→Exit→Act→World→Prop:=Rets Try.prog Try.f9 (ps_Twin.Post w0 Z)
theorem ps_Twin_p1 (K:Nat) (w0:World) (Z:Zone) (l0:List SStmt) (A0:OA) (c0:Nat) (hZ:∀ w,Sub w0 w→Z w) (hR0:RdZ Z A0 l0) (hL0:l0.length≤c0) (rec_ps_Twin:(List SStmt)→Option (List SStmt)) (hr_ps_Twin:ps_Twin.Rec rec_ps_Twin) (ft1:List Nat) (wf1:World) (ft2:List Nat) (wf2:World) (m1:List SStmt) (v1:Value) (hds1:List HStmt) (i1:Nat) (hsb1:Sub wf1 wf2) (hd1:DRows (Zand Z wf2) hds1 m1) (hc1:(i1:Int)<(l0.length:Int)) (e1:SStmt) (hx1:l0[i1]?=some e1) (An1:OA) (cn1:Nat) (An2:OA) (cn2:Nat) (An3:OA) (cn3:Nat) (An4:OA) (cn4:Nat) (An5:OA) (cn5:Nat) (hCs1:CellsAt Z A0 (i1*14) [vI e1.Kind,vI e1.N,vI e1.E.Kind,vI e1.E.N,.slice An1 e1.E.A.length cn1,vI e1.If.Kind,vI e1.If.A.Kind,vI e1.If.A.N,.slice An2 e1.If.A.A.length cn2,vI e1.If.B.Kind,vI e1.If.B.N,.slice An3 e1.If.B.A.length cn3,.slice An4 e1.Body.length cn4,.slice An5 e1.Else.length cn5]) (hLn1:e1.E.A.length≤cn1) (hRn1:RdZ Z An1 e1.E.A) (hLn2:e1.If.A.A.length≤cn2) (hRn2:RdZ Z An2 e1.If.A.A) (hLn3:e1.If.B.A.length≤cn3) (hRn3:RdZ Z An3 e1.If.B.A) (hLn4:e1.Body.length≤cn4) (hRn4:RdZ Z An4 e1.Body) (hLn5:e1.Else.length≤cn5) (hRn5:RdZ Z An5 e1.Else) (b1:Nat) (o:(Int×Int×(List SExpr)×Int×Int×(List SExpr)×Int×Int×(List SExpr)) ⊕ (List SStmt)) (h:ps_Twin.p1 K e1=some o) (w:World) (hS:St w0 w [bk b1 #[vI e1.Kind,vI e1.N,vI e1.E.Kind,vI e1.E.N,.slice An1 e1.E.A.length cn1,vI e1.If.Kind,vI e1.If.A.Kind,vI e1.If.A.N,.slice An2 e1.If.A.A.length cn2,vI e1.If.B.Kind,vI e1.If.B.N,.slice An3 e1.If.B.A.length cn3,.slice An4 e1.Body.length cn4,.slice An5 e1.Else.length cn5] 70,Own.of v1 70 hds1,Own.frz ft2 wf2]) (Q:Exit→Act→World→Prop) (hQ:∀ x a w,Outs (ps_Twin.A1 w0 Z l0 A0 c0 wf2 v1 hds1 i1 e1 An4 cn4 An5 cn5 b1) (ps_Twin.B1 w0 Z) o x a w→Q x a w):WE Try.prog 42 (subF Try.f9 [1,1,0,1,0,0,1,1,0,0,1,0]) Q [(3,v1),(5,pP b1 0),(6,.slice A0 l0.length c0),(7,vI (l0.length:Int)),(8,vI (i1:Int)),(9,.bool true),(10,.pointer (some ⟨blkOf A0,offOf A0+i1*14,none⟩)),(11,.agg #[vI e1.Kind,vI e1.N,vI e1.E.Kind,vI e1.E.N,.slice An1 e1.E.A.length cn1,vI e1.If.Kind,vI e1.If.A.Kind,vI e1.If.A.N,.slice An2 e1.If.A.A.length cn2,vI e1.If.B.Kind,vI e1.If.B.N,.slice An3 e1.If.B.A.length cn3,.slice An4 e1.Body.length cn4,.slice An5 e1.Else.length cn5])] w:=by
 simp only [ps_Twin.p1] at h
 refine we_orders3 (by kernel_rfl) [(1,[⟨b1,2,none⟩,⟨b1,3,none⟩,⟨b1,4,none⟩],[2,6,10],[]),(5,[⟨b1,6,none⟩,⟨b1,7,none⟩,⟨b1,8,none⟩],[6,10],[]),(9,[⟨b1,9,none⟩,⟨b1,10,none⟩,⟨b1,11,none⟩],[],[])] (.vals [0] (.vals [1] (.vals [3] (.vals [4] (.vals [5] (.vals [7] (.vals [8] (.vals [9] (.alt 2 1 (.vals [11] (.alt 6 1 (.alt 10 1 (.alt 12 2 (.vals [13] (.vals [14] (.alt 15 2 (.vals [16] (.vals [17] (.alt 18 2 .fin .nomore))) .nomore))) .nomore) .nomore) .nomore)) .nomore))))))))) (by kernel_rfl) (by kernel_rfl) ?_
 have hS8:=hS.drew
 refine g30 [0] [(12,pP b1 2)]<|g3 1 [(13,.agg #[vI e1.E.Kind,vI e1.E.N,.slice An1 e1.E.A.length cn1])] [ld b1 2 (vI e1.E.Kind),ld b1 3 (vI e1.E.N),ld b1 4 (.slice An1 e1.E.A.length cn1)] ⟨hS8.c 0,hS8.c 0,hS8.c 0,trivial⟩<|g30 [3,4] [(16,pP b1 6),(15,pP b1 5)]<|g3 5 [(17,.agg #[vI e1.If.A.Kind,vI e1.If.A.N,.slice An2 e1.If.A.A.length cn2])] [ld b1 6 (vI e1.If.A.Kind),ld b1 7 (vI e1.If.A.N),ld b1 8 (.slice An2 e1.If.A.A.length cn2)] ⟨hS8.c 0,hS8.c 0,hS8.c 0,trivial⟩<|g30 [7,8] [(20,pP b1 9),(19,pP b1 5)]<|g3 9 [(21,.agg #[vI e1.If.B.Kind,vI e1.If.B.N,.slice An3 e1.If.B.A.length cn3])] [ld b1 9 (vI e1.If.B.Kind),ld b1 10 (vI e1.If.B.N),ld b1 11 (.slice An3 e1.If.B.A.length cn3)] ⟨hS8.c 0,hS8.c 0,hS8.c 0,trivial⟩<|go_alt3 (fun KK hKK=>?_) ?_
 ·refine ge_one2 ?_
  rcases hq1:ps_twinExpr.f K e1.E.Kind e1.E.N e1.E.A with _ | r1
  ·rw [hq1] at h; cases h
  rw [hq1] at h
  simp only [] at h
  refine ge_call (d:=some 14) (f:=31) (args:=#[.agg #[vI e1.E.Kind,vI e1.E.N,.slice An1 e1.E.A.length cn1]]) (by kernel_rfl) (ps_twinExpr_ok K (Zand Z wf2) e1.E.Kind e1.E.N e1.E.A An1 cn1 _ (fun w' k=>⟨(hZ w' (hS8.subw.trans k)),(hS8.frzSub 2 rfl).trans k⟩) (hRn1.up (ZLe.in _ _)) hLn1 _ hq1) ?_
  rintro _ w3 ⟨A1,c1,ft5,wf5,rfl,hL1,hR1,hS9⟩
  refine ⟨_,rfl,hS9.below,?_⟩
  have hS12:=((hS8.call hS9).b 3).b 1
  obtain ⟨ft6,wf6,hsb4,hsb5,hS13⟩:=hS12.frzMerge
  replace hR1:RdZ (Zand Z wf6) A1 r1.A:=hR1.up (ZLe.both hsb5 hsb4)
  refine ge_nil fun a hF=>hKK _ _ (RS.of2 (l:=[ld b1 6 (vI e1.If.A.Kind),ld b1 7 (vI e1.If.A.N),ld b1 8 (.slice An2 e1.If.A.A.length cn2),ld b1 9 (vI e1.If.B.Kind),ld b1 10 (vI e1.If.B.N),ld b1 11 (.slice An3 e1.If.B.A.length cn3)]) (by kernel_rfl) ⟨hS8.c 0,hS8.c 0,hS8.c 0,hS8.c 0,hS8.c 0,hS8.c 0,trivial⟩ ⟨hS13.c 1,hS13.c 1,hS13.c 1,hS13.c 1,hS13.c 1,hS13.c 1,trivial⟩) ?_ a hF
  refine g30 [11] [(23,pP b1 2)]<|go_alt3 (fun KK hKK=>?_) ?_
  ·refine ge_one2 ?_
   rcases hq2:ps_twinExpr.f K e1.If.A.Kind e1.If.A.N e1.If.A.A with _ | r2
   ·rw [hq2] at h; cases h
   rw [hq2] at h
   simp only [] at h
   refine ge_call (d:=some 18) (f:=31) (args:=#[.agg #[vI e1.If.A.Kind,vI e1.If.A.N,.slice An2 e1.If.A.A.length cn2]]) (by kernel_rfl) (ps_twinExpr_ok K (Zand Z wf6) e1.If.A.Kind e1.If.A.N e1.If.A.A An2 cn2 _ (fun w' k=>⟨(hZ w' (hS13.subw.trans k)),(hS13.frzSub 0 rfl).trans k⟩) (hRn2.up (ZLe.in _ _)) hLn2 _ hq2) ?_
   rintro _ w4 ⟨A2,c2,ft7,wf7,rfl,hL2,hR2,hS14⟩
   refine ⟨_,rfl,hS14.below,?_⟩
   have hS17:=((hS13.call hS14).b 1).b 1
   obtain ⟨ft8,wf8,hsb6,hsb7,hS18⟩:=hS17.frzMerge
   replace hR2:RdZ (Zand Z wf8) A2 r2.A:=hR2.up (ZLe.both hsb7 hsb6)
   refine ge_nil fun a hF=>hKK _ _ (RS.of2 (l:=[ld b1 9 (vI e1.If.B.Kind),ld b1 10 (vI e1.If.B.N),ld b1 11 (.slice An3 e1.If.B.A.length cn3)]) (by kernel_rfl) ⟨hS13.c 1,hS13.c 1,hS13.c 1,trivial⟩ ⟨hS18.c 1,hS18.c 1,hS18.c 1,trivial⟩) ?_ a hF
   refine go_alt3 (fun KK hKK=>?_) ?_
   ·refine ge_one2 ?_
    rcases hq3:ps_twinExpr.f K e1.If.B.Kind e1.If.B.N e1.If.B.A with _ | r3
    ·rw [hq3] at h; cases h
    rw [hq3] at h
    simp only [] at h
    refine ge_call (d:=some 22) (f:=31) (args:=#[.agg #[vI e1.If.B.Kind,vI e1.If.B.N,.slice An3 e1.If.B.A.length cn3]]) (by kernel_rfl) (ps_twinExpr_ok K (Zand Z wf8) e1.If.B.Kind e1.If.B.N e1.If.B.A An3 cn3 _ (fun w' k=>⟨(hZ w' (hS18.subw.trans k)),(hS18.frzSub 0 rfl).trans k⟩) (hRn3.up (ZLe.in _ _)) hLn3 _ hq3) ?_
    rintro _ w5 ⟨A3,c3,ft9,wf9,rfl,hL3,hR3,hS19⟩
    refine ⟨_,rfl,hS19.below,?_⟩
    have hS22:=((hS18.call hS19).b 1).b 1
    obtain ⟨ft10,wf10,hsb8,hsb9,hS23⟩:=hS22.frzMerge
    replace hR3:RdZ (Zand Z wf10) A3 r3.A:=hR3.up (ZLe.both hsb9 hsb8)
    refine g2 hKK<|go_alt3 (fun KK hKK=>?_) ?_
    ·have hS24:=hS23.b 1
     refine gs b1 2 #[vI e1.Kind,vI e1.N,vI e1.E.Kind,vI e1.E.N,.slice An1 e1.E.A.length cn1,vI e1.If.Kind,vI e1.If.A.Kind,vI e1.If.A.N,.slice An2 e1.If.A.A.length cn2,vI e1.If.B.Kind,vI e1.If.B.N,.slice An3 e1.If.B.A.length cn3,.slice An4 e1.Body.length cn4,.slice An5 e1.Else.length cn5] 70 [vI r1.Kind,vI r1.N,.slice A1 r1.A.length c1] hS24 fun w6 hS25=>?_
     have hS26:=hS25.nc #[vI e1.Kind,vI e1.N,vI r1.Kind,vI r1.N,.slice A1 r1.A.length c1,vI e1.If.Kind,vI e1.If.A.Kind,vI e1.If.A.N,.slice An2 e1.If.A.A.length cn2,vI e1.If.B.Kind,vI e1.If.B.N,.slice An3 e1.If.B.A.length cn3,.slice An4 e1.Body.length cn4,.slice An5 e1.Else.length cn5] (by kernel_rfl)
     refine g2 hKK<|g30 [13,14] [(25,pP b1 6),(24,pP b1 5)]<|go_alt3 (fun KK hKK=>?_) ?_
     ·refine gs b1 6 #[vI e1.Kind,vI e1.N,vI r1.Kind,vI r1.N,.slice A1 r1.A.length c1,vI e1.If.Kind,vI e1.If.A.Kind,vI e1.If.A.N,.slice An2 e1.If.A.A.length cn2,vI e1.If.B.Kind,vI e1.If.B.N,.slice An3 e1.If.B.A.length cn3,.slice An4 e1.Body.length cn4,.slice An5 e1.Else.length cn5] 70 [vI r2.Kind,vI r2.N,.slice A2 r2.A.length c2] hS26 fun w7 hS27=>?_
      have hS28:=hS27.nc #[vI e1.Kind,vI e1.N,vI r1.Kind,vI r1.N,.slice A1 r1.A.length c1,vI e1.If.Kind,vI r2.Kind,vI r2.N,.slice A2 r2.A.length c2,vI e1.If.B.Kind,vI e1.If.B.N,.slice An3 e1.If.B.A.length cn3,.slice An4 e1.Body.length cn4,.slice An5 e1.Else.length cn5] (by kernel_rfl)
      refine g2 hKK<|g30 [16,17] [(27,pP b1 9),(26,pP b1 5)]<|go_alt3 (fun KK hKK=>?_) ?_
      ·refine gs b1 9 #[vI e1.Kind,vI e1.N,vI r1.Kind,vI r1.N,.slice A1 r1.A.length c1,vI e1.If.Kind,vI r2.Kind,vI r2.N,.slice A2 r2.A.length c2,vI e1.If.B.Kind,vI e1.If.B.N,.slice An3 e1.If.B.A.length cn3,.slice An4 e1.Body.length cn4,.slice An5 e1.Else.length cn5] 70 [vI r3.Kind,vI r3.N,.slice A3 r3.A.length c3] hS28 fun w8 hS29=>?_
       have hS30:=hS29.nc #[vI e1.Kind,vI e1.N,vI r1.Kind,vI r1.N,.slice A1 r1.A.length c1,vI e1.If.Kind,vI r2.Kind,vI r2.N,.slice A2 r2.A.length c2,vI r3.Kind,vI r3.N,.slice A3 r3.A.length c3,.slice An4 e1.Body.length cn4,.slice An5 e1.Else.length cn5] (by kernel_rfl)
       refine g2 hKK ?_
       have hS33:=((hS30.b 1).b 2).b 2
       obtain rfl:=si h
       exact go_fin3 fun a hF=>hQ _ _ _ (Outs.again ⟨ft10,wf10,A1,c1,A2,c2,A3,c3,((hsb5.trans hsb7).trans hsb9),(hR1.up (ZLe.up (hsb7.trans hsb9))),hL1,(hR2.up (ZLe.up hsb9)),hL2,hR3,hL3,hS33,hF.weaken ea⟩)
      exact go_nomore3
     exact go_nomore3
    exact go_nomore3
   exact go_nomore3
  exact go_nomore3
 exact go_nomore3
abbrev ps_Twin.A0 (w0:World) (Z:Zone) (l0:List SStmt) (A0:OA) (c0:Nat) (wf1:World):((List SStmt)×Nat)→Act→World→Prop:=fun (s:(List SStmt)×Nat) a w=>∃ (ft2:List Nat) (wf2:World) (v1:Value) (hds1:List HStmt),Sub wf1 wf2∧DRows (Zand Z wf2) hds1 s.1∧St w0 w [Own.of v1 70 hds1,Own.frz ft2 wf2]∧Frm 42 a [(3,v1),(6,.slice A0 l0.length c0),(7,vI (l0.length:Int)),(8,vI (s.2:Int))]
abbrev ps_Twin.B0 (w0:World) (Z:Zone) (wf1:World):((List SStmt) ⊕ (List SStmt))→Exit→Act→World→Prop:=Exits 0 (fun (s:(List SStmt)) a w=>∃ (ft3:List Nat) (wf3:World) (v2:Value) (hds2:List HStmt),Sub wf1 wf3∧DRows (Zand Z wf3) hds2 s∧St w0 w [Own.of v2 70 hds2,Own.frz ft3 wf3]∧Frm 42 a [(3,v2)]) (Rets Try.prog Try.f9 (ps_Twin.Post w0 Z))
theorem ps_Twin_r0 (K:Nat) (w0:World) (Z:Zone) (l0:List SStmt) (A0:OA) (c0:Nat) (hZ:∀ w,Sub w0 w→Z w) (hR0:RdZ Z A0 l0) (hL0:l0.length≤c0) (rec_ps_Twin:(List SStmt)→Option (List SStmt)) (hr_ps_Twin:ps_Twin.Rec rec_ps_Twin) (ft1:List Nat) (wf1:World) (s:(List SStmt)×Nat) (o:((List SStmt)×Nat) ⊕ ((List SStmt) ⊕ (List SStmt))) (h:ps_Twin.r0 K l0 rec_ps_Twin s=some o) (a:Act) (w:World) (hA:ps_Twin.A0 w0 Z l0 A0 c0 wf1 s a w) (Q:Exit→Act→World→Prop) (hQ:∀ x a w,Outs (ps_Twin.A0 w0 Z l0 A0 c0 wf1) (ps_Twin.B0 w0 Z wf1) o x a w→Q x a w):(subF Try.f9 [1,1,0,1,0,0]).wp Try.prog Q a w:=by
 obtain ⟨m1,i1⟩:=s
 obtain ⟨ft2,wf2,v1,hds1,hsb1,hd1,hS,hF⟩:=hA
 replace hS:St w0 w [Own.of v1 70 hds1,Own.frz ft2 wf2]:=hS
 simp only [ps_Twin.r0] at h
 refine (?_:WE Try.prog 42 (subF Try.f9 [1,1,0,1,0,0]) Q [(3,v1),(6,.slice A0 l0.length c0),(7,vI (l0.length:Int)),(8,vI (i1:Int))] w) a hF
 clear hF a
 refine ws fun K5 hK5=>wr [(0,0)]<|gb0 [0] [(9,.bool (decide ((i1:Int)<(l0.length:Int))))]<|gn hK5<|ws fun K6 hK6=>?_
 by_cases hc1:(i1:Int)<(l0.length:Int)
 ·rw [if_pos hc1] at h
  refine wk 9 (decide ((i1:Int)<(l0.length:Int))) true (decide_eq_true hc1)<|wt<|we_skip fun a hF=>hK6 _ _ ?_ a hF
  refine ws fun K7 hK7=>we_block<|ws fun K8 hK8=>wr [(0,0),(1,0),(2,1),(3,2)] ?_
  rcases hx1:l0[i1]? with _ | e1
  ·rw [hx1] at h; cases h
  rw [hx1] at h
  simp only [] at h
  obtain ⟨An1,cn1,An2,cn2,An3,cn3,An4,cn4,An5,cn5,hCs1,hLn1,hRn1,hLn2,hRn2,hLn3,hRn3,hLn4,hRn4,hLn5,hRn5⟩:=SStmt.getZ hR0 hx1
  refine gi 10 0 22 70 14 l0.length c0 (.tmp 6) (.tmp 8) A0 .i64 (i1:Int) i1 (hR0.eqSome (hZ _ hS.subw) (pos_of_get hx1)) rfl (lt_of_get hx1) ?_
  refine gb [1] [(11,.agg #[vI e1.Kind,vI e1.N,vI e1.E.Kind,vI e1.E.N,.slice An1 e1.E.A.length cn1,vI e1.If.Kind,vI e1.If.A.Kind,vI e1.If.A.N,.slice An2 e1.If.A.A.length cn2,vI e1.If.B.Kind,vI e1.If.B.N,.slice An3 e1.If.B.A.length cn3,.slice An4 e1.Body.length cn4,.slice An5 e1.Else.length cn5])] [.loaded ⟨blkOf A0,offOf A0+i1*14,none⟩ (vI e1.Kind),.loaded ⟨blkOf A0,offOf A0+i1*14+1,none⟩ (vI e1.N),.loaded ⟨blkOf A0,offOf A0+i1*14+2,none⟩ (vI e1.E.Kind),.loaded ⟨blkOf A0,offOf A0+i1*14+3,none⟩ (vI e1.E.N),.loaded ⟨blkOf A0,offOf A0+i1*14+4,none⟩ (.slice An1 e1.E.A.length cn1),.loaded ⟨blkOf A0,offOf A0+i1*14+5,none⟩ (vI e1.If.Kind),.loaded ⟨blkOf A0,offOf A0+i1*14+6,none⟩ (vI e1.If.A.Kind),.loaded ⟨blkOf A0,offOf A0+i1*14+7,none⟩ (vI e1.If.A.N),.loaded ⟨blkOf A0,offOf A0+i1*14+8,none⟩ (.slice An2 e1.If.A.A.length cn2),.loaded ⟨blkOf A0,offOf A0+i1*14+9,none⟩ (vI e1.If.B.Kind),.loaded ⟨blkOf A0,offOf A0+i1*14+10,none⟩ (vI e1.If.B.N),.loaded ⟨blkOf A0,offOf A0+i1*14+11,none⟩ (.slice An3 e1.If.B.A.length cn3),.loaded ⟨blkOf A0,offOf A0+i1*14+12,none⟩ (.slice An4 e1.Body.length cn4),.loaded ⟨blkOf A0,offOf A0+i1*14+13,none⟩ (.slice An5 e1.Else.length cn5)] ⟨hCs1 _ (hZ _ hS.subw) 0 _ rfl,hCs1 _ (hZ _ hS.subw) 1 _ rfl,hCs1 _ (hZ _ hS.subw) 2 _ rfl,hCs1 _ (hZ _ hS.subw) 3 _ rfl,hCs1 _ (hZ _ hS.subw) 4 _ rfl,hCs1 _ (hZ _ hS.subw) 5 _ rfl,hCs1 _ (hZ _ hS.subw) 6 _ rfl,hCs1 _ (hZ _ hS.subw) 7 _ rfl,hCs1 _ (hZ _ hS.subw) 8 _ rfl,hCs1 _ (hZ _ hS.subw) 9 _ rfl,hCs1 _ (hZ _ hS.subw) 10 _ rfl,hCs1 _ (hZ _ hS.subw) 11 _ rfl,hCs1 _ (hZ _ hS.subw) 12 _ rfl,hCs1 _ (hZ _ hS.subw) 13 _ rfl,trivial⟩<|gw (some 5) (.cells #[vI 0,vI 0,vI 0,vI 0,.slice none 0 0,vI 0,vI 0,vI 0,.slice none 0 0,vI 0,vI 0,.slice none 0 0,.slice none 0 0,.slice none 0 0] 70) (fun b=>pP b 0) hS fun b1 w1 hx2 hS5=>?_
  refine gs b1 0 #[vI 0,vI 0,vI 0,vI 0,.slice none 0 0,vI 0,vI 0,vI 0,.slice none 0 0,vI 0,vI 0,.slice none 0 0,.slice none 0 0,.slice none 0 0] 70 [vI e1.Kind,vI e1.N,vI e1.E.Kind,vI e1.E.N,.slice An1 e1.E.A.length cn1,vI e1.If.Kind,vI e1.If.A.Kind,vI e1.If.A.N,.slice An2 e1.If.A.A.length cn2,vI e1.If.B.Kind,vI e1.If.B.N,.slice An3 e1.If.B.A.length cn3,.slice An4 e1.Body.length cn4,.slice An5 e1.Else.length cn5] hS5 fun w2 hS6=>?_
  have hS7:=hS6.nc #[vI e1.Kind,vI e1.N,vI e1.E.Kind,vI e1.E.N,.slice An1 e1.E.A.length cn1,vI e1.If.Kind,vI e1.If.A.Kind,vI e1.If.A.N,.slice An2 e1.If.A.A.length cn2,vI e1.If.B.Kind,vI e1.If.B.N,.slice An3 e1.If.B.A.length cn3,.slice An4 e1.Body.length cn4,.slice An5 e1.Else.length cn5] (by kernel_rfl)
  refine gn hK8<|ws fun K9 hK9=>?_
  rcases hq4:ps_Twin.p1 K e1 with _ | (⟨z7,z8,m6,z9,z10,m7,z11,z12,m8⟩ | rr1)
  ·rw [hq4] at h; cases h
  ·rw [hq4] at h
   simp only [] at h
   refine kp (ps_Twin_p1 K w0 Z l0 A0 c0 hZ hR0 hL0 rec_ps_Twin hr_ps_Twin ft1 wf1 ft2 wf2 m1 v1 hds1 i1 hsb1 hd1 hc1 e1 hx1 An1 cn1 An2 cn2 An3 cn3 An4 cn4 An5 cn5 hCs1 hLn1 hRn1 hLn2 hRn2 hLn3 hRn3 hLn4 hRn4 hLn5 hRn5 b1 _ hq4 _ hS7 _ ?_)
   rintro _ a w9 ⟨rfl,ft11,wf11,Z4,cz4,Z5,cz5,Z6,cz6,hRz4,hRz5,hRz6,hRz7,hRz8,hRz9,hRz10,hS34,hF⟩
   replace hS34:St w0 w9 [bk b1 #[vI e1.Kind,vI e1.N,vI z7,vI z8,.slice Z4 m6.length cz4,vI e1.If.Kind,vI z9,vI z10,.slice Z5 m7.length cz5,vI z11,vI z12,.slice Z6 m8.length cz6,.slice An4 e1.Body.length cn4,.slice An5 e1.Else.length cn5] 70,Own.of v1 70 hds1,Own.frz ft11 wf11]:=hS34
   refine hK9 [(3,v1),(5,pP b1 0),(6,.slice A0 l0.length c0),(7,vI (l0.length:Int)),(8,vI (i1:Int))] w9 ?_ a hF
   refine ws fun K10 hK10=>we_draws (by kernel_rfl) [(0,0),(1,0),(3,0),(4,0),(2,1),(6,0),(5,1),(7,2),(8,0),(9,2)] (by kernel_rfl) ?_
   have hS35:=hS34.drew
   rcases hq5:rec_ps_Twin e1.Body with _ | r4
   ·rw [hq5] at h; cases h
   rw [hq5] at h
   simp only [] at h
   refine gb [0,1,3,4] [(32,.slice An5 e1.Else.length cn5),(31,pP b1 13),(29,.slice An4 e1.Body.length cn4),(28,pP b1 12)] [ld b1 12 (.slice An4 e1.Body.length cn4),ld b1 13 (.slice An5 e1.Else.length cn5)] ⟨hS35.c 0,hS35.c 0,trivial⟩<|ge_call (d:=some 30) (f:=9) (args:=#[.slice An4 e1.Body.length cn4]) (by kernel_rfl) (hr_ps_Twin (Zand Z wf11) e1.Body An4 cn4 _ (fun w' k=>⟨(hZ w' (hS35.subw.trans k)),(hS35.frzSub 2 rfl).trans k⟩) (hRn4.up (ZLe.in _ _)) hLn4 _ hq5) ?_
   rintro _ w10 ⟨v3,hds3,ft12,wf12,rfl,hd3,hS36⟩
   refine ⟨_,rfl,hS36.below,?_⟩
   have hS39:=((hS35.call hS36).b 4).b 2
   obtain ⟨ft13,wf13,hsb10,hsb11,hS40⟩:=hS39.frzMerge
   replace hd3:DRows (Zand Z wf13) hds3 r4:=hd3.up (ZLe.both hsb11 hsb10)
   rcases hq6:rec_ps_Twin e1.Else with _ | r5
   ·rw [hq6] at h; cases h
   rw [hq6] at h
   simp only [] at h
   refine gb0 [6] [(34,pP b1 12)]<|ge_call (d:=some 33) (f:=9) (args:=#[.slice An5 e1.Else.length cn5]) (by kernel_rfl) (hr_ps_Twin (Zand Z wf13) e1.Else An5 cn5 _ (fun w' k=>⟨(hZ w' (hS40.subw.trans k)),(hS40.frzSub 0 rfl).trans k⟩) (hRn5.up (ZLe.in _ _)) hLn5 _ hq6) ?_
   rintro _ w11 ⟨v4,hds4,ft14,wf14,rfl,hd4,hS41⟩
   refine ⟨_,rfl,hS41.below,?_⟩
   have hS44:=((hS40.call hS41).b 2).b 2
   obtain ⟨ft15,wf15,hsb12,hsb13,hS45⟩:=hS44.frzMerge
   replace hd4:DRows (Zand Z wf15) hds4 r5:=hd4.up (ZLe.both hsb13 hsb12)
   obtain ⟨Z7,cz7,rfl⟩:=hS45.dopen 2 rfl hd3
   have hS46:=hS45.b 2
   obtain ⟨ft16,wf16,hsb14,-,hRd1,hLd1,hS47⟩:=hS46.dfrz (Z:=Z) (hd3.up (ZLe.up hsb13))
   have hS48:=hS47.b 2
   refine gs b1 12 #[vI e1.Kind,vI e1.N,vI z7,vI z8,.slice Z4 m6.length cz4,vI e1.If.Kind,vI z9,vI z10,.slice Z5 m7.length cz5,vI z11,vI z12,.slice Z6 m8.length cz6,.slice An4 e1.Body.length cn4,.slice An5 e1.Else.length cn5] 70 [.slice Z7 r4.length cz7] hS48 fun w12 hS49=>?_
   have hS50:=hS49.nc #[vI e1.Kind,vI e1.N,vI z7,vI z8,.slice Z4 m6.length cz4,vI e1.If.Kind,vI z9,vI z10,.slice Z5 m7.length cz5,vI z11,vI z12,.slice Z6 m8.length cz6,.slice Z7 r4.length cz7,.slice An5 e1.Else.length cn5] (by kernel_rfl)
   refine gb0 [8] [(35,pP b1 13)] ?_
   obtain ⟨Z8,cz8,rfl⟩:=hS50.dopen 2 rfl hd4
   have hS52:=(hS50.b 1).b 2
   obtain ⟨ft17,wf17,hsb15,-,hRd2,hLd2,hS53⟩:=hS52.dfrz (Z:=Z) (hd4.up (ZLe.up hsb14))
   have hS54:=hS53.b 1
   refine gs b1 13 #[vI e1.Kind,vI e1.N,vI z7,vI z8,.slice Z4 m6.length cz4,vI e1.If.Kind,vI z9,vI z10,.slice Z5 m7.length cz5,vI z11,vI z12,.slice Z6 m8.length cz6,.slice Z7 r4.length cz7,.slice An5 e1.Else.length cn5] 70 [.slice Z8 r5.length cz8] hS54 fun w13 hS55=>?_
   have hS56:=hS55.nc #[vI e1.Kind,vI e1.N,vI z7,vI z8,.slice Z4 m6.length cz4,vI e1.If.Kind,vI z9,vI z10,.slice Z5 m7.length cz5,vI z11,vI z12,.slice Z6 m8.length cz6,.slice Z7 r4.length cz7,.slice Z8 r5.length cz8] (by kernel_rfl)
   refine gn hK10<|wr [(0,0),(1,0),(2,1),(3,2),(4,0)]<|gb [0,1] [(37,.agg #[vI e1.Kind,vI e1.N,vI z7,vI z8,.slice Z4 m6.length cz4,vI e1.If.Kind,vI z9,vI z10,.slice Z5 m7.length cz5,vI z11,vI z12,.slice Z6 m8.length cz6,.slice Z7 r4.length cz7,.slice Z8 r5.length cz8]),(36,v1)] [ld b1 0 (vI e1.Kind),ld b1 1 (vI e1.N),ld b1 2 (vI z7),ld b1 3 (vI z8),ld b1 4 (.slice Z4 m6.length cz4),ld b1 5 (vI e1.If.Kind),ld b1 6 (vI z9),ld b1 7 (vI z10),ld b1 8 (.slice Z5 m7.length cz5),ld b1 9 (vI z11),ld b1 10 (vI z12),ld b1 11 (.slice Z6 m8.length cz6),ld b1 12 (.slice Z7 r4.length cz7),ld b1 13 (.slice Z8 r5.length cz8)] ⟨hS56.c 0,hS56.c 0,hS56.c 0,hS56.c 0,hS56.c 0,hS56.c 0,hS56.c 0,hS56.c 0,hS56.c 0,hS56.c 0,hS56.c 0,hS56.c 0,hS56.c 0,hS56.c 0,trivial⟩<|gw (some 38) (.cells #[vI e1.Kind,vI e1.N,vI z7,vI z8,.slice Z4 m6.length cz4,vI e1.If.Kind,vI z9,vI z10,.slice Z5 m7.length cz5,vI z11,vI z12,.slice Z6 m8.length cz6,.slice Z7 r4.length cz7,.slice Z8 r5.length cz8] 70) (fun b=>.slice (some ⟨b,0,none⟩) 1 1) hS56 fun b2 w14 hx3 hS57=>?_
   have hS58:=hS57.b 3
   by_cases hc2:m1.length<733007751850
   ·rw [if_pos hc2] at h
    have hd5:DRows (Zand Z wf17) (hds1++[(⟨e1.Kind,e1.N,z7,z8,⟨Z4,m6.length,cz4⟩,e1.If.Kind,z9,z10,⟨Z5,m7.length,cz5⟩,z11,z12,⟨Z6,m8.length,cz6⟩,⟨Z7,r4.length,cz7⟩,⟨Z8,r5.length,cz8⟩⟩:HStmt)]) (m1++[(⟨e1.Kind,e1.N,(⟨z7,z8,m6⟩:SExpr),(⟨e1.If.Kind,(⟨z9,z10,m7⟩:SExpr),(⟨z11,z12,m8⟩:SExpr)⟩:SCond),r4,r5⟩:SStmt)]):=DRows.add (hd1.up (ZLe.up ((((hRz4.trans hsb11).trans hsb13).trans hsb14).trans hsb15))) (SStmt.mkZ (⟨e1.Kind,e1.N,(⟨z7,z8,m6⟩:SExpr),(⟨e1.If.Kind,(⟨z9,z10,m7⟩:SExpr),(⟨z11,z12,m8⟩:SExpr)⟩:SCond),r4,r5⟩:SStmt) hRz6 (hRz5.up (ZLe.up (((hsb11.trans hsb13).trans hsb14).trans hsb15))) hRz8 (hRz7.up (ZLe.up (((hsb11.trans hsb13).trans hsb14).trans hsb15))) hRz10 (hRz9.up (ZLe.up (((hsb11.trans hsb13).trans hsb14).trans hsb15))) hLd1 (hRd1.up (ZLe.up hsb15)) hLd2 hRd2)
    refine ge_append (α:=HStmt) (m:=0) (d:=39) (t:=22) (el:=70) (bytes:=192) (c1:=1) (b1:=b2) (x:=(.tmp 36)) (y:=(.tmp 38)) (ty:=22) (v:=v1) (z:=.agg #[vI 0,vI 0,vI 0,vI 0,.slice none 0 0,vI 0,vI 0,vI 0,.slice none 0 0,vI 0,vI 0,.slice none 0 0,.slice none 0 0,.slice none 0 0]) (l:=hds1) (u:=(⟨e1.Kind,e1.N,z7,z8,⟨Z4,m6.length,cz4⟩,e1.If.Kind,z9,z10,⟨Z5,m7.length,cz5⟩,z11,z12,⟨Z6,m8.length,cz6⟩,⟨Z7,r4.length,cz7⟩,⟨Z8,r5.length,cz8⟩⟩:HStmt)) (by kernel_rfl) (by kernel_rfl) (by kernel_rfl) (by kernel_rfl) (by kernel_rfl) rfl hS58 rfl (by have h0:hds1.length=m1.length:=DRows.len (hd1.up (ZLe.up ((((hRz4.trans hsb11).trans hsb13).trans hsb14).trans hsb15))); omega) fun v5 w15 hS59=>?_
    refine gb0 [4] [(3,v5)]<|gn hK7<|wr [(0,0),(1,0)]<|ge_addn (d:=40) (ty:=3) (x:=(.tmp 8)) (y:=(.const (vI 1))) (t:=3) (t2:=3) (k:=.i64) (m:=i1) (by kernel_rfl) (by kernel_rfl) (by kernel_rfl) (by have h0:=RdZ.small hR0 (hZ _ hS59.subw); omega) ?_
    refine gb0 [1] [(8,vI ((i1+1:Nat):Int))] ?_
    have hS62:=hS59.p [0,2] rfl
    obtain rfl:=si h
    exact ge_nil fun a hF=>hQ _ _ _ (Outs.again ⟨ft17,wf17,v5,(hds1++[(⟨e1.Kind,e1.N,z7,z8,⟨Z4,m6.length,cz4⟩,e1.If.Kind,z9,z10,⟨Z5,m7.length,cz5⟩,z11,z12,⟨Z6,m8.length,cz6⟩,⟨Z7,r4.length,cz7⟩,⟨Z8,r5.length,cz8⟩⟩:HStmt)]),(((((hsb1.trans hRz4).trans hsb11).trans hsb13).trans hsb14).trans hsb15),hd5,hS62,hF.weaken ea⟩)
   rw [if_neg hc2] at h
   cases h
  rw [hq4] at h
  simp only [] at h
  refine kp (ps_Twin_p1 K w0 Z l0 A0 c0 hZ hR0 hL0 rec_ps_Twin hr_ps_Twin ft1 wf1 ft2 wf2 m1 v1 hds1 i1 hsb1 hd1 hc1 e1 hx1 An1 cn1 An2 cn2 An3 cn3 An4 cn4 An5 cn5 hCs1 hLn1 hRn1 hLn2 hRn2 hLn3 hRn3 hLn4 hRn4 hLn5 hRn5 b1 _ hq4 _ hS7 _ ?_)
  rintro _ a w1 ⟨_,rfl,hb⟩
  obtain rfl:=si h
  exact hQ _ _ _ (Outs.out nofun (Exits.on ⟨rfl,hb⟩))
 rw [if_neg hc1] at h
 refine wk 9 (decide ((i1:Int)<(l0.length:Int))) false (decide_eq_false hc1)<|wf ?_
 have hS64:=(hS.b 1).b 1
 obtain rfl:=si h
 exact we_exit fun a hF=>hQ _ _ _ (Outs.out nofun (Exits.here ⟨ft2,wf2,v1,hds1,hsb1,hd1,hS64,hF.weaken ea⟩))
theorem ps_Twin_step (K:Nat) (rec_ps_Twin:(List SStmt)→Option (List SStmt)) (hr_ps_Twin:ps_Twin.Rec rec_ps_Twin) (Z:Zone) (l0:List SStmt) (A0:OA) (c0:Nat) (w0:World) (hZ:∀ w,Sub w0 w→Z w) (hR0:RdZ Z A0 l0) (hL0:l0.length≤c0) (r:List SStmt) (h:ps_Twin.b K rec_ps_Twin l0=some r) :
  Calls Try.prog 9 #[.slice A0 l0.length c0] w0 (ps_Twin.Post w0 Z r):=by
 have hS:=St.start w0
 unfold ps_Twin.b at h
 refine calls_enter (n:=42) (args:=[.slice A0 l0.length c0]) (fn:=Try.f9) rfl rfl rfl rfl ?_
 show WE _ _ _ _ [(0,.slice A0 l0.length c0)] _
 obtain ⟨ft1,wf1,hS1⟩:=hS.frz0
 refine ws fun K1 hK1=>wr [(0,0)]<|gb0 [0] [(2,.slice none 0 0)]<|gn hK1<|ws fun K2 hK2=>wr [(0,0)]<|gb0 [0] [(3,.slice none 0 0)]<|gn hK2<|ws fun K3 hK3=>ws fun K4 hK4=>wr [(0,0),(1,0),(2,0)]<|gb0 [0,1,2] [(8,vI 0),(7,vI (l0.length:Int)),(6,.slice A0 l0.length c0)]<|gn hK4<|we_block ?_
 have hS4:=((hS1.nil (α:=HStmt) 70).b 1).b 1
 rcases hq7:iter (ps_Twin.r0 K l0 rec_ps_Twin) K (([]:List SStmt),0) with _ | (m9 | rr2)
 ·rw [hq7] at h; cases h
 ·rw [hq7] at h
  simp only [] at h
  refine we_iter (A:=ps_Twin.A0 w0 Z l0 A0 c0 wf1) (B:=ps_Twin.B0 w0 Z wf1) hq7 (fun a hF=>⟨ft1,wf1,(.slice none 0 0),([]:List HStmt),(Sub.refl _),(DRows.nil _),hS4,hF.weaken ea⟩) (fun s o hf a w hA Q hQ=>ps_Twin_r0 K w0 Z l0 A0 c0 hZ hR0 hL0 rec_ps_Twin hr_ps_Twin ft1 wf1 s o hf a w hA Q hQ) ?_
  rintro _ a w16 _ ⟨rfl,ft18,wf18,v6,hds5,hRz11,hRz12,hS65,hF⟩
  replace hS65:St w0 w16 [Own.of v6 70 hds5,Own.frz ft18 wf18]:=hS65
  refine hK3 [(3,v6)] w16 ?_ a hF
  refine ws fun K11 hK11=>wr [(0,0),(1,0)]<|gb0 [0,1] [(2,v6),(41,v6)]<|gn hK11 ?_
  have hS67:=(hS65.b 1).b 1
  obtain rfl:=si h
  exact we_ret (pr0 [.tmp 2] [v6] ⟨v6,hds5,ft18,wf18,rfl,hRz12,hS67⟩)
 rw [hq7] at h
 simp only [] at h
 refine we_iter (A:=ps_Twin.A0 w0 Z l0 A0 c0 wf1) (B:=ps_Twin.B0 w0 Z wf1) hq7 (fun a hF=>⟨ft1,wf1,(.slice none 0 0),([]:List HStmt),(Sub.refl _),(DRows.nil _),hS4,hF.weaken ea⟩) (fun s o hf a w hA Q hQ=>ps_Twin_r0 K w0 Z l0 A0 c0 hZ hR0 hL0 rec_ps_Twin hr_ps_Twin ft1 wf1 s o hf a w hA Q hQ) ?_
 rintro _ a w1 _ ⟨rfl,hb⟩
 obtain rfl:=si h
 exact hb
def ps_Twin.recs (K : Nat) : Nat → ((List SStmt) → Option (List SStmt))
 | 0=>fun _=>none
 | n+1=>ps_Twin.b K (ps_Twin.recs K n)
theorem ps_Twin_all (K n:Nat):ps_Twin.Rec (ps_Twin.recs K n):=by
 induction n with
 | zero=>exact (by unfold ps_Twin.Rec; intros; rename_i h; cases (show none=some _ from h))
 | succ n ih=>exact ps_Twin_step K _ ih
def ps_Twin.f (K : Nat) (l0 : List SStmt) : Option (List SStmt) := (ps_Twin.recs K K) l0
theorem ps_Twin_ok (K:Nat) (Z:Zone) (l0:List SStmt) (A0:OA) (c0:Nat) (w0:World) (hZ:∀ w,Sub w0 w→Z w) (hR0:RdZ Z A0 l0) (hL0:l0.length≤c0) (r:List SStmt) (h:ps_Twin.f K l0=some r):Calls Try.prog 9 #[.slice A0 l0.length c0] w0 (ps_Twin.Post w0 Z r):=(ps_Twin_all K K) Z l0 A0 c0 w0 hZ hR0 hL0 r h

/-! punctual/punctualsame.Same[int] -/
abbrev ps_Same_int.Post (w0:World) (r:Bool) (e:Ending) (w:World):Prop:=e=.returned (.bool r)∧St w0 w []
def ps_Same_int.r0 (l0 : List Int) (l1 : List Int) : Nat → Option (Nat ⊕ (Unit ⊕ Bool))
 | i1 =>
  if (i1:Int)<(l0.length:Int) then
   match l0[i1]? with
   | none=>none
   | some e1 =>
    match l1[i1]? with
    | none=>none
    | some e2 =>
     if e1=e2 then
      some (.inl (i1+1))
     else
      some (.inr (.inr false))
  else
   some (.inr (.inl ()))
def ps_Same_int.f (K : Nat) (l0 : List Int) (l1 : List Int) : Option Bool :=
 if (l0.length:Int)=(l1.length:Int) then
  match iter (ps_Same_int.r0 l0 l1) K 0 with
  | none=>none
  | some (.inl _) =>
   some true
  | some (.inr rr1) =>
   some rr1
 else
  some false
abbrev ps_Same_int.A0 (w0:World) (l0:List Int) (A0:OA) (c0:Nat) (l1:List Int) (A1:OA) (c1:Nat):Nat→Act→World→Prop:=fun (s:Nat) a w=>St w0 w []∧Frm 26 a [(0,.slice A0 l0.length c0),(1,.slice A1 l1.length c1),(12,vI (l0.length:Int)),(13,vI (s:Int))]
abbrev ps_Same_int.B0 (w0:World):(Unit ⊕ Bool)→Exit→Act→World→Prop:=Exits 0 (fun (s:Unit) a w=>St w0 w []∧Frm 26 a []) (Rets Try.prog Try.f18 (ps_Same_int.Post w0))
theorem ps_Same_int_r0 (K:Nat) (w0:World) (l0:List Int) (A0:OA) (c0:Nat) (l1:List Int) (A1:OA) (c1:Nat) (hR0:RdL w0 A0 l0) (hL0:l0.length≤c0) (hR1:RdL w0 A1 l1) (hL1:l1.length≤c1) (hc1:(l0.length:Int)=(l1.length:Int)) (s:Nat) (o:Nat ⊕ (Unit ⊕ Bool)) (h:ps_Same_int.r0 l0 l1 s=some o) (a:Act) (w:World) (hA:ps_Same_int.A0 w0 l0 A0 c0 l1 A1 c1 s a w) (Q:Exit→Act→World→Prop) (hQ:∀ x a w,Outs (ps_Same_int.A0 w0 l0 A0 c0 l1 A1 c1) (ps_Same_int.B0 w0) o x a w→Q x a w):(subF Try.f18 [1,1,0,1,0,0]).wp Try.prog Q a w:=by
 obtain ⟨i1,hs⟩:∃ z,z=s:=⟨s,rfl⟩
 subst hs
 obtain ⟨hS,hF⟩:=hA
 replace hS:St w0 w []:=hS
 simp only [ps_Same_int.r0] at h
 refine (?_:WE Try.prog 26 (subF Try.f18 [1,1,0,1,0,0]) Q [(0,.slice A0 l0.length c0),(1,.slice A1 l1.length c1),(12,vI (l0.length:Int)),(13,vI (i1:Int))] w) a hF
 clear hF a
 refine ws fun K6 hK6=>wr [(0,0)]<|gb0 [0] [(14,.bool (decide ((i1:Int)<(l0.length:Int))))]<|gn hK6<|ws fun K7 hK7=>?_
 by_cases hc2:(i1:Int)<(l0.length:Int)
 ·rw [if_pos hc2] at h
  refine wk 14 (decide ((i1:Int)<(l0.length:Int))) true (decide_eq_true hc2)<|wt<|we_skip fun a hF=>hK7 _ _ ?_ a hF
  refine ws fun K8 hK8=>we_block<|ws fun K9 hK9=>wr [(0,0),(1,0)]<|gb0 [0,1] [(5,vI (i1:Int)),(15,vI (i1:Int))]<|gn hK9<|ws fun K10 hK10=>we_draws (by kernel_rfl) [(0,0),(1,0),(2,0),(3,0),(4,0),(5,0),(6,0),(7,0),(8,0)] (by kernel_rfl) ?_
  have hS1:=hS.drew
  refine gb0 [0,1] [(17,vI (i1:Int)),(16,.slice A0 l0.length c0)] ?_
  rcases hx1:l0[i1]? with _ | e1
  ·rw [hx1] at h; cases h
  rw [hx1] at h
  simp only [] at h
  refine gi 18 0 23 3 1 l0.length c0 (.tmp 16) (.tmp 17) A0 .i64 (i1:Int) i1 ((hS1.rd hR0).eqSome (pos_of_get hx1)) rfl (lt_of_get hx1) ?_
  refine gb [3,4,5] [(21,vI (i1:Int)),(20,.slice A1 l1.length c1),(19,vI e1)] [.loaded ⟨blkOf A0,offOf A0+i1*1,none⟩ (vI e1)] ⟨RdL.cell (j:=0) (hS1.rd hR0) hx1 rfl,trivial⟩ ?_
  rcases hx2:l1[i1]? with _ | e2
  ·rw [hx2] at h; cases h
  rw [hx2] at h
  simp only [] at h
  refine gi 22 0 23 3 1 l1.length c1 (.tmp 20) (.tmp 21) A1 .i64 (i1:Int) i1 ((hS1.rd hR1).eqSome (pos_of_get hx2)) rfl (lt_of_get hx2) ?_
  refine gb [7,8] [(24,.bool (e1 != e2)),(23,vI e2)] [.loaded ⟨blkOf A1,offOf A1+i1*1,none⟩ (vI e2)] ⟨RdL.cell (j:=0) (hS1.rd hR1) hx2 rfl,trivial⟩<|gn hK10 ?_
  by_cases hc3:e1=e2
  ·rw [if_pos hc3] at h
   refine wk 24 (e1 != e2) false (bne_eq_false_iff_eq.2 hc3)<|wf<|we_skip fun a hF=>hK8 _ _ ?_ a hF
   refine wr [(0,0),(1,0)]<|ge_addn (d:=25) (ty:=3) (x:=(.tmp 13)) (y:=(.const (vI 1))) (t:=3) (t2:=3) (k:=.i64) (m:=i1) (by kernel_rfl) (by kernel_rfl) (by kernel_rfl) (by have h0:=hR0.small; omega) ?_
   refine gb0 [1] [(13,vI ((i1+1:Nat):Int))] ?_
   obtain rfl:=si h
   exact ge_nil fun a hF=>hQ _ _ _ (Outs.again ⟨hS1,hF.weaken ea⟩)
  rw [if_neg hc3] at h
  refine wk 24 (e1 != e2) true (bne_iff_ne.2 hc3)<|wt<|ws fun K11 hK11=>wr [(0,0)]<|gb0 [0] [(4,.bool false)]<|gn hK11 ?_
  obtain rfl:=si h
  exact we_ret fun a hF=>hQ _ _ _ (Outs.out nofun (Exits.on ⟨rfl,(pr0 [.tmp 4] [.bool false] ⟨rfl,hS1⟩) a hF⟩))
 rw [if_neg hc2] at h
 refine wk 14 (decide ((i1:Int)<(l0.length:Int))) false (decide_eq_false hc2)<|wf ?_
 obtain rfl:=si h
 exact we_exit fun a hF=>hQ _ _ _ (Outs.out nofun (Exits.here ⟨hS,hF.weaken trivial⟩))
theorem ps_Same_int_ok (K:Nat) (l0:List Int) (A0:OA) (c0:Nat) (l1:List Int) (A1:OA) (c1:Nat) (w0:World) (hR0:RdL w0 A0 l0) (hL0:l0.length≤c0) (hR1:RdL w0 A1 l1) (hL1:l1.length≤c1) (r:Bool) (h:ps_Same_int.f K l0 l1=some r) :
  Calls Try.prog 18 #[.slice A0 l0.length c0,.slice A1 l1.length c1] w0 (ps_Same_int.Post w0 r):=by
 have hS:=St.start w0
 unfold ps_Same_int.f at h
 refine calls_enter (n:=26) (args:=[.slice A0 l0.length c0,.slice A1 l1.length c1]) (fn:=Try.f18) rfl rfl rfl rfl ?_
 show WE _ _ _ _ [(0,.slice A0 l0.length c0),(1,.slice A1 l1.length c1)] _
 refine ws fun K1 hK1=>wr [(0,0)]<|gb0 [0] [(4,.bool false)]<|gn hK1<|ws fun K2 hK2=>ws fun K3 hK3=>wr [(0,0),(1,0),(2,0),(3,0),(4,0)]<|gb0 [0,1,2,3,4] [(10,.bool ((l0.length:Int) != (l1.length:Int))),(9,vI (l1.length:Int)),(8,.slice A1 l1.length c1),(7,vI (l0.length:Int)),(6,.slice A0 l0.length c0)]<|gn hK3 ?_
 by_cases hc1:(l0.length:Int)=(l1.length:Int)
 ·rw [if_pos hc1] at h
  refine wk 10 ((l0.length:Int) != (l1.length:Int)) false (bne_eq_false_iff_eq.2 hc1)<|wf<|we_skip fun a hF=>hK2 _ _ ?_ a hF
  refine ws fun K4 hK4=>ws fun K5 hK5=>wr [(0,0),(1,0),(2,0)]<|gb0 [0,1,2] [(13,vI 0),(12,vI (l0.length:Int)),(11,.slice A0 l0.length c0)]<|gn hK5<|we_block ?_
  rcases hq1:iter (ps_Same_int.r0 l0 l1) K 0 with _ | (_ | rr1)
  ·rw [hq1] at h; cases h
  ·rw [hq1] at h
   simp only [] at h
   refine we_iter (A:=ps_Same_int.A0 w0 l0 A0 c0 l1 A1 c1) (B:=ps_Same_int.B0 w0) hq1 (fun a hF=>⟨hS,hF.weaken ea⟩) (fun s o hf a w hA Q hQ=>ps_Same_int_r0 K w0 l0 A0 c0 l1 A1 c1 hR0 hL0 hR1 hL1 hc1 s o hf a w hA Q hQ) ?_
   rintro _ a w1 _ ⟨rfl,hS2,hF⟩
   replace hS2:St w0 w1 []:=hS2
   refine hK4 [] w1 ?_ a hF
   refine ws fun K12 hK12=>wr [(0,0)]<|gb0 [0] [(4,.bool true)]<|gn hK12 ?_
   obtain rfl:=si h
   exact we_ret (pr0 [.tmp 4] [.bool true] ⟨rfl,hS2⟩)
  rw [hq1] at h
  simp only [] at h
  refine we_iter (A:=ps_Same_int.A0 w0 l0 A0 c0 l1 A1 c1) (B:=ps_Same_int.B0 w0) hq1 (fun a hF=>⟨hS,hF.weaken ea⟩) (fun s o hf a w hA Q hQ=>ps_Same_int_r0 K w0 l0 A0 c0 l1 A1 c1 hR0 hL0 hR1 hL1 hc1 s o hf a w hA Q hQ) ?_
  rintro _ a w1 _ ⟨rfl,hb⟩
  obtain rfl:=si h
  exact hb
 rw [if_neg hc1] at h
 refine wk 10 ((l0.length:Int) != (l1.length:Int)) true (bne_iff_ne.2 hc1)<|wt<|ws fun K13 hK13=>wr [(0,0)]<|gb0 [0] [(4,.bool false)]<|gn hK13 ?_
 obtain rfl:=si h
 exact we_ret (pr0 [.tmp 4] [.bool false] ⟨rfl,hS⟩)

/-! punctual/punctuallaw.MeaningJoins -/
abbrev MeaningJoins.Post (w0:World) (r:Bool) (e:Ending) (w:World):Prop:=e=.returned (.bool r)∧St w0 w []
def MeaningJoins.p0 (K : Nat) (l0 : List SStmt) (l1 : List SStmt) : Option (Unit ⊕ Bool) :=
  match claims.f K l0 with
  | none=>none
  | some r2 =>
   if r2=true then
    match claims.f K l1 with
    | none=>none
    | some r3 =>
     if r3=true then
      some (.inl ())
     else
      some (.inr true)
   else
    some (.inr true)
def MeaningJoins.p1 (K : Nat) (l1 : List SStmt) (l3 : List Int) (r5 : SEnded × SFault) : Option (((List Int) × (List SPut) × Int × Int × Int) ⊕ Bool) :=
  match ps_Twin.f K l1 with
  | none=>none
  | some r6 =>
   match meaning_Run.f K r6 r5.1.Vars l3 with
   | none=>none
   | some r7 =>
    some (.inl (r7.1.Vars,r7.1.Puts,r7.1.Steps,r7.2.Code,r7.2.At))
def MeaningJoins.p2 (r5 : SEnded × SFault) (m4 : List SPut) : Option ((List SPut) ⊕ Bool) :=
  if 0+r5.1.Puts.length≤8796093022208 then
   if r5.1.Puts.length+m4.length≤8796093022208 then
    some (.inl (r5.1.Puts++m4))
   else
    none
  else
   none
def MeaningJoins.p3 (r5 : SEnded × SFault) : Option (Bool ⊕ Bool) :=
  if (r5.1.Vars.length:Int)=0 then
   if (r5.1.Puts.length:Int)=0 then
    some (.inl (r5.1.Steps==0))
   else
    some (.inl false)
  else
   some (.inl false)
def MeaningJoins.f (K : Nat) (l0 : List SStmt) (l1 : List SStmt) (l2 : List Int) (l3 : List Int) : Option Bool :=
 match does.f K with
 | none=>none
 | some r1 =>
  if r1=true then
   match MeaningJoins.p0 K l0 l1 with
   | none=>none
   | some (.inl _) =>
    match ps_Twin.f K l0 with
    | none=>none
    | some r4 =>
     match meaning_Run.f K r4 l2 l3 with
     | none=>none
     | some r5 =>
      if r5.2.Code=0 then
       match MeaningJoins.p1 K l1 l3 r5 with
       | none=>none
       | some (.inl (m3,m4,z4,z5,z6)) =>
        if z5=0 then
         match ps_Twin.f K l1 with
         | none=>none
         | some r8 =>
          if r4.length+r8.length≤733007751850 then
           match meaning_Run.f K (r4++r8) l2 l3 with
           | none=>none
           | some r9 =>
            if r9.2.Code=2 then
             match pr_Size.f K (r4++r8) with
             | none=>none
             | some r10 =>
              if r10 > 200 then
               some true
              else
               some (decide ((IntKind.i64.wrap (r5.1.Steps+z4)) > 20000))
            else
             if r9.2.Code=11 then
              match pr_Size.f K (r4++r8) with
              | none=>none
              | some r11 =>
               if r11 > 200 then
                some true
               else
                some (decide ((IntKind.i64.wrap (r5.1.Steps+z4)) > 20000))
             else
              match MeaningJoins.p2 r5 m4 with
              | none=>none
              | some (.inl m6) =>
               if r9.2.Code=0 then
                match ps_Same_int.f K r9.1.Vars m3 with
                | none=>none
                | some r12 =>
                 if r12=true then
                  match ps_Same_api_Put.f K r9.1.Puts m6 with
                  | none=>none
                  | some r13 =>
                   if r13=true then
                    some (r9.1.Steps==(IntKind.i64.wrap (r5.1.Steps+z4)))
                   else
                    some false
                 else
                  some false
               else
                some false
              | some (.inr rr1) =>
               some rr1
          else
           none
        else
         some true
       | some (.inr rr2) =>
        some rr2
      else
       match MeaningJoins.p3 r5 with
       | none=>none
       | some (.inl q2) =>
        some q2
       | some (.inr rr3) =>
        some rr3
   | some (.inr rr4) =>
    some rr4
  else
   some false
abbrev MeaningJoins.A0 (w0:World) (l0:List SStmt) (A0:OA) (c0:Nat) (l1:List SStmt) (A1:OA) (c1:Nat) (l2:List Int) (A2:OA) (c2:Nat) (l3:List Int) (A3:OA) (c3:Nat) (wf1:World):Unit→Act→World→Prop:=fun (s:Unit) a w=>∃ (ft2:List Nat) (wf2:World),Sub wf1 wf2∧St w0 w [Own.frz ft2 wf2]∧Frm 127 a [(0,.slice A0 l0.length c0),(1,.slice A1 l1.length c1),(2,.slice A2 l2.length c2),(3,.slice A3 l3.length c3)]
abbrev MeaningJoins.B0 (w0:World):Bool→Exit→Act→World→Prop:=Rets Try.prog Try.f4 (MeaningJoins.Post w0)
theorem MeaningJoins_p0 (K:Nat) (w0:World) (Z:Zone) (l0:List SStmt) (A0:OA) (c0:Nat) (l1:List SStmt) (A1:OA) (c1:Nat) (l2:List Int) (A2:OA) (c2:Nat) (l3:List Int) (A3:OA) (c3:Nat) (hZ:∀ w,Sub w0 w→Z w) (hR0:RdZ Z A0 l0) (hL0:l0.length≤c0) (hR1:RdZ Z A1 l1) (hL1:l1.length≤c1) (hR2:RdL w0 A2 l2) (hL2:l2.length≤c2) (hR3:RdL w0 A3 l3) (hL3:l3.length≤c3) (ft1:List Nat) (wf1:World) (r1:Bool) (hc1:r1=true) (o:Unit ⊕ Bool) (h:MeaningJoins.p0 K l0 l1=some o) (w:World) (hS:St w0 w [Own.frz ft1 wf1]) (Q:Exit→Act→World→Prop) (hQ:∀ x a w,Outs (MeaningJoins.A0 w0 l0 A0 c0 l1 A1 c1 l2 A2 c2 l3 A3 c3 wf1) (MeaningJoins.B0 w0) o x a w→Q x a w):WE Try.prog 127 (subF Try.f4 [1,1,0]) Q [(0,.slice A0 l0.length c0),(1,.slice A1 l1.length c1),(2,.slice A2 l2.length c2),(3,.slice A3 l3.length c3),(8,.bool false),(15,.bool r1),(16,.bool false)] w:=by
 simp only [MeaningJoins.p0] at h
 refine ws fun K5 hK5=>wr [(0,0),(1,1),(2,0),(3,0),(4,0),(5,1),(6,0),(7,0)] ?_
 rcases hq2:claims.f K l0 with _ | r2
 ·rw [hq2] at h; cases h
 rw [hq2] at h
 simp only [] at h
 refine gb0 [0] [(17,.slice A0 l0.length c0)]<|ge_call (d:=some 18) (f:=7) (args:=#[.slice A0 l0.length c0]) (by kernel_rfl) (claims_ok K (Zand Z wf1) l0 A0 c0 _ (fun w' k=>⟨(hZ w' (hS.subw.trans k)),(hS.frzSub 0 rfl).trans k⟩) (hR0.up (ZLe.in _ _)) hL0 _ hq2) ?_
 rintro _ w2 ⟨rfl,hS4⟩
 refine ⟨_,rfl,hS4.below,?_⟩
 have hS5:=hS.call hS4
 refine gb0 [2,3] [(20,.bool (!r2)),(19,.bool (!r2))] ?_
 by_cases hc2:r2=true
 ·rw [if_pos hc2] at h
  refine gk 20 (!r2) false (congrArg (fun z=>!z) hc2) ?_
  rcases hq3:claims.f K l1 with _ | r3
  ·rw [hq3] at h; cases h
  rw [hq3] at h
  simp only [] at h
  refine gb0 [4] [(21,.slice A1 l1.length c1)]<|ge_call (d:=some 22) (f:=7) (args:=#[.slice A1 l1.length c1]) (by kernel_rfl) (claims_ok K (Zand Z wf1) l1 A1 c1 _ (fun w' k=>⟨(hZ w' (hS5.subw.trans k)),(hS5.frzSub 0 rfl).trans k⟩) (hR1.up (ZLe.in _ _)) hL1 _ hq3) ?_
  rintro _ w3 ⟨rfl,hS6⟩
  refine ⟨_,rfl,hS6.below,?_⟩
  have hS7:=hS5.call hS6
  refine gb0 [6,7] [(24,.bool (!r3)),(23,.bool (!r3))]<|gn hK5 ?_
  by_cases hc3:r3=true
  ·rw [if_pos hc3] at h
   refine wk 24 (!r3) false (congrArg (fun z=>!z) hc3)<|wf ?_
   obtain rfl:=si h
   exact we_skip fun a hF=>hQ _ _ _ (Outs.again ⟨ft1,wf1,(Sub.refl _),hS7,hF.weaken ea⟩)
  rw [if_neg hc3] at h
  refine wk 24 (!r3) true (congrArg (fun z=>!z) (Bool.eq_false_iff.2 hc3))<|wt<|ws fun K6 hK6=>wr [(0,0)]<|gb0 [0] [(8,.bool true)]<|gn hK6 ?_
  have hS8:=hS7.takeN 0
  obtain rfl:=si h
  exact rq hQ fun a hF=>⟨rfl,(pr0 [.tmp 8] [.bool true] ⟨rfl,hS8⟩) a hF⟩
 rw [if_neg hc2] at h
 refine gk 20 (!r2) true (congrArg (fun z=>!z) (Bool.eq_false_iff.2 hc2))<|gb0 [4] [(21,undef)]<|ge_off rfl rfl rfl (by kernel_rfl) ?_
 refine gb0 [6,7] [(24,.bool true),(23,undef)]<|gn hK5<|wt<|ws fun K7 hK7=>wr [(0,0)]<|gb0 [0] [(8,.bool true)]<|gn hK7 ?_
 have hS9:=hS5.takeN 0
 obtain rfl:=si h
 exact rq hQ fun a hF=>⟨rfl,(pr0 [.tmp 8] [.bool true] ⟨rfl,hS9⟩) a hF⟩
abbrev MeaningJoins.A1 (w0:World) (l0:List SStmt) (A0:OA) (c0:Nat) (l1:List SStmt) (A1:OA) (c1:Nat) (l2:List Int) (A2:OA) (c2:Nat) (l3:List Int) (A3:OA) (c3:Nat) (wf6:World) (r5:SEnded×SFault) (b1 b2:Nat) (Z2:OA) (cz2:Nat) (Z3:OA) (cz3:Nat):((List Int)×(List SPut)×Int×Int×Int)→Act→World→Prop:=fun (s:(List Int)×(List SPut)×Int×Int×Int) a w=>∃ (ft7:List Nat) (wf7:World) (b3:Nat) (v4:Value) (v5:Value),Sub wf6 wf7∧St w0 w [bk b3 #[v4,v5,vI s.2.2.1] 28,bk b2 #[vI s.2.2.2.1,vI s.2.2.2.2] 31,bk b1 #[(.slice Z2 r5.1.Vars.length cz2),(.slice Z3 r5.1.Puts.length cz3),vI r5.1.Steps] 28,Own.of v4 3 s.1,Own.of v5 42 s.2.1,ro Z2 cz2 3 r5.1.Vars,ro Z3 cz3 42 r5.1.Puts,Own.frz ft7 wf7]∧Frm 127 a [(0,.slice A0 l0.length c0),(1,.slice A1 l1.length c1),(2,.slice A2 l2.length c2),(3,.slice A3 l3.length c3),(9,pP b1 0),(10,pP b2 0),(11,pP b3 0)]
abbrev MeaningJoins.B1 (w0:World):Bool→Exit→Act→World→Prop:=Rets Try.prog Try.f4 (MeaningJoins.Post w0)
theorem MeaningJoins_p1 (K:Nat) (w0:World) (Z:Zone) (l0:List SStmt) (A0:OA) (c0:Nat) (l1:List SStmt) (A1:OA) (c1:Nat) (l2:List Int) (A2:OA) (c2:Nat) (l3:List Int) (A3:OA) (c3:Nat) (hZ:∀ w,Sub w0 w→Z w) (hR0:RdZ Z A0 l0) (hL0:l0.length≤c0) (hR1:RdZ Z A1 l1) (hL1:l1.length≤c1) (hR2:RdL w0 A2 l2) (hL2:l2.length≤c2) (hR3:RdL w0 A3 l3) (hL3:l3.length≤c3) (ft1:List Nat) (wf1:World) (r1:Bool) (hc1:r1=true) (ft3:List Nat) (wf3:World) (hRz1:Sub wf1 wf3) (r4:List SStmt) (hds1:List HStmt) (ft4:List Nat) (wf4:World) (ft5:List Nat) (wf5:World) (hsb2:Sub wf4 wf5) (hsb3:Sub wf3 wf5) (hd1:DRows (Zand Z wf5) hds1 r4) (Z1:OA) (cz1:Nat) (ft6:List Nat) (wf6:World) (hsb4:Sub wf5 wf6) (hRd1:RdZ (Zand Z wf6) Z1 r4) (hLd1:r4.length≤cz1) (r5:SEnded×SFault) (b1 b2:Nat) (Z2:OA) (cz2:Nat) (Z3:OA) (cz3:Nat) (hc4:r5.2.Code=0) (o:((List Int)×(List SPut)×Int×Int×Int) ⊕ Bool) (h:MeaningJoins.p1 K l1 l3 r5=some o) (w:World) (hS:St w0 w [bk b2 #[vI r5.2.Code,vI r5.2.At] 31,bk b1 #[(.slice Z2 r5.1.Vars.length cz2),(.slice Z3 r5.1.Puts.length cz3),vI r5.1.Steps] 28,ro Z2 cz2 3 r5.1.Vars,ro Z3 cz3 42 r5.1.Puts,Own.frz ft6 wf6]) (Q:Exit→Act→World→Prop) (hQ:∀ x a w,Outs (MeaningJoins.A1 w0 l0 A0 c0 l1 A1 c1 l2 A2 c2 l3 A3 c3 wf6 r5 b1 b2 Z2 cz2 Z3 cz3) (MeaningJoins.B1 w0) o x a w→Q x a w):WE Try.prog 127 (subF Try.f4 [1,1,1,1,1,0]) Q [(0,.slice A0 l0.length c0),(1,.slice A1 l1.length c1),(2,.slice A2 l2.length c2),(3,.slice A3 l3.length c3),(9,pP b1 0),(10,pP b2 0),(25,.tuple #[.agg #[(.slice Z2 r5.1.Vars.length cz2),(.slice Z3 r5.1.Puts.length cz3),vI r5.1.Steps],.agg #[vI r5.2.Code,vI r5.2.At]]),(26,.slice A0 l0.length c0),(27,.slice Z1 r4.length cz1),(28,.slice A2 l2.length c2),(29,.slice A3 l3.length c3),(30,.tuple #[.agg #[(.slice Z2 r5.1.Vars.length cz2),(.slice Z3 r5.1.Puts.length cz3),vI r5.1.Steps],.agg #[vI r5.2.Code,vI r5.2.At]]),(31,.agg #[(.slice Z2 r5.1.Vars.length cz2),(.slice Z3 r5.1.Puts.length cz3),vI r5.1.Steps]),(32,.agg #[vI r5.2.Code,vI r5.2.At]),(33,pP b2 0),(34,vI r5.2.Code),(35,.bool false)] w:=by
 simp only [MeaningJoins.p1] at h
 refine we_orders3 (by kernel_rfl) [(3,[⟨b1,0,none⟩],[],[])] (.vals [0] (.vals [2] (.vals [3] (.vals [4] (.alt 1 1 (.alt 5 1 (.vals [6] (.vals [7] (.vals [8] (.alt 9 1 (.alt 10 2 (.alt 11 2 .fin .nomore) .nomore) .nomore)))) (.alt 9 1 (.alt 5 1 (.vals [6] (.vals [7] (.vals [8] (.alt 10 2 (.alt 11 2 .fin .nomore) .nomore)))) .nomore) .nomore)) (.alt 9 1 (.alt 1 1 (.alt 5 1 (.vals [6] (.vals [7] (.vals [8] (.alt 10 2 (.alt 11 2 .fin .nomore) .nomore)))) .nomore) .nomore) .nomore)))))) (by kernel_rfl) (by kernel_rfl) ?_
 have hS28:=hS.drew
 refine g30 [0,2] [(54,pP b1 0),(52,.slice A1 l1.length c1)]<|g3 3 [(55,(.slice Z2 r5.1.Vars.length cz2))] [ld b1 0 ((.slice Z2 r5.1.Vars.length cz2))] ⟨hS28.c 1,trivial⟩<|g30 [4] [(56,.slice A3 l3.length c3)]<|go_alt3 (fun KK hKK=>?_) ?_
 ·refine ge_one2 ?_
  rcases hq7:ps_Twin.f K l1 with _ | r6
  ·rw [hq7] at h; cases h
  rw [hq7] at h
  simp only [] at h
  refine ge_call (d:=some 53) (f:=9) (args:=#[.slice A1 l1.length c1]) (by kernel_rfl) (ps_Twin_ok K (Zand Z wf6) l1 A1 c1 _ (fun w' k=>⟨(hZ w' (hS28.subw.trans k)),(hS28.frzSub 4 rfl).trans k⟩) (hR1.up (ZLe.in _ _)) hL1 _ hq7) ?_
  rintro _ w11 ⟨v6,hds2,ft8,wf8,rfl,hd2,hS29⟩
  refine ⟨_,rfl,hS29.below,?_⟩
  have hS32:=((hS28.call hS29).b 6).b 2
  obtain ⟨ft9,wf9,hsb6,hsb7,hS33⟩:=hS32.frzMerge
  replace hd2:DRows (Zand Z wf9) hds2 r6:=hd2.up (ZLe.both hsb7 hsb6)
  refine ge_nil fun a hF=>hKK _ _ (RS.of2 (l:=[ld b1 0 ((.slice Z2 r5.1.Vars.length cz2))]) (by kernel_rfl) ⟨hS28.c 1,trivial⟩ ⟨hS33.c 3,trivial⟩) ?_ a hF
  refine go_alt3 (fun KK hKK=>?_) ?_
  ·refine ge_one2 ?_
   obtain ⟨Z4,cz4,rfl⟩:=hS33.dopen 1 rfl hd2
   have hS34:=hS33.b 1
   obtain ⟨ft10,wf10,hsb8,-,hRd2,hLd2,hS35⟩:=hS34.dfrz (Z:=Z) hd2
   rcases hq8:meaning_Run.f K r6 r5.1.Vars l3 with _ | r7
   ·rw [hq8] at h; cases h
   rw [hq8] at h
   simp only [] at h
   refine ge_call (d:=some 57) (f:=11) (args:=#[.slice Z4 r6.length cz4,(.slice Z2 r5.1.Vars.length cz2),.slice A3 l3.length c3]) (by kernel_rfl) (meaning_Run_ok K (Zand Z wf10) r6 Z4 cz4 r5.1.Vars Z2 cz2 l3 A3 c3 _ (fun w' k=>⟨(hZ w' (hS35.subw.trans k)),(hS35.frzSub 0 rfl).trans k⟩) hRd2 hLd2 (hS35.rdAt 3 rfl) (hS35.capAt 3 rfl) (hS35.rd hR3) hL3 _ hq8) ?_
   rintro _ w12 ⟨v7,v8,rfl,hS36⟩
   refine ⟨_,rfl,hS36.below,?_⟩
   have hS37:=hS35.call hS36
   refine g2 hKK<|g30 [6,7,8] [(59,.agg #[vI r7.2.Code,vI r7.2.At]),(58,.agg #[v7,v8,vI r7.1.Steps]),(51,.tuple #[.agg #[v7,v8,vI r7.1.Steps],.agg #[vI r7.2.Code,vI r7.2.At]])]<|go_alt3 (fun KK hKK=>?_) ?_
   ·refine ge_one2<|gw (some 11) (.cells #[.slice none 0 0,.slice none 0 0,vI 0] 28) (fun b=>pP b 0) hS37 fun b4 w13 hx3 hS38=>?_
    refine ge_nil fun a hF=>hKK _ _ (RS.of2 (l:=[ld b1 0 ((.slice Z2 r5.1.Vars.length cz2))]) (by kernel_rfl) ⟨hS37.c 4,trivial⟩ ⟨hS38.c 5,trivial⟩) ?_ a hF
    refine go_alt3 (fun KK hKK=>?_) ?_
    ·obtain ⟨Z5,cz5,rfl⟩:=hS38.open 1 rfl
     obtain ⟨Z6,cz6,rfl⟩:=hS38.open 2 rfl
     refine gs b4 0 #[.slice none 0 0,.slice none 0 0,vI 0] 28 [(.slice Z5 r7.1.Vars.length cz5),(.slice Z6 r7.1.Puts.length cz6),vI r7.1.Steps] hS38 fun w14 hS39=>?_
     have hS40:=hS39.nc #[(.slice Z5 r7.1.Vars.length cz5),(.slice Z6 r7.1.Puts.length cz6),vI r7.1.Steps] (by kernel_rfl)
     refine g2 hKK<|go_alt3 (fun KK hKK=>?_) ?_
     ·have hS41:=hS40.b 4
      refine gs b2 0 #[vI r5.2.Code,vI r5.2.At] 31 [vI r7.2.Code,vI r7.2.At] hS41 fun w15 hS42=>?_
      have hS43:=hS42.nc #[vI r7.2.Code,vI r7.2.At] (by kernel_rfl)
      refine g2 hKK ?_
      have hS51:=(((((((hS43.b 4).b 7).b 7).b 6).b 6).b 7).b 6).b 7
      obtain rfl:=si h
      exact go_fin3 fun a hF=>hQ _ _ _ (Outs.again ⟨ft10,wf10,b4,(.slice Z5 r7.1.Vars.length cz5),(.slice Z6 r7.1.Puts.length cz6),(hsb7.trans hsb8),hS51,hF.weaken ea⟩)
     exact go_nomore3
    exact go_nomore3
   exact go_nomore3
  refine go_alt3 (fun KK hKK=>?_) ?_
  ·refine ge_one2<|gw (some 11) (.cells #[.slice none 0 0,.slice none 0 0,vI 0] 28) (fun b=>pP b 0) hS33 fun b4 w12 hx3 hS34=>?_
   refine ge_nil fun a hF=>hKK _ _ (RS.of2 (l:=[ld b1 0 ((.slice Z2 r5.1.Vars.length cz2))]) (by kernel_rfl) ⟨hS33.c 3,trivial⟩ ⟨hS34.c 4,trivial⟩) ?_ a hF
   refine go_alt3 (fun KK hKK=>?_) ?_
   ·refine ge_one2 ?_
    obtain ⟨Z4,cz4,rfl⟩:=hS34.dopen 2 rfl hd2
    have hS36:=(hS34.b 1).b 2
    obtain ⟨ft10,wf10,hsb8,-,hRd2,hLd2,hS37⟩:=hS36.dfrz (Z:=Z) hd2
    rcases hq8:meaning_Run.f K r6 r5.1.Vars l3 with _ | r7
    ·rw [hq8] at h; cases h
    rw [hq8] at h
    simp only [] at h
    refine ge_call (d:=some 57) (f:=11) (args:=#[.slice Z4 r6.length cz4,(.slice Z2 r5.1.Vars.length cz2),.slice A3 l3.length c3]) (by kernel_rfl) (meaning_Run_ok K (Zand Z wf10) r6 Z4 cz4 r5.1.Vars Z2 cz2 l3 A3 c3 _ (fun w' k=>⟨(hZ w' (hS37.subw.trans k)),(hS37.frzSub 0 rfl).trans k⟩) hRd2 hLd2 (hS37.rdAt 4 rfl) (hS37.capAt 4 rfl) (hS37.rd hR3) hL3 _ hq8) ?_
    rintro _ w13 ⟨v7,v8,rfl,hS38⟩
    refine ⟨_,rfl,hS38.below,?_⟩
    have hS39:=hS37.call hS38
    refine g2 hKK<|g30 [6,7,8] [(59,.agg #[vI r7.2.Code,vI r7.2.At]),(58,.agg #[v7,v8,vI r7.1.Steps]),(51,.tuple #[.agg #[v7,v8,vI r7.1.Steps],.agg #[vI r7.2.Code,vI r7.2.At]])]<|go_alt3 (fun KK hKK=>?_) ?_
    ·obtain ⟨Z5,cz5,rfl⟩:=hS39.open 0 rfl
     obtain ⟨Z6,cz6,rfl⟩:=hS39.open 1 rfl
     have hS40:=hS39.b 3
     refine gs b4 0 #[.slice none 0 0,.slice none 0 0,vI 0] 28 [(.slice Z5 r7.1.Vars.length cz5),(.slice Z6 r7.1.Puts.length cz6),vI r7.1.Steps] hS40 fun w14 hS41=>?_
     have hS42:=hS41.nc #[(.slice Z5 r7.1.Vars.length cz5),(.slice Z6 r7.1.Puts.length cz6),vI r7.1.Steps] (by kernel_rfl)
     refine g2 hKK<|go_alt3 (fun KK hKK=>?_) ?_
     ·have hS43:=hS42.b 4
      refine gs b2 0 #[vI r5.2.Code,vI r5.2.At] 31 [vI r7.2.Code,vI r7.2.At] hS43 fun w15 hS44=>?_
      have hS45:=hS44.nc #[vI r7.2.Code,vI r7.2.At] (by kernel_rfl)
      refine g2 hKK ?_
      have hS53:=(((((((hS45.b 4).b 7).b 7).b 6).b 6).b 7).b 6).b 7
      obtain rfl:=si h
      exact go_fin3 fun a hF=>hQ _ _ _ (Outs.again ⟨ft10,wf10,b4,(.slice Z5 r7.1.Vars.length cz5),(.slice Z6 r7.1.Puts.length cz6),(hsb7.trans hsb8),hS53,hF.weaken ea⟩)
     exact go_nomore3
    exact go_nomore3
   exact go_nomore3
  exact go_nomore3
 refine go_alt3 (fun KK hKK=>?_) ?_
 ·refine ge_one2<|gw (some 11) (.cells #[.slice none 0 0,.slice none 0 0,vI 0] 28) (fun b=>pP b 0) hS28 fun b4 w11 hx3 hS29=>?_
  refine ge_nil fun a hF=>hKK _ _ (RS.of2 (l:=[ld b1 0 ((.slice Z2 r5.1.Vars.length cz2))]) (by kernel_rfl) ⟨hS28.c 1,trivial⟩ ⟨hS29.c 2,trivial⟩) ?_ a hF
  refine go_alt3 (fun KK hKK=>?_) ?_
  ·refine ge_one2 ?_
   rcases hq7:ps_Twin.f K l1 with _ | r6
   ·rw [hq7] at h; cases h
   rw [hq7] at h
   simp only [] at h
   refine ge_call (d:=some 53) (f:=9) (args:=#[.slice A1 l1.length c1]) (by kernel_rfl) (ps_Twin_ok K (Zand Z wf6) l1 A1 c1 _ (fun w' k=>⟨(hZ w' (hS29.subw.trans k)),(hS29.frzSub 5 rfl).trans k⟩) (hR1.up (ZLe.in _ _)) hL1 _ hq7) ?_
   rintro _ w12 ⟨v6,hds2,ft8,wf8,rfl,hd2,hS30⟩
   refine ⟨_,rfl,hS30.below,?_⟩
   have hS33:=((hS29.call hS30).b 7).b 2
   obtain ⟨ft9,wf9,hsb6,hsb7,hS34⟩:=hS33.frzMerge
   replace hd2:DRows (Zand Z wf9) hds2 r6:=hd2.up (ZLe.both hsb7 hsb6)
   refine ge_nil fun a hF=>hKK _ _ (RS.of2 (l:=[ld b1 0 ((.slice Z2 r5.1.Vars.length cz2))]) (by kernel_rfl) ⟨hS29.c 2,trivial⟩ ⟨hS34.c 4,trivial⟩) ?_ a hF
   refine go_alt3 (fun KK hKK=>?_) ?_
   ·refine ge_one2 ?_
    obtain ⟨Z4,cz4,rfl⟩:=hS34.dopen 1 rfl hd2
    have hS35:=hS34.b 1
    obtain ⟨ft10,wf10,hsb8,-,hRd2,hLd2,hS36⟩:=hS35.dfrz (Z:=Z) hd2
    rcases hq8:meaning_Run.f K r6 r5.1.Vars l3 with _ | r7
    ·rw [hq8] at h; cases h
    rw [hq8] at h
    simp only [] at h
    refine ge_call (d:=some 57) (f:=11) (args:=#[.slice Z4 r6.length cz4,(.slice Z2 r5.1.Vars.length cz2),.slice A3 l3.length c3]) (by kernel_rfl) (meaning_Run_ok K (Zand Z wf10) r6 Z4 cz4 r5.1.Vars Z2 cz2 l3 A3 c3 _ (fun w' k=>⟨(hZ w' (hS36.subw.trans k)),(hS36.frzSub 0 rfl).trans k⟩) hRd2 hLd2 (hS36.rdAt 4 rfl) (hS36.capAt 4 rfl) (hS36.rd hR3) hL3 _ hq8) ?_
    rintro _ w13 ⟨v7,v8,rfl,hS37⟩
    refine ⟨_,rfl,hS37.below,?_⟩
    have hS38:=hS36.call hS37
    refine g2 hKK<|g30 [6,7,8] [(59,.agg #[vI r7.2.Code,vI r7.2.At]),(58,.agg #[v7,v8,vI r7.1.Steps]),(51,.tuple #[.agg #[v7,v8,vI r7.1.Steps],.agg #[vI r7.2.Code,vI r7.2.At]])]<|go_alt3 (fun KK hKK=>?_) ?_
    ·obtain ⟨Z5,cz5,rfl⟩:=hS38.open 0 rfl
     obtain ⟨Z6,cz6,rfl⟩:=hS38.open 1 rfl
     have hS39:=hS38.b 3
     refine gs b4 0 #[.slice none 0 0,.slice none 0 0,vI 0] 28 [(.slice Z5 r7.1.Vars.length cz5),(.slice Z6 r7.1.Puts.length cz6),vI r7.1.Steps] hS39 fun w14 hS40=>?_
     have hS41:=hS40.nc #[(.slice Z5 r7.1.Vars.length cz5),(.slice Z6 r7.1.Puts.length cz6),vI r7.1.Steps] (by kernel_rfl)
     refine g2 hKK<|go_alt3 (fun KK hKK=>?_) ?_
     ·have hS42:=hS41.b 4
      refine gs b2 0 #[vI r5.2.Code,vI r5.2.At] 31 [vI r7.2.Code,vI r7.2.At] hS42 fun w15 hS43=>?_
      have hS44:=hS43.nc #[vI r7.2.Code,vI r7.2.At] (by kernel_rfl)
      refine g2 hKK ?_
      have hS52:=(((((((hS44.b 4).b 7).b 7).b 6).b 6).b 7).b 6).b 7
      obtain rfl:=si h
      exact go_fin3 fun a hF=>hQ _ _ _ (Outs.again ⟨ft10,wf10,b4,(.slice Z5 r7.1.Vars.length cz5),(.slice Z6 r7.1.Puts.length cz6),(hsb7.trans hsb8),hS52,hF.weaken ea⟩)
     exact go_nomore3
    exact go_nomore3
   exact go_nomore3
  exact go_nomore3
 exact go_nomore3
abbrev MeaningJoins.A2 (w0:World) (r5:SEnded×SFault) (b1 b2:Nat) (Z2:OA) (cz2:Nat) (Z3:OA) (cz3 b5:Nat) (m3:List Int) (m4:List SPut) (z4:Int) (wf17:World) (r9:SEnded×SFault) (b6:Nat) (Z9:OA) (cz9:Nat) (Z10:OA) (cz10:Nat) (Z11:OA) (cz11:Nat) (Z12:OA) (cz12:Nat):(List SPut)→Act→World→Prop:=fun (s:(List SPut)) a w=>∃ (ft18:List Nat) (wf18:World) (v16:Value),Sub wf17 wf18∧St w0 w [bk b2 #[vI r9.2.Code,vI r9.2.At] 31,bk b6 #[(.slice Z9 r9.1.Vars.length cz9),(.slice Z10 r9.1.Puts.length cz10),vI r9.1.Steps] 28,bk b5 #[(.slice Z11 m3.length cz11),(.slice Z12 m4.length cz12),vI z4] 28,bk b1 #[(.slice Z2 r5.1.Vars.length cz2),(.slice Z3 r5.1.Puts.length cz3),vI r5.1.Steps] 28,Own.of v16 42 s,ro Z9 cz9 3 r9.1.Vars,ro Z10 cz10 42 r9.1.Puts,ro Z11 cz11 3 m3,ro Z12 cz12 42 m4,ro Z2 cz2 3 r5.1.Vars,ro Z3 cz3 42 r5.1.Puts,Own.frz ft18 wf18]∧Frm 127 a [(9,pP b1 0),(10,pP b2 0),(11,pP b5 0),(13,pP b6 0),(14,v16)]
abbrev MeaningJoins.B2 (w0:World):Bool→Exit→Act→World→Prop:=Rets Try.prog Try.f4 (MeaningJoins.Post w0)
theorem MeaningJoins_p2 (K:Nat) (w0:World) (Z:Zone) (l0:List SStmt) (A0:OA) (c0:Nat) (l1:List SStmt) (A1:OA) (c1:Nat) (l2:List Int) (A2:OA) (c2:Nat) (l3:List Int) (A3:OA) (c3:Nat) (hZ:∀ w,Sub w0 w→Z w) (hR0:RdZ Z A0 l0) (hL0:l0.length≤c0) (hR1:RdZ Z A1 l1) (hL1:l1.length≤c1) (hR2:RdL w0 A2 l2) (hL2:l2.length≤c2) (hR3:RdL w0 A3 l3) (hL3:l3.length≤c3) (ft1:List Nat) (wf1:World) (r1:Bool) (hc1:r1=true) (ft3:List Nat) (wf3:World) (hRz1:Sub wf1 wf3) (r4:List SStmt) (hds1:List HStmt) (ft4:List Nat) (wf4:World) (ft5:List Nat) (wf5:World) (hsb2:Sub wf4 wf5) (hsb3:Sub wf3 wf5) (hd1:DRows (Zand Z wf5) hds1 r4) (Z1:OA) (cz1:Nat) (ft6:List Nat) (wf6:World) (hsb4:Sub wf5 wf6) (hRd1:RdZ (Zand Z wf6) Z1 r4) (hLd1:r4.length≤cz1) (r5:SEnded×SFault) (b1 b2:Nat) (Z2:OA) (cz2:Nat) (Z3:OA) (cz3:Nat) (hc4:r5.2.Code=0) (ft11:List Nat) (wf11:World) (b5:Nat) (m3:List Int) (m4:List SPut) (z4 z5 z6:Int) (hRz2:Sub wf6 wf11) (hc5:z5=0) (v11:Value) (hds3:List HStmt) (ft12:List Nat) (wf12:World) (ft13:List Nat) (wf13:World) (hsb9:Sub wf12 wf13) (hsb10:Sub wf11 wf13) (hd3:DRows (Zand Z wf13) hds3 r4) (r8:List SStmt) (hds4:List HStmt) (ft14:List Nat) (wf14:World) (ft15:List Nat) (wf15:World) (hsb11:Sub wf14 wf15) (hsb12:Sub wf13 wf15) (hd4:DRows (Zand Z wf15) hds4 r8) (Z7:OA) (cz7:Nat) (ft16:List Nat) (wf16:World) (hsb13:Sub wf15 wf16) (hRd3:RdZ (Zand Z wf16) Z7 r8) (hLd3:r8.length≤cz7) (hds5:List HStmt) (hd5:DRows (Zand Z wf16) hds5 r8) (hf1:RdF (Zand Z wf16) Z7 hds5) (hc6:r4.length+r8.length≤733007751850) (hd6:DRows (Zand Z wf16) (hds3++hds5) (r4++r8)) (Z8:OA) (cz8:Nat) (ft17:List Nat) (wf17:World) (hsb14:Sub wf16 wf17) (hRd4:RdZ (Zand Z wf17) Z8 (r4++r8)) (hLd4:(r4++r8).length≤cz8) (r9:SEnded×SFault) (b6:Nat) (Z9:OA) (cz9:Nat) (Z10:OA) (cz10:Nat) (hc7:¬ (r9.2.Code=2)) (hc9:¬ (r9.2.Code=11)) (Z11:OA) (cz11:Nat) (Z12:OA) (cz12:Nat) (o:(List SPut) ⊕ Bool) (h:MeaningJoins.p2 r5 m4=some o) (w:World) (hS:St w0 w [bk b2 #[vI r9.2.Code,vI r9.2.At] 31,bk b6 #[(.slice Z9 r9.1.Vars.length cz9),(.slice Z10 r9.1.Puts.length cz10),vI r9.1.Steps] 28,ro Z9 cz9 3 r9.1.Vars,ro Z10 cz10 42 r9.1.Puts,Own.frz ft17 wf17,bk b5 #[(.slice Z11 m3.length cz11),(.slice Z12 m4.length cz12),vI z4] 28,bk b1 #[(.slice Z2 r5.1.Vars.length cz2),(.slice Z3 r5.1.Puts.length cz3),vI r5.1.Steps] 28,ro Z11 cz11 3 m3,ro Z12 cz12 42 m4,ro Z2 cz2 3 r5.1.Vars,ro Z3 cz3 42 r5.1.Puts]) (Q:Exit→Act→World→Prop) (hQ:∀ x a w,Outs (MeaningJoins.A2 w0 r5 b1 b2 Z2 cz2 Z3 cz3 b5 m3 m4 z4 wf17 r9 b6 Z9 cz9 Z10 cz10 Z11 cz11 Z12 cz12) (MeaningJoins.B2 w0) o x a w→Q x a w):WE Try.prog 127 (subF Try.f4 [1,1,1,1,1,1,1,1,1,1,0]) Q ((0,.slice A0 l0.length c0)::(1,.slice A1 l1.length c1)::(2,.slice A2 l2.length c2)::(3,.slice A3 l3.length c3)::(9,pP b1 0)::(10,pP b2 0)::(11,pP b5 0)::(12,.slice Z8 ((r4++r8).length) cz8)::(13,pP b6 0)::(60,pP b2 0)::(61,vI z5)::(62,.bool false)::(63,.slice A0 l0.length c0)::(64,v11)::(65,.slice A1 l1.length c1)::(67,.slice Z8 ((r4++r8).length) cz8)::(68,.tuple #[.agg #[(.slice Z9 r9.1.Vars.length cz9),(.slice Z10 r9.1.Puts.length cz10),vI r9.1.Steps],.agg #[vI r9.2.Code,vI r9.2.At]])::(69,.slice Z8 ((r4++r8).length) cz8)::(70,.slice A2 l2.length c2)::(71,.slice A3 l3.length c3)::(72,.tuple #[.agg #[(.slice Z9 r9.1.Vars.length cz9),(.slice Z10 r9.1.Puts.length cz10),vI r9.1.Steps],.agg #[vI r9.2.Code,vI r9.2.At]])::(73,.agg #[(.slice Z9 r9.1.Vars.length cz9),(.slice Z10 r9.1.Puts.length cz10),vI r9.1.Steps])::(74,.agg #[vI r9.2.Code,vI r9.2.At])::(75,pP b2 0)::(76,vI r9.2.Code)::(77,.bool (r9.2.Code==2))::(78,.bool false)::(79,pP b2 0)::(80,vI r9.2.Code)::(81,.bool (r9.2.Code==11))::(82,.bool false)::[]) w:=by
 simp only [MeaningJoins.p2] at h
 refine we_orders3 (by kernel_rfl) [(2,[⟨b1,1,none⟩],[3,6],[]),(5,[⟨b5,1,none⟩],[],[])] (.vals [1] (.vals [2] (.vals [4] (.vals [5] (.alt 0 1 (.alt 3 2 (.alt 6 2 (.vals [7] .fin) .nomore) .nomore) .nomore))))) (by kernel_rfl) (by kernel_rfl) ?_
 have hS88:=hS.drew
 refine g30 [1] [(95,pP b1 1)]<|g3 2 [(96,(.slice Z3 r5.1.Puts.length cz3))] [ld b1 1 ((.slice Z3 r5.1.Puts.length cz3))] ⟨hS88.c 6,trivial⟩<|g30 [4] [(98,pP b5 1)]<|g3 5 [(99,(.slice Z12 m4.length cz12))] [ld b5 1 ((.slice Z12 m4.length cz12))] ⟨hS88.c 5,trivial⟩<|go_alt3 (fun KK hKK=>?_) ?_
 ·refine ge_one2<|gw (some 94) (.cells #[] 42) (fun b=>.slice (some ⟨b,0,none⟩) 0 0) hS88 fun b7 w26 hx5 hS89=>?_
  refine ge_nil fun a hF=>hKK _ _ (RS.of2 (l:=[ld b1 1 ((.slice Z3 r5.1.Puts.length cz3)),ld b5 1 ((.slice Z12 m4.length cz12))]) (by kernel_rfl) ⟨hS88.c 6,hS88.c 5,trivial⟩ ⟨hS89.c 7,hS89.c 6,trivial⟩) ?_ a hF
  refine go_alt3 (fun KK hKK=>?_) ?_
  ·have hS90:=hS89.asRow (α:=SPut) (c:=0) ([]:List SPut) (Nat.le_refl _) (by decide) rfl rfl
   by_cases hc11:0+r5.1.Puts.length≤8796093022208
   ·rw [if_pos hc11] at h
    refine ge_appendL (α:=SPut) (m:=0) (d:=97) (t:=26) (el:=42) (bytes:=16) (c1:=cz3) (A1:=Z3) (x:=(.tmp 94)) (y:=(.tmp 96)) (ty:=26) (v:=(.slice (some ⟨b7,0,none⟩) 0 0)) (z:=.agg #[vI 0,vI 0]) (l:=([]:List SPut)) (us:=r5.1.Puts) (by kernel_rfl) (by kernel_rfl) (by kernel_rfl) (by kernel_rfl) (by kernel_rfl) rfl hS90 (hS90.rdAt 11 rfl) rfl (Nat.mul_le_of_le_div _ _ _ hc11) fun v17 w27 hS91=>?_
    have hS92:St w0 w27 [Own.of v17 42 r5.1.Puts,bk b2 #[vI r9.2.Code,vI r9.2.At] 31,bk b6 #[(.slice Z9 r9.1.Vars.length cz9),(.slice Z10 r9.1.Puts.length cz10),vI r9.1.Steps] 28,ro Z9 cz9 3 r9.1.Vars,ro Z10 cz10 42 r9.1.Puts,Own.frz ft17 wf17,bk b5 #[(.slice Z11 m3.length cz11),(.slice Z12 m4.length cz12),vI z4] 28,bk b1 #[(.slice Z2 r5.1.Vars.length cz2),(.slice Z3 r5.1.Puts.length cz3),vI r5.1.Steps] 28,ro Z11 cz11 3 m3,ro Z12 cz12 42 m4,ro Z2 cz2 3 r5.1.Vars,ro Z3 cz3 42 r5.1.Puts]:=hS91
    refine ge_nil fun a hF=>hKK _ _ (RS.of2 (l:=[ld b5 1 ((.slice Z12 m4.length cz12))]) (by kernel_rfl) ⟨hS89.c 6,trivial⟩ ⟨hS92.c 6,trivial⟩) ?_ a hF
    refine go_alt3 (fun KK hKK=>?_) ?_
    ·by_cases hc12:r5.1.Puts.length+m4.length≤8796093022208
     ·rw [if_pos hc12] at h
      refine ge_appendL (α:=SPut) (m:=0) (d:=100) (t:=26) (el:=42) (bytes:=16) (c1:=cz12) (A1:=Z12) (x:=(.tmp 97)) (y:=(.tmp 99)) (ty:=26) (v:=v17) (z:=.agg #[vI 0,vI 0]) (l:=r5.1.Puts) (us:=m4) (by kernel_rfl) (by kernel_rfl) (by kernel_rfl) (by kernel_rfl) (by kernel_rfl) rfl hS92 (hS92.rdAt 9 rfl) rfl (Nat.mul_le_of_le_div _ _ _ hc12) fun v18 w28 hS93=>?_
      have hS94:St w0 w28 [Own.of v18 42 (r5.1.Puts++m4),bk b2 #[vI r9.2.Code,vI r9.2.At] 31,bk b6 #[(.slice Z9 r9.1.Vars.length cz9),(.slice Z10 r9.1.Puts.length cz10),vI r9.1.Steps] 28,ro Z9 cz9 3 r9.1.Vars,ro Z10 cz10 42 r9.1.Puts,Own.frz ft17 wf17,bk b5 #[(.slice Z11 m3.length cz11),(.slice Z12 m4.length cz12),vI z4] 28,bk b1 #[(.slice Z2 r5.1.Vars.length cz2),(.slice Z3 r5.1.Puts.length cz3),vI r5.1.Steps] 28,ro Z11 cz11 3 m3,ro Z12 cz12 42 m4,ro Z2 cz2 3 r5.1.Vars,ro Z3 cz3 42 r5.1.Puts]:=hS93
      refine g2 hKK<|g30 [7] [(14,v18)] ?_
      have hS106:=(((((((((((hS94.b 5).b 11).b 11).b 11).b 11).b 9).b 9).b 7).b 11).b 11).b 11).b 11
      obtain rfl:=si h
      exact go_fin3 fun a hF=>hQ _ _ _ (Outs.again ⟨ft17,wf17,v18,(Sub.refl _),hS106,hF.weaken ea⟩)
     rw [if_neg hc12] at h
     cases h
    exact go_nomore3
   rw [if_neg hc11] at h
   cases h
  exact go_nomore3
 exact go_nomore3
abbrev MeaningJoins.A3 (w0 wf6:World):Bool→Act→World→Prop:=fun (s:Bool) a w=>∃ (ft20:List Nat) (wf20:World),Sub wf6 wf20∧St w0 w [Own.frz ft20 wf20]∧Frm 127 a [(8,.bool s)]
abbrev MeaningJoins.B3 (w0:World):Bool→Exit→Act→World→Prop:=Rets Try.prog Try.f4 (MeaningJoins.Post w0)
theorem MeaningJoins_p3 (K:Nat) (w0:World) (Z:Zone) (l0:List SStmt) (A0:OA) (c0:Nat) (l1:List SStmt) (A1:OA) (c1:Nat) (l2:List Int) (A2:OA) (c2:Nat) (l3:List Int) (A3:OA) (c3:Nat) (hZ:∀ w,Sub w0 w→Z w) (hR0:RdZ Z A0 l0) (hL0:l0.length≤c0) (hR1:RdZ Z A1 l1) (hL1:l1.length≤c1) (hR2:RdL w0 A2 l2) (hL2:l2.length≤c2) (hR3:RdL w0 A3 l3) (hL3:l3.length≤c3) (ft1:List Nat) (wf1:World) (r1:Bool) (hc1:r1=true) (ft3:List Nat) (wf3:World) (hRz1:Sub wf1 wf3) (r4:List SStmt) (hds1:List HStmt) (ft4:List Nat) (wf4:World) (ft5:List Nat) (wf5:World) (hsb2:Sub wf4 wf5) (hsb3:Sub wf3 wf5) (hd1:DRows (Zand Z wf5) hds1 r4) (Z1:OA) (cz1:Nat) (ft6:List Nat) (wf6:World) (hsb4:Sub wf5 wf6) (hRd1:RdZ (Zand Z wf6) Z1 r4) (hLd1:r4.length≤cz1) (r5:SEnded×SFault) (b1 b2:Nat) (Z2:OA) (cz2:Nat) (Z3:OA) (cz3:Nat) (hc4:¬ (r5.2.Code=0)) (o:Bool ⊕ Bool) (h:MeaningJoins.p3 r5=some o) (w:World) (hS:St w0 w [bk b2 #[vI r5.2.Code,vI r5.2.At] 31,bk b1 #[(.slice Z2 r5.1.Vars.length cz2),(.slice Z3 r5.1.Puts.length cz3),vI r5.1.Steps] 28,ro Z2 cz2 3 r5.1.Vars,ro Z3 cz3 42 r5.1.Puts,Own.frz ft6 wf6]) (Q:Exit→Act→World→Prop) (hQ:∀ x a w,Outs (MeaningJoins.A3 w0 wf6) (MeaningJoins.B3 w0) o x a w→Q x a w):WE Try.prog 127 (subF Try.f4 [1,1,1,1,0,1,0,0]) Q [(0,.slice A0 l0.length c0),(1,.slice A1 l1.length c1),(2,.slice A2 l2.length c2),(3,.slice A3 l3.length c3),(9,pP b1 0),(10,pP b2 0),(25,.tuple #[.agg #[(.slice Z2 r5.1.Vars.length cz2),(.slice Z3 r5.1.Puts.length cz3),vI r5.1.Steps],.agg #[vI r5.2.Code,vI r5.2.At]]),(26,.slice A0 l0.length c0),(27,.slice Z1 r4.length cz1),(28,.slice A2 l2.length c2),(29,.slice A3 l3.length c3),(30,.tuple #[.agg #[(.slice Z2 r5.1.Vars.length cz2),(.slice Z3 r5.1.Puts.length cz3),vI r5.1.Steps],.agg #[vI r5.2.Code,vI r5.2.At]]),(31,.agg #[(.slice Z2 r5.1.Vars.length cz2),(.slice Z3 r5.1.Puts.length cz3),vI r5.1.Steps]),(32,.agg #[vI r5.2.Code,vI r5.2.At]),(33,pP b2 0),(34,vI r5.2.Code),(35,.bool true)] w:=by
 simp only [MeaningJoins.p3] at h
 refine wr [(0,0),(1,0),(2,0),(3,0),(4,0),(5,0),(6,0),(7,0),(8,0),(9,0),(10,0),(11,0),(12,0),(13,0),(14,0),(15,0)]<|gb [0,1,2,3,4] [(40,.bool ((r5.1.Vars.length:Int)==0)),(39,.bool ((r5.1.Vars.length:Int)==0)),(38,vI (r5.1.Vars.length:Int)),(37,(.slice Z2 r5.1.Vars.length cz2)),(36,pP b1 0)] [ld b1 0 ((.slice Z2 r5.1.Vars.length cz2))] ⟨hS.c 1,trivial⟩ ?_
 by_cases hc16:(r5.1.Vars.length:Int)=0
 ·rw [if_pos hc16] at h
  refine gk 40 ((r5.1.Vars.length:Int)==0) true (beq_iff_eq.2 hc16)<|gb [5,6,7,8,9,10] [(46,.bool ((r5.1.Puts.length:Int)==0)),(45,.bool ((r5.1.Puts.length:Int)==0)),(44,.bool ((r5.1.Puts.length:Int)==0)),(43,vI (r5.1.Puts.length:Int)),(42,(.slice Z3 r5.1.Puts.length cz3)),(41,pP b1 1)] [ld b1 1 ((.slice Z3 r5.1.Puts.length cz3))] ⟨hS.c 1,trivial⟩ ?_
  by_cases hc17:(r5.1.Puts.length:Int)=0
  ·rw [if_pos hc17] at h
   refine gk 46 ((r5.1.Puts.length:Int)==0) true (beq_iff_eq.2 hc17)<|gb [11,12,13,14,15] [(8,.bool (r5.1.Steps==0)),(50,.bool (r5.1.Steps==0)),(49,.bool (r5.1.Steps==0)),(48,vI r5.1.Steps),(47,pP b1 2)] [ld b1 2 (vI r5.1.Steps)] ⟨hS.c 1,trivial⟩ ?_
   have hS118:=hS.p [4] rfl
   obtain rfl:=si h
   exact ge_nil fun a hF=>hQ _ _ _ (Outs.again ⟨ft6,wf6,(Sub.refl _),hS118,hF.weaken ea⟩)
  rw [if_neg hc17] at h
  refine gk 46 ((r5.1.Puts.length:Int)==0) false (beq_eq_false_iff_ne.2 hc17)<|gb0 [11,12,13,14,15] [(8,.bool false),(50,.bool false),(49,undef),(48,undef),(47,undef)] ?_
  have hS120:=hS.p [4] rfl
  obtain rfl:=si h
  exact ge_nil fun a hF=>hQ _ _ _ (Outs.again ⟨ft6,wf6,(Sub.refl _),hS120,hF.weaken ea⟩)
 rw [if_neg hc16] at h
 refine gk 40 ((r5.1.Vars.length:Int)==0) false (beq_eq_false_iff_ne.2 hc16)<|gb0 [5,6,7,8,9,10,11,12,13,14,15] [(8,.bool false),(50,.bool false),(49,undef),(48,undef),(47,undef),(46,.bool false),(45,.bool false),(44,undef),(43,undef),(42,undef),(41,undef)] ?_
 have hS122:=hS.p [4] rfl
 obtain rfl:=si h
 exact ge_nil fun a hF=>hQ _ _ _ (Outs.again ⟨ft6,wf6,(Sub.refl _),hS122,hF.weaken ea⟩)
theorem MeaningJoins_ok (K:Nat) (Z:Zone) (l0:List SStmt) (A0:OA) (c0:Nat) (l1:List SStmt) (A1:OA) (c1:Nat) (l2:List Int) (A2:OA) (c2:Nat) (l3:List Int) (A3:OA) (c3:Nat) (w0:World) (hZ:∀ w,Sub w0 w→Z w) (hR0:RdZ Z A0 l0) (hL0:l0.length≤c0) (hR1:RdZ Z A1 l1) (hL1:l1.length≤c1) (hR2:RdL w0 A2 l2) (hL2:l2.length≤c2) (hR3:RdL w0 A3 l3) (hL3:l3.length≤c3) (r:Bool) (h:MeaningJoins.f K l0 l1 l2 l3=some r) :
  Calls Try.prog 4 #[.slice A0 l0.length c0,.slice A1 l1.length c1,.slice A2 l2.length c2,.slice A3 l3.length c3] w0 (MeaningJoins.Post w0 r):=by
 have hS:=St.start w0
 unfold MeaningJoins.f at h
 refine calls_enter (n:=127) (args:=[.slice A0 l0.length c0,.slice A1 l1.length c1,.slice A2 l2.length c2,.slice A3 l3.length c3]) (fn:=Try.f4) rfl rfl rfl rfl ?_
 show WE _ _ _ _ [(0,.slice A0 l0.length c0),(1,.slice A1 l1.length c1),(2,.slice A2 l2.length c2),(3,.slice A3 l3.length c3)] _
 obtain ⟨ft1,wf1,hS1⟩:=hS.frz0
 refine ws fun K1 hK1=>wr [(0,0)]<|gb0 [0] [(8,.bool false)]<|gn hK1<|ws fun K2 hK2=>ws fun K3 hK3=>wr [(0,1),(1,0)] ?_
 rcases hq1:does.f K with _ | r1
 ·rw [hq1] at h; cases h
 rw [hq1] at h
 simp only [] at h
 refine ge_call (d:=some 15) (f:=6) (args:=#[]) (by kernel_rfl) (does_ok K (Zand Z wf1) _ (fun w' k=>⟨(hZ w' (hS1.subw.trans k)),(hS1.frzSub 0 rfl).trans k⟩) _ hq1) ?_
 rintro _ w1 ⟨rfl,hS2⟩
 refine ⟨_,rfl,hS2.below,?_⟩
 have hS3:=hS1.call hS2
 refine gb0 [1] [(16,.bool (!r1))]<|gn hK3 ?_
 by_cases hc1:r1=true
 ·rw [if_pos hc1] at h
  refine wk 16 (!r1) false (congrArg (fun z=>!z) hc1)<|wf<|we_skip fun a hF=>hK2 _ _ ?_ a hF
  refine ws fun K4 hK4=>?_
  rcases hq4:MeaningJoins.p0 K l0 l1 with _ | (_ | rr4)
  ·rw [hq4] at h; cases h
  ·rw [hq4] at h
   simp only [] at h
   refine kp (MeaningJoins_p0 K w0 Z l0 A0 c0 l1 A1 c1 l2 A2 c2 l3 A3 c3 hZ hR0 hL0 hR1 hL1 hR2 hL2 hR3 hL3 ft1 wf1 r1 hc1 _ hq4 _ hS3 _ ?_)
   rintro _ a w4 ⟨rfl,ft3,wf3,hRz1,hS10,hF⟩
   replace hS10:St w0 w4 [Own.frz ft3 wf3]:=hS10
   refine hK4 [(0,.slice A0 l0.length c0),(1,.slice A1 l1.length c1),(2,.slice A2 l2.length c2),(3,.slice A3 l3.length c3)] w4 ?_ a hF
   refine ws fun K8 hK8=>wr [(0,0),(1,1),(2,0),(3,0),(4,1),(5,0),(6,0),(7,0),(8,1),(9,1),(10,2),(11,2)] ?_
   rcases hq5:ps_Twin.f K l0 with _ | r4
   ·rw [hq5] at h; cases h
   rw [hq5] at h
   simp only [] at h
   refine gb0 [0] [(26,.slice A0 l0.length c0)]<|ge_call (d:=some 27) (f:=9) (args:=#[.slice A0 l0.length c0]) (by kernel_rfl) (ps_Twin_ok K (Zand Z wf3) l0 A0 c0 _ (fun w' k=>⟨(hZ w' (hS10.subw.trans k)),(hS10.frzSub 0 rfl).trans k⟩) (hR0.up (ZLe.in _ _)) hL0 _ hq5) ?_
   rintro _ w5 ⟨v1,hds1,ft4,wf4,rfl,hd1,hS11⟩
   refine ⟨_,rfl,hS11.below,?_⟩
   have hS14:=((hS10.call hS11).b 2).b 2
   obtain ⟨ft5,wf5,hsb2,hsb3,hS15⟩:=hS14.frzMerge
   replace hd1:DRows (Zand Z wf5) hds1 r4:=hd1.up (ZLe.both hsb3 hsb2)
   refine gb0 [2,3] [(29,.slice A3 l3.length c3),(28,.slice A2 l2.length c2)] ?_
   obtain ⟨Z1,cz1,rfl⟩:=hS15.dopen 1 rfl hd1
   have hS16:=hS15.b 1
   obtain ⟨ft6,wf6,hsb4,-,hRd1,hLd1,hS17⟩:=hS16.dfrz (Z:=Z) hd1
   rcases hq6:meaning_Run.f K r4 l2 l3 with _ | r5
   ·rw [hq6] at h; cases h
   rw [hq6] at h
   simp only [] at h
   refine ge_call (d:=some 30) (f:=11) (args:=#[.slice Z1 r4.length cz1,.slice A2 l2.length c2,.slice A3 l3.length c3]) (by kernel_rfl) (meaning_Run_ok K (Zand Z wf6) r4 Z1 cz1 l2 A2 c2 l3 A3 c3 _ (fun w' k=>⟨(hZ w' (hS17.subw.trans k)),(hS17.frzSub 0 rfl).trans k⟩) hRd1 hLd1 (hS17.rd hR2) hL2 (hS17.rd hR3) hL3 _ hq6) ?_
   rintro _ w6 ⟨v2,v3,rfl,hS18⟩
   refine ⟨_,rfl,hS18.below,?_⟩
   have hS19:=hS17.call hS18
   refine gb0 [5,6,7] [(32,.agg #[vI r5.2.Code,vI r5.2.At]),(31,.agg #[v2,v3,vI r5.1.Steps]),(25,.tuple #[.agg #[v2,v3,vI r5.1.Steps],.agg #[vI r5.2.Code,vI r5.2.At]])]<|gw (some 9) (.cells #[.slice none 0 0,.slice none 0 0,vI 0] 28) (fun b=>pP b 0) hS19 fun b1 w7 hx1 hS20=>?_
   refine gw (some 10) (.cells #[vI 0,vI 0] 31) (fun b=>pP b 0) hS20 fun b2 w8 hx2 hS21=>?_
   obtain ⟨Z2,cz2,rfl⟩:=hS21.open 2 rfl
   obtain ⟨Z3,cz3,rfl⟩:=hS21.open 3 rfl
   have hS22:=hS21.b 1
   refine gs b1 0 #[.slice none 0 0,.slice none 0 0,vI 0] 28 [(.slice Z2 r5.1.Vars.length cz2),(.slice Z3 r5.1.Puts.length cz3),vI r5.1.Steps] hS22 fun w9 hS23=>?_
   have hS25:=(hS23.nc #[(.slice Z2 r5.1.Vars.length cz2),(.slice Z3 r5.1.Puts.length cz3),vI r5.1.Steps] (by kernel_rfl)).b 1
   refine gs b2 0 #[vI 0,vI 0] 31 [vI r5.2.Code,vI r5.2.At] hS25 fun w10 hS26=>?_
   have hS27:=hS26.nc #[vI r5.2.Code,vI r5.2.At] (by kernel_rfl)
   refine gn hK8<|ws fun K9 hK9=>ws fun K10 hK10=>wr [(0,0),(1,0),(2,0)]<|gb [0,1,2] [(35,.bool (r5.2.Code != 0)),(34,vI r5.2.Code),(33,pP b2 0)] [ld b2 0 (vI r5.2.Code)] ⟨hS27.c 0,trivial⟩<|gn hK10 ?_
   by_cases hc4:r5.2.Code=0
   ·rw [if_pos hc4] at h
    refine wk 35 (r5.2.Code != 0) false (bne_eq_false_iff_eq.2 hc4)<|wf<|we_skip fun a hF=>hK9 _ _ ?_ a hF
    refine ws fun K11 hK11=>?_
    rcases hq9:MeaningJoins.p1 K l1 l3 r5 with _ | (⟨m3,m4,z4,z5,z6⟩ | rr2)
    ·rw [hq9] at h; cases h
    ·rw [hq9] at h
     simp only [] at h
     refine kp (MeaningJoins_p1 K w0 Z l0 A0 c0 l1 A1 c1 l2 A2 c2 l3 A3 c3 hZ hR0 hL0 hR1 hL1 hR2 hL2 hR3 hL3 ft1 wf1 r1 hc1 ft3 wf3 hRz1 r4 hds1 ft4 wf4 ft5 wf5 hsb2 hsb3 hd1 Z1 cz1 ft6 wf6 hsb4 hRd1 hLd1 r5 b1 b2 Z2 cz2 Z3 cz3 hc4 _ hq9 _ hS27 _ ?_)
     rintro _ a w16 ⟨rfl,ft11,wf11,b5,v9,v10,hRz2,hS53,hF⟩
     replace hS53:St w0 w16 [bk b5 #[v9,v10,vI z4] 28,bk b2 #[vI z5,vI z6] 31,bk b1 #[(.slice Z2 r5.1.Vars.length cz2),(.slice Z3 r5.1.Puts.length cz3),vI r5.1.Steps] 28,Own.of v9 3 m3,Own.of v10 42 m4,ro Z2 cz2 3 r5.1.Vars,ro Z3 cz3 42 r5.1.Puts,Own.frz ft11 wf11]:=hS53
     refine hK11 [(0,.slice A0 l0.length c0),(1,.slice A1 l1.length c1),(2,.slice A2 l2.length c2),(3,.slice A3 l3.length c3),(9,pP b1 0),(10,pP b2 0),(11,pP b5 0)] w16 ?_ a hF
     refine ws fun K12 hK12=>ws fun K13 hK13=>wr [(0,0),(1,0),(2,0)]<|gb [0,1,2] [(62,.bool (z5 != 0)),(61,vI z5),(60,pP b2 0)] [ld b2 0 (vI z5)] ⟨hS53.c 1,trivial⟩<|gn hK13 ?_
     by_cases hc5:z5=0
     ·rw [if_pos hc5] at h
      refine wk 62 (z5 != 0) false (bne_eq_false_iff_eq.2 hc5)<|wf<|we_skip fun a hF=>hK12 _ _ ?_ a hF
      refine ws fun K14 hK14=>wr [(0,0),(1,1),(2,0),(3,1),(4,2),(5,0)]<|gb0 [0] [(63,.slice A0 l0.length c0)]<|ge_call (d:=some 64) (f:=9) (args:=#[.slice A0 l0.length c0]) (by kernel_rfl) (ps_Twin_ok K (Zand Z wf11) l0 A0 c0 _ (fun w' k=>⟨(hZ w' (hS53.subw.trans k)),(hS53.frzSub 7 rfl).trans k⟩) (hR0.up (ZLe.in _ _)) hL0 _ hq5) ?_
      rintro _ w17 ⟨v11,hds3,ft12,wf12,rfl,hd3,hS54⟩
      refine ⟨_,rfl,hS54.below,?_⟩
      have hS57:=((hS53.call hS54).b 9).b 2
      obtain ⟨ft13,wf13,hsb9,hsb10,hS58⟩:=hS57.frzMerge
      replace hd3:DRows (Zand Z wf13) hds3 r4:=hd3.up (ZLe.both hsb10 hsb9)
      rcases hq11:ps_Twin.f K l1 with _ | r8
      ·rw [hq11] at h; cases h
      rw [hq11] at h
      simp only [] at h
      refine gb0 [2] [(65,.slice A1 l1.length c1)]<|ge_call (d:=some 66) (f:=9) (args:=#[.slice A1 l1.length c1]) (by kernel_rfl) (ps_Twin_ok K (Zand Z wf13) l1 A1 c1 _ (fun w' k=>⟨(hZ w' (hS58.subw.trans k)),(hS58.frzSub 0 rfl).trans k⟩) (hR1.up (ZLe.in _ _)) hL1 _ hq11) ?_
      rintro _ w18 ⟨v12,hds4,ft14,wf14,rfl,hd4,hS59⟩
      refine ⟨_,rfl,hS59.below,?_⟩
      have hS62:=((hS58.call hS59).b 2).b 2
      obtain ⟨ft15,wf15,hsb11,hsb12,hS63⟩:=hS62.frzMerge
      replace hd4:DRows (Zand Z wf15) hds4 r8:=hd4.up (ZLe.both hsb12 hsb11)
      obtain ⟨Z7,cz7,rfl⟩:=hS63.dopen 1 rfl hd4
      have hS64:=hS63.b 1
      obtain ⟨ft16,wf16,hsb13,-,hRd3,hLd3,hS65⟩:=hS64.dfrz (Z:=Z) hd4
      obtain ⟨hds5,hd5,hf1⟩:=hRd3.ex
      have hS66:=hS65.b 1
      by_cases hc6:r4.length+r8.length≤733007751850
      ·rw [if_pos hc6] at h
       have hd6:DRows (Zand Z wf16) (hds3++hds5) (r4++r8):=DRows.app (hd3.up (ZLe.up (hsb12.trans hsb13))) hd5
       refine ge_same (t:=66) (v:=.slice Z7 r8.length cz7) (v':=.slice Z7 hds5.length cz7) (by kernel_rfl) (congrArg (fun z=>Value.slice Z7 z cz7) (show r8.length=hds5.length from (DRows.len hd5).symm)) ?_
       refine ge_appendL (α:=HStmt) (m:=0) (d:=67) (t:=22) (el:=70) (bytes:=192) (c1:=cz7) (A1:=Z7) (x:=(.tmp 64)) (y:=(.tmp 66)) (ty:=22) (v:=v11) (z:=.agg #[vI 0,vI 0,vI 0,vI 0,.slice none 0 0,vI 0,vI 0,vI 0,.slice none 0 0,vI 0,vI 0,.slice none 0 0,.slice none 0 0,.slice none 0 0]) (l:=hds3) (us:=hds5) (by kernel_rfl) (by kernel_rfl) (by kernel_rfl) (by kernel_rfl) (by kernel_rfl) rfl hS66 (hf1 _ ⟨(hZ _ hS66.subw),(hS66.frzSub 1 rfl)⟩) rfl (Nat.mul_le_of_le_div _ _ _ (by have h0:hds3.length=r4.length:=DRows.len (hd3.up (ZLe.up (hsb12.trans hsb13))); have h1:hds5.length=r8.length:=DRows.len hd5; omega)) fun v13 w19 hS67=>?_
       have hS68:St w0 w19 [Own.of v13 70 (hds3++hds5),Own.frz ft16 wf16,bk b5 #[v9,v10,vI z4] 28,bk b2 #[vI z5,vI z6] 31,bk b1 #[(.slice Z2 r5.1.Vars.length cz2),(.slice Z3 r5.1.Puts.length cz3),vI r5.1.Steps] 28,Own.of v9 3 m3,Own.of v10 42 m4,ro Z2 cz2 3 r5.1.Vars,ro Z3 cz3 42 r5.1.Puts]:=hS67
       refine gb0 [5] [(12,v13)]<|gn hK14<|ws fun K15 hK15=>wr [(0,0),(1,0),(2,0),(3,1),(4,0),(5,0),(6,0),(7,1),(8,2),(9,2)]<|gb0 [0,1,2] [(71,.slice A3 l3.length c3),(70,.slice A2 l2.length c2),(69,v13)] ?_
       obtain ⟨Z8,cz8,rfl⟩:=hS68.dopen 0 rfl hd6
       have hS70:=(hS68.b 1).b 1
       obtain ⟨ft17,wf17,hsb14,-,hRd4,hLd4,hS71⟩:=hS70.dfrz (Z:=Z) hd6
       rcases hq12:meaning_Run.f K (r4++r8) l2 l3 with _ | r9
       ·rw [hq12] at h; cases h
       rw [hq12] at h
       simp only [] at h
       refine ge_call (d:=some 72) (f:=11) (args:=#[.slice Z8 ((r4++r8).length) cz8,.slice A2 l2.length c2,.slice A3 l3.length c3]) (by kernel_rfl) (meaning_Run_ok K (Zand Z wf17) (r4++r8) Z8 cz8 l2 A2 c2 l3 A3 c3 _ (fun w' k=>⟨(hZ w' (hS71.subw.trans k)),(hS71.frzSub 0 rfl).trans k⟩) hRd4 hLd4 (hS71.rd hR2) hL2 (hS71.rd hR3) hL3 _ hq12) ?_
       rintro _ w20 ⟨v14,v15,rfl,hS72⟩
       refine ⟨_,rfl,hS72.below,?_⟩
       have hS73:=hS71.call hS72
       refine gb0 [4,5,6] [(74,.agg #[vI r9.2.Code,vI r9.2.At]),(73,.agg #[v14,v15,vI r9.1.Steps]),(68,.tuple #[.agg #[v14,v15,vI r9.1.Steps],.agg #[vI r9.2.Code,vI r9.2.At]])]<|gw (some 13) (.cells #[.slice none 0 0,.slice none 0 0,vI 0] 28) (fun b=>pP b 0) hS73 fun b6 w21 hx4 hS74=>?_
       obtain ⟨Z9,cz9,rfl⟩:=hS74.open 1 rfl
       obtain ⟨Z10,cz10,rfl⟩:=hS74.open 2 rfl
       refine gs b6 0 #[.slice none 0 0,.slice none 0 0,vI 0] 28 [(.slice Z9 r9.1.Vars.length cz9),(.slice Z10 r9.1.Puts.length cz10),vI r9.1.Steps] hS74 fun w22 hS75=>?_
       have hS77:=(hS75.nc #[(.slice Z9 r9.1.Vars.length cz9),(.slice Z10 r9.1.Puts.length cz10),vI r9.1.Steps] (by kernel_rfl)).b 5
       refine gs b2 0 #[vI z5,vI z6] 31 [vI r9.2.Code,vI r9.2.At] hS77 fun w23 hS78=>?_
       have hS79:=hS78.nc #[vI r9.2.Code,vI r9.2.At] (by kernel_rfl)
       refine gn hK15<|ws fun K16 hK16=>ws fun K17 hK17=>wr [(0,0),(1,0),(2,0),(3,0),(4,0),(5,0),(6,0),(7,0)]<|gb [0,1,2,3] [(78,.bool (r9.2.Code==2)),(77,.bool (r9.2.Code==2)),(76,vI r9.2.Code),(75,pP b2 0)] [ld b2 0 (vI r9.2.Code)] ⟨hS79.c 0,trivial⟩ ?_
       by_cases hc7:r9.2.Code=2
       ·rw [if_pos hc7] at h
        refine gk 78 (r9.2.Code==2) true (beq_iff_eq.2 hc7)<|gb0 [4,5,6,7] [(82,.bool true),(81,undef),(80,undef),(79,undef)]<|gn hK17<|wt<|ws fun K18 hK18=>wr [(0,0),(1,1),(2,0),(3,0),(4,0),(5,0),(6,0),(7,0),(8,0),(9,0),(10,0),(11,0)] ?_
        rcases hq13:pr_Size.f K (r4++r8) with _ | r10
        ·rw [hq13] at h; cases h
        rw [hq13] at h
        simp only [] at h
        refine gb0 [0] [(83,.slice Z8 ((r4++r8).length) cz8)]<|ge_call (d:=some 84) (f:=17) (args:=#[.slice Z8 ((r4++r8).length) cz8]) (by kernel_rfl) (pr_Size_ok K (Zand Z wf17) (r4++r8) Z8 cz8 _ (fun w' k=>⟨(hZ w' (hS79.subw.trans k)),(hS79.frzSub 4 rfl).trans k⟩) hRd4 hLd4 _ hq13) ?_
        rintro _ w24 ⟨rfl,hS80⟩
        refine ⟨_,rfl,hS80.below,?_⟩
        have hS81:=hS79.call hS80
        refine gb0 [2,3] [(86,.bool (decide (r10 > 200))),(85,.bool (decide (r10 > 200)))] ?_
        by_cases hc8:r10 > 200
        ·rw [if_pos hc8] at h
         refine gk 86 (decide (r10 > 200)) true (decide_eq_true hc8)<|gb0 [4,5,6,7,8,9,10,11] [(8,.bool true),(93,.bool true),(92,undef),(91,undef),(90,undef),(89,undef),(88,undef),(87,undef)]<|gn hK18 ?_
         have hS82:=hS81.takeN 0
         obtain rfl:=si h
         exact we_ret (pr0 [.tmp 8] [.bool true] ⟨rfl,hS82⟩)
        rw [if_neg hc8] at h
        refine gk 86 (decide (r10 > 200)) false (decide_eq_false hc8)<|gb [4,5,6,7,8,9,10,11] [(8,.bool (decide ((IntKind.i64.wrap (r5.1.Steps+z4)) > 20000))),(93,.bool (decide ((IntKind.i64.wrap (r5.1.Steps+z4)) > 20000))),(92,.bool (decide ((IntKind.i64.wrap (r5.1.Steps+z4)) > 20000))),(91,vI (IntKind.i64.wrap (r5.1.Steps+z4))),(90,vI z4),(89,pP b5 2),(88,vI r5.1.Steps),(87,pP b1 2)] [ld b1 2 (vI r5.1.Steps),ld b5 2 (vI z4)] ⟨hS81.c 6,hS81.c 5,trivial⟩<|gn hK18 ?_
        have hS83:=hS81.takeN 0
        obtain rfl:=si h
        exact we_ret (pr0 [.tmp 8] [.bool (decide ((IntKind.i64.wrap (r5.1.Steps+z4)) > 20000))] ⟨rfl,hS83⟩)
       rw [if_neg hc7] at h
       refine gk 78 (r9.2.Code==2) false (beq_eq_false_iff_ne.2 hc7)<|gb [4,5,6,7] [(82,.bool (r9.2.Code==11)),(81,.bool (r9.2.Code==11)),(80,vI r9.2.Code),(79,pP b2 0)] [ld b2 0 (vI r9.2.Code)] ⟨hS79.c 0,trivial⟩<|gn hK17 ?_
       by_cases hc9:r9.2.Code=11
       ·rw [if_pos hc9] at h
        refine wk 82 (r9.2.Code==11) true (beq_iff_eq.2 hc9)<|wt<|ws fun K19 hK19=>wr [(0,0),(1,1),(2,0),(3,0),(4,0),(5,0),(6,0),(7,0),(8,0),(9,0),(10,0),(11,0)] ?_
        rcases hq14:pr_Size.f K (r4++r8) with _ | r11
        ·rw [hq14] at h; cases h
        rw [hq14] at h
        simp only [] at h
        refine gb0 [0] [(83,.slice Z8 ((r4++r8).length) cz8)]<|ge_call (d:=some 84) (f:=17) (args:=#[.slice Z8 ((r4++r8).length) cz8]) (by kernel_rfl) (pr_Size_ok K (Zand Z wf17) (r4++r8) Z8 cz8 _ (fun w' k=>⟨(hZ w' (hS79.subw.trans k)),(hS79.frzSub 4 rfl).trans k⟩) hRd4 hLd4 _ hq14) ?_
        rintro _ w25 ⟨rfl,hS84⟩
        refine ⟨_,rfl,hS84.below,?_⟩
        have hS85:=hS79.call hS84
        refine gb0 [2,3] [(86,.bool (decide (r11 > 200))),(85,.bool (decide (r11 > 200)))] ?_
        by_cases hc10:r11 > 200
        ·rw [if_pos hc10] at h
         refine gk 86 (decide (r11 > 200)) true (decide_eq_true hc10)<|gb0 [4,5,6,7,8,9,10,11] [(8,.bool true),(93,.bool true),(92,undef),(91,undef),(90,undef),(89,undef),(88,undef),(87,undef)]<|gn hK19 ?_
         have hS86:=hS85.takeN 0
         obtain rfl:=si h
         exact we_ret (pr0 [.tmp 8] [.bool true] ⟨rfl,hS86⟩)
        rw [if_neg hc10] at h
        refine gk 86 (decide (r11 > 200)) false (decide_eq_false hc10)<|gb [4,5,6,7,8,9,10,11] [(8,.bool (decide ((IntKind.i64.wrap (r5.1.Steps+z4)) > 20000))),(93,.bool (decide ((IntKind.i64.wrap (r5.1.Steps+z4)) > 20000))),(92,.bool (decide ((IntKind.i64.wrap (r5.1.Steps+z4)) > 20000))),(91,vI (IntKind.i64.wrap (r5.1.Steps+z4))),(90,vI z4),(89,pP b5 2),(88,vI r5.1.Steps),(87,pP b1 2)] [ld b1 2 (vI r5.1.Steps),ld b5 2 (vI z4)] ⟨hS85.c 6,hS85.c 5,trivial⟩<|gn hK19 ?_
        have hS87:=hS85.takeN 0
        obtain rfl:=si h
        exact we_ret (pr0 [.tmp 8] [.bool (decide ((IntKind.i64.wrap (r5.1.Steps+z4)) > 20000))] ⟨rfl,hS87⟩)
       rw [if_neg hc9] at h
       refine wk 82 (r9.2.Code==11) false (beq_eq_false_iff_ne.2 hc9)<|wf<|we_skip fun a hF=>hK16 _ _ ?_ a hF
       refine ws fun K20 hK20=>?_
       obtain ⟨Z11,cz11,rfl⟩:=hS79.open 7 rfl
       obtain ⟨Z12,cz12,rfl⟩:=hS79.open 8 rfl
       rcases hq15:MeaningJoins.p2 r5 m4 with _ | (m6 | rr1)
       ·rw [hq15] at h; cases h
       ·rw [hq15] at h
        simp only [] at h
        refine we_keep (e':=((0,.slice A0 l0.length c0)::(1,.slice A1 l1.length c1)::(2,.slice A2 l2.length c2)::(3,.slice A3 l3.length c3)::(9,pP b1 0)::(10,pP b2 0)::(11,pP b5 0)::(12,.slice Z8 ((r4++r8).length) cz8)::(13,pP b6 0)::(60,pP b2 0)::(61,vI z5)::(62,.bool false)::(63,.slice A0 l0.length c0)::(64,v11)::(65,.slice A1 l1.length c1)::(67,.slice Z8 ((r4++r8).length) cz8)::(68,.tuple #[.agg #[(.slice Z9 r9.1.Vars.length cz9),(.slice Z10 r9.1.Puts.length cz10),vI r9.1.Steps],.agg #[vI r9.2.Code,vI r9.2.At]])::(69,.slice Z8 ((r4++r8).length) cz8)::(70,.slice A2 l2.length c2)::(71,.slice A3 l3.length c3)::(72,.tuple #[.agg #[(.slice Z9 r9.1.Vars.length cz9),(.slice Z10 r9.1.Puts.length cz10),vI r9.1.Steps],.agg #[vI r9.2.Code,vI r9.2.At]])::(73,.agg #[(.slice Z9 r9.1.Vars.length cz9),(.slice Z10 r9.1.Puts.length cz10),vI r9.1.Steps])::(74,.agg #[vI r9.2.Code,vI r9.2.At])::(75,pP b2 0)::(76,vI r9.2.Code)::(77,.bool (r9.2.Code==2))::(78,.bool false)::(79,pP b2 0)::(80,vI r9.2.Code)::(81,.bool (r9.2.Code==11))::(82,.bool false)::[])) ea (MeaningJoins_p2 K w0 Z l0 A0 c0 l1 A1 c1 l2 A2 c2 l3 A3 c3 hZ hR0 hL0 hR1 hL1 hR2 hL2 hR3 hL3 ft1 wf1 r1 hc1 ft3 wf3 hRz1 r4 hds1 ft4 wf4 ft5 wf5 hsb2 hsb3 hd1 Z1 cz1 ft6 wf6 hsb4 hRd1 hLd1 r5 b1 b2 Z2 cz2 Z3 cz3 hc4 ft11 wf11 b5 m3 m4 z4 z5 z6 hRz2 hc5 v11 hds3 ft12 wf12 ft13 wf13 hsb9 hsb10 hd3 r8 hds4 ft14 wf14 ft15 wf15 hsb11 hsb12 hd4 Z7 cz7 ft16 wf16 hsb13 hRd3 hLd3 hds5 hd5 hf1 hc6 hd6 Z8 cz8 ft17 wf17 hsb14 hRd4 hLd4 r9 b6 Z9 cz9 Z10 cz10 hc7 hc9 Z11 cz11 Z12 cz12 _ hq15 _ hS79 _ ?_)
        rintro _ a w29 ⟨rfl,ft19,wf19,v19,hRz3,hS107,hF⟩
        replace hS107:St w0 w29 [bk b2 #[vI r9.2.Code,vI r9.2.At] 31,bk b6 #[(.slice Z9 r9.1.Vars.length cz9),(.slice Z10 r9.1.Puts.length cz10),vI r9.1.Steps] 28,bk b5 #[(.slice Z11 m3.length cz11),(.slice Z12 m4.length cz12),vI z4] 28,bk b1 #[(.slice Z2 r5.1.Vars.length cz2),(.slice Z3 r5.1.Puts.length cz3),vI r5.1.Steps] 28,Own.of v19 42 m6,ro Z9 cz9 3 r9.1.Vars,ro Z10 cz10 42 r9.1.Puts,ro Z11 cz11 3 m3,ro Z12 cz12 42 m4,ro Z2 cz2 3 r5.1.Vars,ro Z3 cz3 42 r5.1.Puts,Own.frz ft19 wf19]:=hS107
        refine hK20 [(9,pP b1 0),(10,pP b2 0),(11,pP b5 0),(13,pP b6 0),(14,v19)] w29 ?_ a hF
        refine ws fun K21 hK21=>wr [(0,0),(1,0),(2,0),(3,0),(4,0),(5,0),(6,0),(7,0),(8,1),(9,0),(10,0),(11,0),(12,0),(13,0),(14,1),(15,0),(16,0),(17,0),(18,0),(19,0),(20,0),(21,0),(22,0),(23,0),(24,0),(25,0),(26,0)]<|gb [0,1,2,3] [(104,.bool (r9.2.Code==0)),(103,.bool (r9.2.Code==0)),(102,vI r9.2.Code),(101,pP b2 0)] [ld b2 0 (vI r9.2.Code)] ⟨hS107.c 0,trivial⟩ ?_
        by_cases hc13:r9.2.Code=0
        ·rw [if_pos hc13] at h
         refine gk 104 (r9.2.Code==0) true (beq_iff_eq.2 hc13) ?_
         rcases hq16:ps_Same_int.f K r9.1.Vars m3 with _ | r12
         ·rw [hq16] at h; cases h
         rw [hq16] at h
         simp only [] at h
         refine gb [4,5,6,7] [(108,(.slice Z11 m3.length cz11)),(107,pP b5 0),(106,(.slice Z9 r9.1.Vars.length cz9)),(105,pP b6 0)] [ld b6 0 ((.slice Z9 r9.1.Vars.length cz9)),ld b5 0 ((.slice Z11 m3.length cz11))] ⟨hS107.c 1,hS107.c 2,trivial⟩<|ge_call (d:=some 109) (f:=18) (args:=#[(.slice Z9 r9.1.Vars.length cz9),(.slice Z11 m3.length cz11)]) (by kernel_rfl) (ps_Same_int_ok K r9.1.Vars Z9 cz9 m3 Z11 cz11 _ (hS107.rdAt 5 rfl) (hS107.capAt 5 rfl) (hS107.rdAt 7 rfl) (hS107.capAt 7 rfl) _ hq16) ?_
         rintro _ w30 ⟨rfl,hS108⟩
         refine ⟨_,rfl,hS108.below,?_⟩
         have hS109:=hS107.call hS108
         refine gb0 [9,10] [(111,.bool r12),(110,.bool r12)] ?_
         by_cases hc14:r12=true
         ·rw [if_pos hc14] at h
          refine gk 111 r12 true hc14<|gb [11,12,13] [(114,v19),(113,(.slice Z10 r9.1.Puts.length cz10)),(112,pP b6 1)] [ld b6 1 ((.slice Z10 r9.1.Puts.length cz10))] ⟨hS109.c 1,trivial⟩ ?_
          obtain ⟨Z13,cz13,rfl⟩:=hS109.open 4 rfl
          rcases hq17:ps_Same_api_Put.f K r9.1.Puts m6 with _ | r13
          ·rw [hq17] at h; cases h
          rw [hq17] at h
          simp only [] at h
          refine ge_call (d:=some 115) (f:=19) (args:=#[(.slice Z10 r9.1.Puts.length cz10),(.slice Z13 m6.length cz13)]) (by kernel_rfl) (ps_Same_api_Put_ok K r9.1.Puts Z10 cz10 m6 Z13 cz13 _ (hS109.rdAt 6 rfl) (hS109.capAt 6 rfl) (hS109.rdAt 4 rfl) (hS109.capAt 4 rfl) _ hq17) ?_
          rintro _ w31 ⟨rfl,hS110⟩
          refine ⟨_,rfl,hS110.below,?_⟩
          have hS111:=hS109.call hS110
          refine gb0 [15,16] [(117,.bool r13),(116,.bool r13)] ?_
          by_cases hc15:r13=true
          ·rw [if_pos hc15] at h
           refine gk 117 r13 true hc15<|gb [17,18,19,20,21,22,23,24,25,26] [(8,.bool (r9.1.Steps==(IntKind.i64.wrap (r5.1.Steps+z4)))),(126,.bool (r9.1.Steps==(IntKind.i64.wrap (r5.1.Steps+z4)))),(125,.bool (r9.1.Steps==(IntKind.i64.wrap (r5.1.Steps+z4)))),(124,vI (IntKind.i64.wrap (r5.1.Steps+z4))),(123,vI z4),(122,pP b5 2),(121,vI r5.1.Steps),(120,pP b1 2),(119,vI r9.1.Steps),(118,pP b6 2)] [ld b6 2 (vI r9.1.Steps),ld b1 2 (vI r5.1.Steps),ld b5 2 (vI z4)] ⟨hS111.c 1,hS111.c 3,hS111.c 2,trivial⟩<|gn hK21 ?_
           have hS112:=hS111.takeN 0
           obtain rfl:=si h
           exact we_ret (pr0 [.tmp 8] [.bool (r9.1.Steps==(IntKind.i64.wrap (r5.1.Steps+z4)))] ⟨rfl,hS112⟩)
          rw [if_neg hc15] at h
          refine gk 117 r13 false (Bool.eq_false_iff.2 hc15)<|gb0 [17,18,19,20,21,22,23,24,25,26] [(8,.bool false),(126,.bool false),(125,undef),(124,undef),(123,undef),(122,undef),(121,undef),(120,undef),(119,undef),(118,undef)]<|gn hK21 ?_
          have hS113:=hS111.takeN 0
          obtain rfl:=si h
          exact we_ret (pr0 [.tmp 8] [.bool false] ⟨rfl,hS113⟩)
         rw [if_neg hc14] at h
         refine gk 111 r12 false (Bool.eq_false_iff.2 hc14)<|gb0 [11,12,13] [(114,undef),(113,undef),(112,undef)]<|ge_off rfl rfl rfl (by kernel_rfl) ?_
         refine gb0 [15,16,17,18,19,20,21,22,23,24,25,26] [(8,.bool false),(126,.bool false),(125,undef),(124,undef),(123,undef),(122,undef),(121,undef),(120,undef),(119,undef),(118,undef),(117,.bool false),(116,.bool false)]<|gn hK21 ?_
         have hS114:=hS109.takeN 0
         obtain rfl:=si h
         exact we_ret (pr0 [.tmp 8] [.bool false] ⟨rfl,hS114⟩)
        rw [if_neg hc13] at h
        refine gk 104 (r9.2.Code==0) false (beq_eq_false_iff_ne.2 hc13)<|gb0 [4,5,6,7] [(108,undef),(107,undef),(106,undef),(105,undef)]<|ge_off rfl rfl rfl (by kernel_rfl) ?_
        refine gb0 [9,10,11,12,13] [(114,undef),(113,undef),(112,undef),(111,.bool false),(110,.bool false)]<|ge_off rfl rfl rfl (by kernel_rfl) ?_
        refine gb0 [15,16,17,18,19,20,21,22,23,24,25,26] [(8,.bool false),(126,.bool false),(125,undef),(124,undef),(123,undef),(122,undef),(121,undef),(120,undef),(119,undef),(118,undef),(117,.bool false),(116,.bool false)]<|gn hK21 ?_
        have hS115:=hS107.takeN 0
        obtain rfl:=si h
        exact we_ret (pr0 [.tmp 8] [.bool false] ⟨rfl,hS115⟩)
       rw [hq15] at h
       simp only [] at h
       refine we_keep (e':=((0,.slice A0 l0.length c0)::(1,.slice A1 l1.length c1)::(2,.slice A2 l2.length c2)::(3,.slice A3 l3.length c3)::(9,pP b1 0)::(10,pP b2 0)::(11,pP b5 0)::(12,.slice Z8 ((r4++r8).length) cz8)::(13,pP b6 0)::(60,pP b2 0)::(61,vI z5)::(62,.bool false)::(63,.slice A0 l0.length c0)::(64,v11)::(65,.slice A1 l1.length c1)::(67,.slice Z8 ((r4++r8).length) cz8)::(68,.tuple #[.agg #[(.slice Z9 r9.1.Vars.length cz9),(.slice Z10 r9.1.Puts.length cz10),vI r9.1.Steps],.agg #[vI r9.2.Code,vI r9.2.At]])::(69,.slice Z8 ((r4++r8).length) cz8)::(70,.slice A2 l2.length c2)::(71,.slice A3 l3.length c3)::(72,.tuple #[.agg #[(.slice Z9 r9.1.Vars.length cz9),(.slice Z10 r9.1.Puts.length cz10),vI r9.1.Steps],.agg #[vI r9.2.Code,vI r9.2.At]])::(73,.agg #[(.slice Z9 r9.1.Vars.length cz9),(.slice Z10 r9.1.Puts.length cz10),vI r9.1.Steps])::(74,.agg #[vI r9.2.Code,vI r9.2.At])::(75,pP b2 0)::(76,vI r9.2.Code)::(77,.bool (r9.2.Code==2))::(78,.bool false)::(79,pP b2 0)::(80,vI r9.2.Code)::(81,.bool (r9.2.Code==11))::(82,.bool false)::[])) ea (MeaningJoins_p2 K w0 Z l0 A0 c0 l1 A1 c1 l2 A2 c2 l3 A3 c3 hZ hR0 hL0 hR1 hL1 hR2 hL2 hR3 hL3 ft1 wf1 r1 hc1 ft3 wf3 hRz1 r4 hds1 ft4 wf4 ft5 wf5 hsb2 hsb3 hd1 Z1 cz1 ft6 wf6 hsb4 hRd1 hLd1 r5 b1 b2 Z2 cz2 Z3 cz3 hc4 ft11 wf11 b5 m3 m4 z4 z5 z6 hRz2 hc5 v11 hds3 ft12 wf12 ft13 wf13 hsb9 hsb10 hd3 r8 hds4 ft14 wf14 ft15 wf15 hsb11 hsb12 hd4 Z7 cz7 ft16 wf16 hsb13 hRd3 hLd3 hds5 hd5 hf1 hc6 hd6 Z8 cz8 ft17 wf17 hsb14 hRd4 hLd4 r9 b6 Z9 cz9 Z10 cz10 hc7 hc9 Z11 cz11 Z12 cz12 _ hq15 _ hS79 _ ?_)
       rintro _ a w1 ⟨_,rfl,hb⟩
       obtain rfl:=si h
       exact hb
      rw [if_neg hc6] at h
      cases h
     rw [if_neg hc5] at h
     refine wk 62 (z5 != 0) true (bne_iff_ne.2 hc5)<|wt<|ws fun K22 hK22=>wr [(0,0)]<|gb0 [0] [(8,.bool true)]<|gn hK22 ?_
     have hS116:=hS53.takeN 0
     obtain rfl:=si h
     exact we_ret (pr0 [.tmp 8] [.bool true] ⟨rfl,hS116⟩)
    rw [hq9] at h
    simp only [] at h
    refine kp (MeaningJoins_p1 K w0 Z l0 A0 c0 l1 A1 c1 l2 A2 c2 l3 A3 c3 hZ hR0 hL0 hR1 hL1 hR2 hL2 hR3 hL3 ft1 wf1 r1 hc1 ft3 wf3 hRz1 r4 hds1 ft4 wf4 ft5 wf5 hsb2 hsb3 hd1 Z1 cz1 ft6 wf6 hsb4 hRd1 hLd1 r5 b1 b2 Z2 cz2 Z3 cz3 hc4 _ hq9 _ hS27 _ ?_)
    rintro _ a w1 ⟨_,rfl,hb⟩
    obtain rfl:=si h
    exact hb
   rw [if_neg hc4] at h
   refine wk 35 (r5.2.Code != 0) true (bne_iff_ne.2 hc4)<|wt<|ws fun K23 hK23=>?_
   rcases hq18:MeaningJoins.p3 r5 with _ | (q2 | rr3)
   ·rw [hq18] at h; cases h
   ·rw [hq18] at h
    simp only [] at h
    refine kp (MeaningJoins_p3 K w0 Z l0 A0 c0 l1 A1 c1 l2 A2 c2 l3 A3 c3 hZ hR0 hL0 hR1 hL1 hR2 hL2 hR3 hL3 ft1 wf1 r1 hc1 ft3 wf3 hRz1 r4 hds1 ft4 wf4 ft5 wf5 hsb2 hsb3 hd1 Z1 cz1 ft6 wf6 hsb4 hRd1 hLd1 r5 b1 b2 Z2 cz2 Z3 cz3 hc4 _ hq18 _ hS27 _ ?_)
    rintro _ a w32 ⟨rfl,ft21,wf21,hRz4,hS123,hF⟩
    replace hS123:St w0 w32 [Own.frz ft21 wf21]:=hS123
    refine hK23 [(8,.bool q2)] w32 ?_ a hF
    have hS124:=hS123.takeN 0
    obtain rfl:=si h
    exact we_ret (pr0 [.tmp 8] [.bool q2] ⟨rfl,hS124⟩)
   rw [hq18] at h
   simp only [] at h
   refine kp (MeaningJoins_p3 K w0 Z l0 A0 c0 l1 A1 c1 l2 A2 c2 l3 A3 c3 hZ hR0 hL0 hR1 hL1 hR2 hL2 hR3 hL3 ft1 wf1 r1 hc1 ft3 wf3 hRz1 r4 hds1 ft4 wf4 ft5 wf5 hsb2 hsb3 hd1 Z1 cz1 ft6 wf6 hsb4 hRd1 hLd1 r5 b1 b2 Z2 cz2 Z3 cz3 hc4 _ hq18 _ hS27 _ ?_)
   rintro _ a w1 ⟨_,rfl,hb⟩
   obtain rfl:=si h
   exact hb
  rw [hq4] at h
  simp only [] at h
  refine kp (MeaningJoins_p0 K w0 Z l0 A0 c0 l1 A1 c1 l2 A2 c2 l3 A3 c3 hZ hR0 hL0 hR1 hL1 hR2 hL2 hR3 hL3 ft1 wf1 r1 hc1 _ hq4 _ hS3 _ ?_)
  rintro _ a w1 ⟨_,rfl,hb⟩
  obtain rfl:=si h
  exact hb
 rw [if_neg hc1] at h
 refine wk 16 (!r1) true (congrArg (fun z=>!z) (Bool.eq_false_iff.2 hc1))<|wt<|ws fun K24 hK24=>wr [(0,0)]<|gb0 [0] [(8,.bool false)]<|gn hK24 ?_
 have hS125:=hS3.takeN 0
 obtain rfl:=si h
 exact we_ret (pr0 [.tmp 8] [.bool false] ⟨rfl,hS125⟩)
end Go.Proofs.Ytcjphfmmmlgcbaa.GV
