/- Walks of single functions, written by a program of this work. -/
import Derived.Test.YtnckikjcjgmdlaaGWCompileMakes3
namespace Go.Proofs.Ytnckikjcjgmdlaa.GV
open Go Go.RowKit
set_option linter.unusedVariables false
set_option linter.unusedSimpArgs false
set_option maxRecDepth 100000

/-! punctual/punctualref.nodes -/
abbrev punctualref_nodes.Post (w0:World) (Z:Zone) (r:List SExpr) (e:Ending) (w:World):Prop:=∃ (v1:Value) (hds1:List HExpr) (ft:List Nat) (wf:World),e=.returned (v1)∧DRows (Zand Z wf) hds1 r∧St w0 w [Own.of v1 45 hds1,Own.frz ft wf]
abbrev punctualref_nodes.Rec (rec_punctualref_nodes:Int→Int→(List SExpr)→Int→Option (List SExpr)):Prop:=∀ (Z:Zone) (x0_0:Int) (x0_1:Int) (l0_2:List SExpr) (A0_2:OA) (c0_2:Nat) (x1:Int) (w0:World) (hZ:∀ w,Sub w0 w→Z w) (hR0_2:RdZ Z A0_2 l0_2) (hL0_2:l0_2.length≤c0_2) (r:List SExpr) (h:rec_punctualref_nodes x0_0 x0_1 l0_2 x1=some r),Calls Try.prog 98 #[.agg #[vI x0_0,vI x0_1,.slice A0_2 l0_2.length c0_2],vI x1] w0 (punctualref_nodes.Post w0 Z r)
def punctualref_nodes.r0 (l0_2 : List SExpr) (x1 : Int) (rec_punctualref_nodes : Int → Int → (List SExpr) → Int → Option (List SExpr)) : (List SExpr) × Nat → Option (((List SExpr) × Nat) ⊕ ((List SExpr) ⊕ (List SExpr)))
 | (m1,i1) =>
  if (i1:Int)<(l0_2.length:Int) then
   match l0_2[i1]? with
   | none=>none
   | some e1 =>
    if (m1.length:Int) > x1 then
     some (.inr (.inr m1))
    else
     match rec_punctualref_nodes e1.Kind e1.N e1.A x1 with
     | none=>none
     | some r1 =>
      if m1.length+r1.length≤3518437208883 then
       some (.inl ((m1++r1),(i1+1)))
      else
       none
  else
   some (.inr (.inl m1))
def punctualref_nodes.b (K : Nat) (rec_punctualref_nodes : Int → Int → (List SExpr) → Int → Option (List SExpr)) (x0_0 : Int) (x0_1 : Int) (l0_2 : List SExpr) (x1 : Int) : Option (List SExpr) :=
 match iter (punctualref_nodes.r0 l0_2 x1 rec_punctualref_nodes) K (([(⟨x0_0,x0_1,l0_2⟩:SExpr)]:List SExpr),0) with
 | none=>none
 | some (.inl m3) =>
  some m3
 | some (.inr rr1) =>
  some rr1
abbrev punctualref_nodes.A0 (w0:World) (Z:Zone) (l0_2:List SExpr) (A0_2:OA) (c0_2:Nat) (x1:Int) (wf1:World):((List SExpr)×Nat)→Act→World→Prop:=fun (s:(List SExpr)×Nat) a w=>∃ (ft2:List Nat) (wf2:World) (v1:Value) (hds1:List HExpr),Sub wf1 wf2∧DRows (Zand Z wf2) hds1 s.1∧St w0 w [Own.of v1 45 hds1,Own.frz ft2 wf2]∧Frm 29 a [(1,vI x1),(5,v1),(11,.slice A0_2 l0_2.length c0_2),(12,vI (l0_2.length:Int)),(13,vI (s.2:Int))]
abbrev punctualref_nodes.B0 (w0:World) (Z:Zone) (wf1:World):((List SExpr) ⊕ (List SExpr))→Exit→Act→World→Prop:=Exits 0 (fun (s:(List SExpr)) a w=>∃ (ft3:List Nat) (wf3:World) (v2:Value) (hds2:List HExpr),Sub wf1 wf3∧DRows (Zand Z wf3) hds2 s∧St w0 w [Own.of v2 45 hds2,Own.frz ft3 wf3]∧Frm 29 a [(5,v2)]) (Rets Try.prog Try.f98 (punctualref_nodes.Post w0 Z))
theorem punctualref_nodes_r0 (K:Nat) (w0:World) (Z:Zone) (x0_0 x0_1:Int) (l0_2:List SExpr) (A0_2:OA) (c0_2:Nat) (x1:Int) (hZ:∀ w,Sub w0 w→Z w) (hR0_2:RdZ Z A0_2 l0_2) (hL0_2:l0_2.length≤c0_2) (rec_punctualref_nodes:Int→Int→(List SExpr)→Int→Option (List SExpr)) (hr_punctualref_nodes:punctualref_nodes.Rec rec_punctualref_nodes) (ft1:List Nat) (wf1:World) (b1 b2:Nat) (s:(List SExpr)×Nat) (o:((List SExpr)×Nat) ⊕ ((List SExpr) ⊕ (List SExpr))) (h:punctualref_nodes.r0 l0_2 x1 rec_punctualref_nodes s=some o) (a:Act) (w:World) (hA:punctualref_nodes.A0 w0 Z l0_2 A0_2 c0_2 x1 wf1 s a w) (Q:Exit→Act→World→Prop) (hQ:∀ x a w,Outs (punctualref_nodes.A0 w0 Z l0_2 A0_2 c0_2 x1 wf1) (punctualref_nodes.B0 w0 Z wf1) o x a w→Q x a w):(subF Try.f98 [1,1,0,1,0,0]).wp Try.prog Q a w:=by
 obtain ⟨m1,i1⟩:=s
 obtain ⟨ft2,wf2,v1,hds1,hsb1,hd1,hS,hF⟩:=hA
 replace hS:St w0 w [Own.of v1 45 hds1,Own.frz ft2 wf2]:=hS
 simp only [punctualref_nodes.r0] at h
 refine (?_:WE Try.prog 29 (subF Try.f98 [1,1,0,1,0,0]) Q [(1,vI x1),(5,v1),(11,.slice A0_2 l0_2.length c0_2),(12,vI (l0_2.length:Int)),(13,vI (i1:Int))] w) a hF
 clear hF a
 refine ws fun K5 hK5=>wr [(0,0)]<|gb0 [0] [(14,.bool (decide ((i1:Int)<(l0_2.length:Int))))]<|gn hK5<|ws fun K6 hK6=>?_
 by_cases hc1:(i1:Int)<(l0_2.length:Int)
 ·rw [if_pos hc1] at h
  refine wk 14 (decide ((i1:Int)<(l0_2.length:Int))) true (decide_eq_true hc1)<|wt<|we_skip fun a hF=>hK6 _ _ ?_ a hF
  refine ws fun K7 hK7=>we_block<|ws fun K8 hK8=>wr [(0,0),(1,0),(2,1),(3,2)] ?_
  rcases hx3:l0_2[i1]? with _ | e1
  ·rw [hx3] at h; cases h
  rw [hx3] at h
  simp only [] at h
  obtain ⟨An1,cn1,hCs1,hLn1,hRn1⟩:=SExpr.getZ hR0_2 hx3
  refine gi 15 0 43 45 3 l0_2.length c0_2 (.tmp 11) (.tmp 13) A0_2 .i64 (i1:Int) i1 (hR0_2.eqSome (hZ _ hS.subw) (pos_of_get hx3)) rfl (lt_of_get hx3) ?_
  refine gb [1] [(16,.agg #[vI e1.Kind,vI e1.N,.slice An1 e1.A.length cn1])] [.loaded ⟨blkOf A0_2,offOf A0_2+i1*3,none⟩ (vI e1.Kind),.loaded ⟨blkOf A0_2,offOf A0_2+i1*3+1,none⟩ (vI e1.N),.loaded ⟨blkOf A0_2,offOf A0_2+i1*3+2,none⟩ (.slice An1 e1.A.length cn1)] ⟨hCs1 _ (hZ _ hS.subw) 0 _ rfl,hCs1 _ (hZ _ hS.subw) 1 _ rfl,hCs1 _ (hZ _ hS.subw) 2 _ rfl,trivial⟩<|gw (some 7) (.cells #[vI 0,vI 0,.slice none 0 0] 45) (fun b=>pP b 0) hS fun b3 w3 hx4 hS8=>?_
  refine gs b3 0 #[vI 0,vI 0,.slice none 0 0] 45 [vI e1.Kind,vI e1.N,.slice An1 e1.A.length cn1] hS8 fun w4 hS9=>?_
  have hS10:=hS9.nc #[vI e1.Kind,vI e1.N,.slice An1 e1.A.length cn1] (by kernel_rfl)
  refine gn hK8<|ws fun K9 hK9=>ws fun K10 hK10=>wr [(0,0),(1,0),(2,0),(3,0)]<|gb0 [0] [(17,v1)] ?_
  obtain ⟨Z1,cz1,rfl⟩:=hS10.dopen 1 rfl hd1
  refine gb0 [1,2,3] [(20,.bool (decide ((m1.length:Int) > x1))),(19,vI x1),(18,vI (m1.length:Int))]<|gn hK10 ?_
  by_cases hc2:(m1.length:Int) > x1
  ·rw [if_pos hc2] at h
   refine wk 20 (decide ((m1.length:Int) > x1)) true (decide_eq_true hc2)<|wt<|ws fun K11 hK11=>wr [(0,0),(1,0)]<|gb0 [0,1] [(4,(.slice Z1 m1.length cz1)),(21,(.slice Z1 m1.length cz1))]<|gn hK11 ?_
   have hS13:=hS10.p [1,2] rfl
   obtain rfl:=si h
   exact we_ret fun a hF=>hQ _ _ _ (Outs.out nofun (Exits.on ⟨rfl,(pr0 [.tmp 4] [(.slice Z1 m1.length cz1)] ⟨(.slice Z1 m1.length cz1),hds1,ft2,wf2,rfl,hd1,hS13⟩) a hF⟩))
  rw [if_neg hc2] at h
  refine wk 20 (decide ((m1.length:Int) > x1)) false (decide_eq_false hc2)<|wf<|we_skip fun a hF=>hK9 _ _ ?_ a hF
  refine wr [(0,0),(1,0),(2,0),(3,1),(4,2),(5,0)] ?_
  rcases hq1:rec_punctualref_nodes e1.Kind e1.N e1.A x1 with _ | r1
  ·rw [hq1] at h; cases h
  rw [hq1] at h
  simp only [] at h
  refine gb [0,1,2] [(24,vI x1),(23,.agg #[vI e1.Kind,vI e1.N,.slice An1 e1.A.length cn1]),(22,(.slice Z1 m1.length cz1))] [ld b3 0 (vI e1.Kind),ld b3 1 (vI e1.N),ld b3 2 (.slice An1 e1.A.length cn1)] ⟨hS10.c 0,hS10.c 0,hS10.c 0,trivial⟩<|ge_call (d:=some 25) (f:=98) (args:=#[.agg #[vI e1.Kind,vI e1.N,.slice An1 e1.A.length cn1],vI x1]) (by kernel_rfl) (hr_punctualref_nodes (Zand Z wf2) e1.Kind e1.N e1.A An1 cn1 x1 _ (fun w' k=>⟨(hZ w' (hS10.subw.trans k)),(hS10.frzSub 2 rfl).trans k⟩) (hRn1.up (ZLe.in _ _)) hLn1 _ hq1) ?_
  rintro _ w5 ⟨v3,hds3,ft4,wf4,rfl,hd4,hS14⟩
  refine ⟨_,rfl,hS14.below,?_⟩
  have hS17:=((hS10.call hS14).b 4).b 2
  obtain ⟨ft5,wf5,hsb3,hsb4,hS18⟩:=hS17.frzMerge
  replace hd4:DRows (Zand Z wf5) hds3 r1:=hd4.up (ZLe.both hsb4 hsb3)
  obtain ⟨Z2,cz2,rfl⟩:=hS18.dopen 1 rfl hd4
  have hS19:=hS18.b 1
  obtain ⟨ft6,wf6,hsb5,-,hRd1,hLd1,hS20⟩:=hS19.dfrz (Z:=Z) hd4
  obtain ⟨hds4,hd5,hf1⟩:=hRd1.ex
  have hS21:=hS20.b 2
  by_cases hc3:m1.length+r1.length≤3518437208883
  ·rw [if_pos hc3] at h
   have hd6:DRows (Zand Z wf6) (hds1++hds4) (m1++r1):=DRows.app (hd1.up (ZLe.up (hsb4.trans hsb5))) hd5
   refine ge_same (t:=25) (v:=.slice Z2 r1.length cz2) (v':=.slice Z2 hds4.length cz2) (by kernel_rfl) (congrArg (fun z=>Value.slice Z2 z cz2) (show r1.length=hds4.length from (DRows.len hd5).symm)) ?_
   refine ge_appendL (α:=HExpr) (m:=0) (d:=26) (t:=43) (el:=45) (bytes:=40) (c1:=cz2) (A1:=Z2) (x:=(.tmp 22)) (y:=(.tmp 25)) (ty:=43) (v:=(.slice Z1 m1.length cz1)) (z:=.agg #[vI 0,vI 0,.slice none 0 0]) (l:=hds1) (us:=hds4) (by kernel_rfl) (by kernel_rfl) (by kernel_rfl) (by kernel_rfl) (by kernel_rfl) rfl hS21 (hf1 _ ⟨(hZ _ hS21.subw),(hS21.frzSub 1 rfl)⟩) rfl (Nat.mul_le_of_le_div _ _ _ (by have h0:hds1.length=m1.length:=DRows.len (hd1.up (ZLe.up (hsb4.trans hsb5))); have h1:hds4.length=r1.length:=DRows.len hd5; omega)) fun v4 w6 hS22=>?_
   have hS23:St w0 w6 [Own.of v4 45 (hds1++hds4),Own.frz ft6 wf6,bk b3 #[vI e1.Kind,vI e1.N,.slice An1 e1.A.length cn1] 45]:=hS22
   refine gb0 [5] [(5,v4)]<|gn hK7<|wr [(0,0),(1,0)]<|ge_addn (d:=27) (ty:=3) (x:=(.tmp 13)) (y:=(.const (vI 1))) (t:=3) (t2:=3) (k:=.i64) (m:=i1) (by kernel_rfl) (by kernel_rfl) (by kernel_rfl) (by have h0:=RdZ.small hR0_2 (hZ _ hS23.subw); omega) ?_
   refine gb0 [1] [(13,vI ((i1+1:Nat):Int))] ?_
   have hS26:=hS23.p [0,1] rfl
   obtain rfl:=si h
   exact ge_nil fun a hF=>hQ _ _ _ (Outs.again ⟨ft6,wf6,v4,(hds1++hds4),((hsb1.trans hsb4).trans hsb5),hd6,hS26,hF.weaken ea⟩)
  rw [if_neg hc3] at h
  cases h
 rw [if_neg hc1] at h
 refine wk 14 (decide ((i1:Int)<(l0_2.length:Int))) false (decide_eq_false hc1)<|wf ?_
 have hS28:=(hS.b 1).b 1
 obtain rfl:=si h
 exact we_exit fun a hF=>hQ _ _ _ (Outs.out nofun (Exits.here ⟨ft2,wf2,v1,hds1,hsb1,hd1,hS28,hF.weaken ea⟩))
theorem punctualref_nodes_step (K:Nat) (rec_punctualref_nodes:Int→Int→(List SExpr)→Int→Option (List SExpr)) (hr_punctualref_nodes:punctualref_nodes.Rec rec_punctualref_nodes) (Z:Zone) (x0_0 x0_1:Int) (l0_2:List SExpr) (A0_2:OA) (c0_2:Nat) (x1:Int) (w0:World) (hZ:∀ w,Sub w0 w→Z w) (hR0_2:RdZ Z A0_2 l0_2) (hL0_2:l0_2.length≤c0_2) (r:List SExpr) (h:punctualref_nodes.b K rec_punctualref_nodes x0_0 x0_1 l0_2 x1=some r) :
  Calls Try.prog 98 #[.agg #[vI x0_0,vI x0_1,.slice A0_2 l0_2.length c0_2],vI x1] w0 (punctualref_nodes.Post w0 Z r):=by
 have hS:=St.start w0
 unfold punctualref_nodes.b at h
 refine calls_enter (n:=29) (args:=[.agg #[vI x0_0,vI x0_1,.slice A0_2 l0_2.length c0_2],vI x1]) (fn:=Try.f98) rfl rfl rfl rfl ?_
 show WE _ _ _ _ [(0,.agg #[vI x0_0,vI x0_1,.slice A0_2 l0_2.length c0_2]),(1,vI x1)] _
 obtain ⟨ft1,wf1,hS1⟩:=hS.frz0
 refine ws fun K1 hK1=>wr [(0,1),(1,0)]<|gw (some 2) (.cells #[vI x0_0,vI x0_1,.slice A0_2 l0_2.length c0_2] 45) (fun b=>pP b 0) hS1 fun b1 w1 hx1 hS2=>?_
 refine gb0 [1] [(4,.slice none 0 0)]<|gn hK1<|ws fun K2 hK2=>wr [(0,0),(1,1),(2,0)]<|gb [0] [(8,.agg #[vI x0_0,vI x0_1,.slice A0_2 l0_2.length c0_2])] [ld b1 0 (vI x0_0),ld b1 1 (vI x0_1),ld b1 2 (.slice A0_2 l0_2.length c0_2)] ⟨hS2.c 0,hS2.c 0,hS2.c 0,trivial⟩<|gw (some 9) (.cells #[vI x0_0,vI x0_1,.slice A0_2 l0_2.length c0_2] 45) (fun b=>.slice (some ⟨b,0,none⟩) 1 1) hS2 fun b2 w2 hx2 hS3=>?_
 refine gb0 [2] [(5,.slice (some ⟨b2,0,none⟩) 1 1)]<|gn hK2<|ws fun K3 hK3=>ws fun K4 hK4=>wr [(0,0),(1,0),(2,0),(3,0)]<|gb [0,1,2,3] [(13,vI 0),(12,vI (l0_2.length:Int)),(11,.slice A0_2 l0_2.length c0_2),(10,pP b1 2)] [ld b1 2 (.slice A0_2 l0_2.length c0_2)] ⟨hS3.c 1,trivial⟩<|gn hK4<|we_block ?_
 have hS4:=hS3.asRow (α:=HExpr) (c:=1) ([(⟨x0_0,x0_1,⟨A0_2,l0_2.length,c0_2⟩⟩:HExpr)]:List HExpr) (Nat.le_refl _) (by decide) rfl rfl
 have hd3:DRows (Zand Z wf1) ([(⟨x0_0,x0_1,⟨A0_2,l0_2.length,c0_2⟩⟩:HExpr)]:List HExpr) ([(⟨x0_0,x0_1,l0_2⟩:SExpr)]:List SExpr):=(DRows.add (DRows.nil _) (SExpr.mkZ (⟨x0_0,x0_1,l0_2⟩:SExpr) hL0_2 (hR0_2.up (ZLe.in _ _))))
 have hS7:=hS4.p [0,2] rfl
 rcases hq2:iter (punctualref_nodes.r0 l0_2 x1 rec_punctualref_nodes) K (([(⟨x0_0,x0_1,l0_2⟩:SExpr)]:List SExpr),0) with _ | (m3 | rr1)
 ·rw [hq2] at h; cases h
 ·rw [hq2] at h
  simp only [] at h
  refine we_iter (A:=punctualref_nodes.A0 w0 Z l0_2 A0_2 c0_2 x1 wf1) (B:=punctualref_nodes.B0 w0 Z wf1) hq2 (fun a hF=>⟨ft1,wf1,(.slice (some ⟨b2,0,none⟩) ([(⟨x0_0,x0_1,l0_2⟩:SExpr)]:List SExpr).length 1),([(⟨x0_0,x0_1,⟨A0_2,l0_2.length,c0_2⟩⟩:HExpr)]:List HExpr),(Sub.refl _),hd3,hS7,hF.weaken ea⟩) (fun s o hf a w hA Q hQ=>punctualref_nodes_r0 K w0 Z x0_0 x0_1 l0_2 A0_2 c0_2 x1 hZ hR0_2 hL0_2 rec_punctualref_nodes hr_punctualref_nodes ft1 wf1 b1 b2 s o hf a w hA Q hQ) ?_
  rintro _ a w7 _ ⟨rfl,ft7,wf7,v5,hds5,hRz1,hRz2,hS29,hF⟩
  replace hS29:St w0 w7 [Own.of v5 45 hds5,Own.frz ft7 wf7]:=hS29
  refine hK3 [(5,v5)] w7 ?_ a hF
  refine ws fun K12 hK12=>wr [(0,0),(1,0)]<|gb0 [0,1] [(4,v5),(28,v5)]<|gn hK12 ?_
  have hS31:=(hS29.b 1).b 1
  obtain rfl:=si h
  exact we_ret (pr0 [.tmp 4] [v5] ⟨v5,hds5,ft7,wf7,rfl,hRz2,hS31⟩)
 rw [hq2] at h
 simp only [] at h
 refine we_iter (A:=punctualref_nodes.A0 w0 Z l0_2 A0_2 c0_2 x1 wf1) (B:=punctualref_nodes.B0 w0 Z wf1) hq2 (fun a hF=>⟨ft1,wf1,(.slice (some ⟨b2,0,none⟩) ([(⟨x0_0,x0_1,l0_2⟩:SExpr)]:List SExpr).length 1),([(⟨x0_0,x0_1,⟨A0_2,l0_2.length,c0_2⟩⟩:HExpr)]:List HExpr),(Sub.refl _),hd3,hS7,hF.weaken ea⟩) (fun s o hf a w hA Q hQ=>punctualref_nodes_r0 K w0 Z x0_0 x0_1 l0_2 A0_2 c0_2 x1 hZ hR0_2 hL0_2 rec_punctualref_nodes hr_punctualref_nodes ft1 wf1 b1 b2 s o hf a w hA Q hQ) ?_
 rintro _ a w1 _ ⟨rfl,hb⟩
 obtain rfl:=si h
 exact hb
def punctualref_nodes.recs (K : Nat) : Nat → (Int → Int → (List SExpr) → Int → Option (List SExpr))
 | 0=>fun _ _ _ _=>none
 | n+1=>punctualref_nodes.b K (punctualref_nodes.recs K n)
theorem punctualref_nodes_all (K n:Nat):punctualref_nodes.Rec (punctualref_nodes.recs K n):=by
 induction n with
 | zero=>exact (by unfold punctualref_nodes.Rec; intros; rename_i h; cases (show none=some _ from h))
 | succ n ih=>exact punctualref_nodes_step K _ ih
def punctualref_nodes.f (K : Nat) (x0_0 : Int) (x0_1 : Int) (l0_2 : List SExpr) (x1 : Int) : Option (List SExpr) := (punctualref_nodes.recs K K) x0_0 x0_1 l0_2 x1
theorem punctualref_nodes_ok (K:Nat) (Z:Zone) (x0_0 x0_1:Int) (l0_2:List SExpr) (A0_2:OA) (c0_2:Nat) (x1:Int) (w0:World) (hZ:∀ w,Sub w0 w→Z w) (hR0_2:RdZ Z A0_2 l0_2) (hL0_2:l0_2.length≤c0_2) (r:List SExpr) (h:punctualref_nodes.f K x0_0 x0_1 l0_2 x1=some r):Calls Try.prog 98 #[.agg #[vI x0_0,vI x0_1,.slice A0_2 l0_2.length c0_2],vI x1] w0 (punctualref_nodes.Post w0 Z r):=(punctualref_nodes_all K K) Z x0_0 x0_1 l0_2 A0_2 c0_2 x1 w0 hZ hR0_2 hL0_2 r h

/-! punctual/punctualref.wrongExpr -/
abbrev punctualref_wrongExpr.Post (w0:World) (r:Int) (e:Ending) (w:World):Prop:=e=.returned (vI r)∧St w0 w []
def punctualref_wrongExpr.r0 (r1 : List SExpr) : Nat → Option (Nat ⊕ (Unit ⊕ Int))
 | i1 =>
  if (i1:Int)<(r1.length:Int) then
   match r1[i1]? with
   | none=>none
   | some e1 =>
    if (i1:Int)=30 then
     some (.inr (.inr 2))
    else
     if ((mget (mset (mset (mset (mset (mset (mset (mset ([]:List (Int×Int)) 1 0) 2 0) 3 0) 4 1) 5 2) 6 2) 7 2) e1.Kind).isSome)=true then
      if (e1.A.length:Int)=((mget (mset (mset (mset (mset (mset (mset (mset ([]:List (Int×Int)) 1 0) 2 0) 3 0) 4 1) 5 2) 6 2) 7 2) e1.Kind).getD 0) then
       if e1.N<0 then
        some (.inr (.inr 3))
       else
        if e1.N > ((mget (mset (mset (mset ([]:List (Int×Int)) 1 999999999) 2 7) 3 3) e1.Kind).getD 0) then
         some (.inr (.inr 3))
        else
         some (.inl (i1+1))
      else
       some (.inr (.inr 6))
     else
      some (.inr (.inr 6))
  else
   some (.inr (.inl ()))
def punctualref_wrongExpr.f (K : Nat) (x0_0 : Int) (x0_1 : Int) (l0_2 : List SExpr) : Option Int :=
 match punctualref_nodes.f K x0_0 x0_1 l0_2 31 with
 | none=>none
 | some r1 =>
  match iter (punctualref_wrongExpr.r0 r1) K 0 with
  | none=>none
  | some (.inl _) =>
   some 0
  | some (.inr rr1) =>
   some rr1
abbrev punctualref_wrongExpr.A0 (w0:World) (r1:List SExpr) (Z1:OA) (cz1:Nat) (wf4:World):Nat→Act→World→Prop:=fun (s:Nat) a w=>∃ (ft5:List Nat) (wf5:World),Sub wf4 wf5∧St w0 w [Own.frz ft5 wf5]∧Frm 50 a [(9,.slice Z1 r1.length cz1),(10,vI (r1.length:Int)),(11,vI (s:Int))]
abbrev punctualref_wrongExpr.B0 (w0 wf4:World):(Unit ⊕ Int)→Exit→Act→World→Prop:=Exits 0 (fun (s:Unit) a w=>∃ (ft6:List Nat) (wf6:World),Sub wf4 wf6∧St w0 w [Own.frz ft6 wf6]∧Frm 50 a []) (Rets Try.prog Try.f79 (punctualref_wrongExpr.Post w0))
theorem punctualref_wrongExpr_r0 (K:Nat) (w0:World) (Z:Zone) (x0_0 x0_1:Int) (l0_2:List SExpr) (A0_2:OA) (c0_2:Nat) (hZ:∀ w,Sub w0 w→Z w) (hR0_2:RdZ Z A0_2 l0_2) (hL0_2:l0_2.length≤c0_2) (ft1:List Nat) (wf1:World) (b1:Nat) (r1:List SExpr) (hds1:List HExpr) (ft2:List Nat) (wf2:World) (ft3:List Nat) (wf3:World) (hsb1:Sub wf2 wf3) (hsb2:Sub wf1 wf3) (hd1:DRows (Zand Z wf3) hds1 r1) (Z1:OA) (cz1:Nat) (ft4:List Nat) (wf4:World) (hsb3:Sub wf3 wf4) (hRd1:RdZ (Zand Z wf4) Z1 r1) (hLd1:r1.length≤cz1) (s:Nat) (o:Nat ⊕ (Unit ⊕ Int)) (h:punctualref_wrongExpr.r0 r1 s=some o) (a:Act) (w:World) (hA:punctualref_wrongExpr.A0 w0 r1 Z1 cz1 wf4 s a w) (Q:Exit→Act→World→Prop) (hQ:∀ x a w,Outs (punctualref_wrongExpr.A0 w0 r1 Z1 cz1 wf4) (punctualref_wrongExpr.B0 w0 wf4) o x a w→Q x a w):(subF Try.f79 [1,0,1,0,0]).wp Try.prog Q a w:=by
 obtain ⟨i1,hs⟩:∃ z,z=s:=⟨s,rfl⟩
 subst hs
 obtain ⟨ft5,wf5,hsb4,hS,hF⟩:=hA
 replace hS:St w0 w [Own.frz ft5 wf5]:=hS
 simp only [punctualref_wrongExpr.r0] at h
 refine (?_:WE Try.prog 50 (subF Try.f79 [1,0,1,0,0]) Q [(9,.slice Z1 r1.length cz1),(10,vI (r1.length:Int)),(11,vI (i1:Int))] w) a hF
 clear hF a
 refine ws fun K4 hK4=>wr [(0,0)]<|gb0 [0] [(12,.bool (decide ((i1:Int)<(r1.length:Int))))]<|gn hK4<|ws fun K5 hK5=>?_
 by_cases hc1:(i1:Int)<(r1.length:Int)
 ·rw [if_pos hc1] at h
  refine wk 12 (decide ((i1:Int)<(r1.length:Int))) true (decide_eq_true hc1)<|wt<|we_skip fun a hF=>hK5 _ _ ?_ a hF
  refine ws fun K6 hK6=>we_block<|ws fun K7 hK7=>wr [(0,0),(1,0),(2,0),(3,1),(4,0),(5,2)]<|gb0 [0] [(13,vI (i1:Int))] ?_
  rcases hx2:r1[i1]? with _ | e1
  ·rw [hx2] at h; cases h
  rw [hx2] at h
  simp only [] at h
  obtain ⟨An1,cn1,hCs1,hLn1,hRn1⟩:=SExpr.getZ hRd1 hx2
  refine gi 14 0 43 45 3 r1.length cz1 (.tmp 9) (.tmp 11) Z1 .i64 (i1:Int) i1 (hRd1.eqSome ⟨(hZ _ hS.subw),(hsb4.trans (hS.frzSub 0 rfl))⟩ (pos_of_get hx2)) rfl (lt_of_get hx2) ?_
  refine gb [2] [(15,.agg #[vI e1.Kind,vI e1.N,.slice An1 e1.A.length cn1])] [.loaded ⟨blkOf Z1,offOf Z1+i1*3,none⟩ (vI e1.Kind),.loaded ⟨blkOf Z1,offOf Z1+i1*3+1,none⟩ (vI e1.N),.loaded ⟨blkOf Z1,offOf Z1+i1*3+2,none⟩ (.slice An1 e1.A.length cn1)] ⟨hCs1 _ ⟨(hZ _ hS.subw),(hsb4.trans (hS.frzSub 0 rfl))⟩ 0 _ rfl,hCs1 _ ⟨(hZ _ hS.subw),(hsb4.trans (hS.frzSub 0 rfl))⟩ 1 _ rfl,hCs1 _ ⟨(hZ _ hS.subw),(hsb4.trans (hS.frzSub 0 rfl))⟩ 2 _ rfl,trivial⟩<|gw (some 4) (.cells #[vI 0,vI 0,.slice none 0 0] 45) (fun b=>pP b 0) hS fun b2 w3 hx3 hS11=>?_
  refine gb0 [4] [(3,vI (i1:Int))]<|gs b2 0 #[vI 0,vI 0,.slice none 0 0] 45 [vI e1.Kind,vI e1.N,.slice An1 e1.A.length cn1] hS11 fun w4 hS12=>?_
  have hS13:=hS12.nc #[vI e1.Kind,vI e1.N,.slice An1 e1.A.length cn1] (by kernel_rfl)
  refine gn hK7<|ws fun K8 hK8=>ws fun K9 hK9=>wr [(0,0),(1,0)]<|gb0 [0,1] [(17,.bool ((i1:Int)==30)),(16,vI (i1:Int))]<|gn hK9 ?_
  by_cases hc2:(i1:Int)=30
  ·rw [if_pos hc2] at h
   refine wk 17 ((i1:Int)==30) true (beq_iff_eq.2 hc2)<|wt<|ws fun K10 hK10=>wr [(0,0)]<|gb0 [0] [(2,vI 2)]<|gn hK10 ?_
   have hS14:=hS13.takeN 0
   obtain rfl:=si h
   exact we_ret fun a hF=>hQ _ _ _ (Outs.out nofun (Exits.on ⟨rfl,(pr0 [.tmp 2] [vI 2] ⟨rfl,hS14⟩) a hF⟩))
  rw [if_neg hc2] at h
  refine wk 17 ((i1:Int)==30) false (beq_eq_false_iff_ne.2 hc2)<|wf<|we_skip fun a hF=>hK8 _ _ ?_ a hF
  refine ws fun K11 hK11=>wr [(0,1),(1,2),(2,2),(3,2),(4,2),(5,2),(6,2),(7,2),(8,0),(9,0),(10,0),(11,0),(12,0),(13,0),(14,0),(15,0),(16,0)]<|gw (some 19) (.map #[] 0) (fun b=>.map (some b)) hS13 fun b3 w5 hx4 hS15=>?_
  have hS16:=hS15.newMap (κ:=Int) (ν:=Int)
  refine ge_mapSet (κ:=Int) (ν:=Int) (b:=b3) (ins:=true) (mm:=0) (t:=113) (kt:=3) (et:=3) (x:=(.tmp 19)) (y:=(.const (vI 1))) (u:=(.const (vI 0))) (ty:=0) (m:=([]:List (Int×Int))) (k:=1) (v:=0) (vv:=vI 0) (by kernel_rfl) (by kernel_rfl) (by kernel_rfl) (by kernel_rfl) rfl (by kernel_rfl) (by kernel_rfl) hS16 fun w6 hS17=>?_
  refine ge_mapSet (κ:=Int) (ν:=Int) (b:=b3) (ins:=true) (mm:=0) (t:=113) (kt:=3) (et:=3) (x:=(.tmp 19)) (y:=(.const (vI 2))) (u:=(.const (vI 0))) (ty:=0) (m:=(mset ([]:List (Int×Int)) 1 0)) (k:=2) (v:=0) (vv:=vI 0) (by kernel_rfl) (by kernel_rfl) (by kernel_rfl) (by kernel_rfl) rfl (by kernel_rfl) (by kernel_rfl) hS17 fun w7 hS18=>?_
  refine ge_mapSet (κ:=Int) (ν:=Int) (b:=b3) (ins:=true) (mm:=0) (t:=113) (kt:=3) (et:=3) (x:=(.tmp 19)) (y:=(.const (vI 3))) (u:=(.const (vI 0))) (ty:=0) (m:=(mset (mset ([]:List (Int×Int)) 1 0) 2 0)) (k:=3) (v:=0) (vv:=vI 0) (by kernel_rfl) (by kernel_rfl) (by kernel_rfl) (by kernel_rfl) rfl (by kernel_rfl) (by kernel_rfl) hS18 fun w8 hS19=>?_
  refine ge_mapSet (κ:=Int) (ν:=Int) (b:=b3) (ins:=true) (mm:=0) (t:=113) (kt:=3) (et:=3) (x:=(.tmp 19)) (y:=(.const (vI 4))) (u:=(.const (vI 1))) (ty:=0) (m:=(mset (mset (mset ([]:List (Int×Int)) 1 0) 2 0) 3 0)) (k:=4) (v:=1) (vv:=vI 1) (by kernel_rfl) (by kernel_rfl) (by kernel_rfl) (by kernel_rfl) rfl (by kernel_rfl) (by kernel_rfl) hS19 fun w9 hS20=>?_
  refine ge_mapSet (κ:=Int) (ν:=Int) (b:=b3) (ins:=true) (mm:=0) (t:=113) (kt:=3) (et:=3) (x:=(.tmp 19)) (y:=(.const (vI 5))) (u:=(.const (vI 2))) (ty:=0) (m:=(mset (mset (mset (mset ([]:List (Int×Int)) 1 0) 2 0) 3 0) 4 1)) (k:=5) (v:=2) (vv:=vI 2) (by kernel_rfl) (by kernel_rfl) (by kernel_rfl) (by kernel_rfl) rfl (by kernel_rfl) (by kernel_rfl) hS20 fun w10 hS21=>?_
  refine ge_mapSet (κ:=Int) (ν:=Int) (b:=b3) (ins:=true) (mm:=0) (t:=113) (kt:=3) (et:=3) (x:=(.tmp 19)) (y:=(.const (vI 6))) (u:=(.const (vI 2))) (ty:=0) (m:=(mset (mset (mset (mset (mset ([]:List (Int×Int)) 1 0) 2 0) 3 0) 4 1) 5 2)) (k:=6) (v:=2) (vv:=vI 2) (by kernel_rfl) (by kernel_rfl) (by kernel_rfl) (by kernel_rfl) rfl (by kernel_rfl) (by kernel_rfl) hS21 fun w11 hS22=>?_
  refine ge_mapSet (κ:=Int) (ν:=Int) (b:=b3) (ins:=true) (mm:=0) (t:=113) (kt:=3) (et:=3) (x:=(.tmp 19)) (y:=(.const (vI 7))) (u:=(.const (vI 2))) (ty:=0) (m:=(mset (mset (mset (mset (mset (mset ([]:List (Int×Int)) 1 0) 2 0) 3 0) 4 1) 5 2) 6 2)) (k:=7) (v:=2) (vv:=vI 2) (by kernel_rfl) (by kernel_rfl) (by kernel_rfl) (by kernel_rfl) rfl (by kernel_rfl) (by kernel_rfl) hS22 fun w12 hS23=>?_
  refine gb [8,9,10] [(22,vI e1.Kind),(21,pP b2 0),(20,.map (some b3))] [ld b2 0 (vI e1.Kind)] ⟨hS23.c 1,trivial⟩<|ge_lookup2 (κ:=Int) (ν:=Int) (d:=23) (b:=b3) (q:=0) (t:=113) (kt:=3) (et:=3) (x:=(.tmp 20)) (y:=(.tmp 22)) (ty:=160) (m:=(mset (mset (mset (mset (mset (mset (mset ([]:List (Int×Int)) 1 0) 2 0) 3 0) 4 1) 5 2) 6 2) 7 2)) (k:=e1.Kind) (z:=0) (v:=((mget (mset (mset (mset (mset (mset (mset (mset ([]:List (Int×Int)) 1 0) 2 0) 3 0) 4 1) 5 2) 6 2) 7 2) e1.Kind).getD 0)) (zv:=vI 0) (vv:=vI ((mget (mset (mset (mset (mset (mset (mset (mset ([]:List (Int×Int)) 1 0) 2 0) 3 0) 4 1) 5 2) 6 2) 7 2) e1.Kind).getD 0)) (by kernel_rfl) (by kernel_rfl) (by kernel_rfl) (by kernel_rfl) (by kernel_rfl) (fun w'=>by kernel_rfl) rfl hS23 rfl rfl rfl ?_
  refine gb0 [12,13,14,15,16] [(6,.bool ((mget (mset (mset (mset (mset (mset (mset (mset ([]:List (Int×Int)) 1 0) 2 0) 3 0) 4 1) 5 2) 6 2) 7 2) e1.Kind).isSome)),(5,vI ((mget (mset (mset (mset (mset (mset (mset (mset ([]:List (Int×Int)) 1 0) 2 0) 3 0) 4 1) 5 2) 6 2) 7 2) e1.Kind).getD 0)),(25,.bool ((mget (mset (mset (mset (mset (mset (mset (mset ([]:List (Int×Int)) 1 0) 2 0) 3 0) 4 1) 5 2) 6 2) 7 2) e1.Kind).isSome)),(24,vI ((mget (mset (mset (mset (mset (mset (mset (mset ([]:List (Int×Int)) 1 0) 2 0) 3 0) 4 1) 5 2) 6 2) 7 2) e1.Kind).getD 0)),(18,.tuple #[vI ((mget (mset (mset (mset (mset (mset (mset (mset ([]:List (Int×Int)) 1 0) 2 0) 3 0) 4 1) 5 2) 6 2) 7 2) e1.Kind).getD 0),.bool ((mget (mset (mset (mset (mset (mset (mset (mset ([]:List (Int×Int)) 1 0) 2 0) 3 0) 4 1) 5 2) 6 2) 7 2) e1.Kind).isSome)])]<|gn hK11<|ws fun K12 hK12=>ws fun K13 hK13=>wr [(0,0),(1,0),(2,0),(3,0),(4,0),(5,0),(6,0),(7,0),(8,0)]<|gb0 [0,1,2] [(28,.bool (!((mget (mset (mset (mset (mset (mset (mset (mset ([]:List (Int×Int)) 1 0) 2 0) 3 0) 4 1) 5 2) 6 2) 7 2) e1.Kind).isSome))),(27,.bool (!((mget (mset (mset (mset (mset (mset (mset (mset ([]:List (Int×Int)) 1 0) 2 0) 3 0) 4 1) 5 2) 6 2) 7 2) e1.Kind).isSome))),(26,.bool ((mget (mset (mset (mset (mset (mset (mset (mset ([]:List (Int×Int)) 1 0) 2 0) 3 0) 4 1) 5 2) 6 2) 7 2) e1.Kind).isSome))] ?_
  by_cases hc3:((mget (mset (mset (mset (mset (mset (mset (mset ([]:List (Int×Int)) 1 0) 2 0) 3 0) 4 1) 5 2) 6 2) 7 2) e1.Kind).isSome)=true
  ·rw [if_pos hc3] at h
   refine gk 28 (!((mget (mset (mset (mset (mset (mset (mset (mset ([]:List (Int×Int)) 1 0) 2 0) 3 0) 4 1) 5 2) 6 2) 7 2) e1.Kind).isSome)) false (congrArg (fun z=>!z) hc3)<|gb [3,4,5,6,7,8] [(34,.bool ((e1.A.length:Int) != ((mget (mset (mset (mset (mset (mset (mset (mset ([]:List (Int×Int)) 1 0) 2 0) 3 0) 4 1) 5 2) 6 2) 7 2) e1.Kind).getD 0))),(33,.bool ((e1.A.length:Int) != ((mget (mset (mset (mset (mset (mset (mset (mset ([]:List (Int×Int)) 1 0) 2 0) 3 0) 4 1) 5 2) 6 2) 7 2) e1.Kind).getD 0))),(32,vI ((mget (mset (mset (mset (mset (mset (mset (mset ([]:List (Int×Int)) 1 0) 2 0) 3 0) 4 1) 5 2) 6 2) 7 2) e1.Kind).getD 0)),(31,vI (e1.A.length:Int)),(30,.slice An1 e1.A.length cn1),(29,pP b2 2)] [ld b2 2 (.slice An1 e1.A.length cn1)] ⟨hS23.c 1,trivial⟩<|gn hK13 ?_
   by_cases hc4:(e1.A.length:Int)=((mget (mset (mset (mset (mset (mset (mset (mset ([]:List (Int×Int)) 1 0) 2 0) 3 0) 4 1) 5 2) 6 2) 7 2) e1.Kind).getD 0)
   ·rw [if_pos hc4] at h
    refine wk 34 ((e1.A.length:Int) != ((mget (mset (mset (mset (mset (mset (mset (mset ([]:List (Int×Int)) 1 0) 2 0) 3 0) 4 1) 5 2) 6 2) 7 2) e1.Kind).getD 0)) false (bne_eq_false_iff_eq.2 hc4)<|wf<|we_skip fun a hF=>hK12 _ _ ?_ a hF
    refine ws fun K14 hK14=>wr [(0,1),(1,2),(2,2),(3,2),(4,0),(5,0),(6,0),(7,0),(8,0)]<|gw (some 35) (.map #[] 0) (fun b=>.map (some b)) hS23 fun b4 w13 hx5 hS24=>?_
    have hS25:=hS24.newMap (κ:=Int) (ν:=Int)
    refine ge_mapSet (κ:=Int) (ν:=Int) (b:=b4) (ins:=true) (mm:=0) (t:=113) (kt:=3) (et:=3) (x:=(.tmp 35)) (y:=(.const (vI 1))) (u:=(.const (vI 999999999))) (ty:=0) (m:=([]:List (Int×Int))) (k:=1) (v:=999999999) (vv:=vI 999999999) (by kernel_rfl) (by kernel_rfl) (by kernel_rfl) (by kernel_rfl) rfl (by kernel_rfl) (by kernel_rfl) hS25 fun w14 hS26=>?_
    refine ge_mapSet (κ:=Int) (ν:=Int) (b:=b4) (ins:=true) (mm:=0) (t:=113) (kt:=3) (et:=3) (x:=(.tmp 35)) (y:=(.const (vI 2))) (u:=(.const (vI 7))) (ty:=0) (m:=(mset ([]:List (Int×Int)) 1 999999999)) (k:=2) (v:=7) (vv:=vI 7) (by kernel_rfl) (by kernel_rfl) (by kernel_rfl) (by kernel_rfl) rfl (by kernel_rfl) (by kernel_rfl) hS26 fun w15 hS27=>?_
    refine ge_mapSet (κ:=Int) (ν:=Int) (b:=b4) (ins:=true) (mm:=0) (t:=113) (kt:=3) (et:=3) (x:=(.tmp 35)) (y:=(.const (vI 3))) (u:=(.const (vI 3))) (ty:=0) (m:=(mset (mset ([]:List (Int×Int)) 1 999999999) 2 7)) (k:=3) (v:=3) (vv:=vI 3) (by kernel_rfl) (by kernel_rfl) (by kernel_rfl) (by kernel_rfl) rfl (by kernel_rfl) (by kernel_rfl) hS27 fun w16 hS28=>?_
    refine gb [4,5,6] [(38,vI e1.Kind),(37,pP b2 0),(36,.map (some b4))] [ld b2 0 (vI e1.Kind)] ⟨hS28.c 2,trivial⟩<|ge_lookup (κ:=Int) (ν:=Int) (d:=39) (b:=b4) (q:=0) (t:=113) (kt:=3) (et:=3) (x:=(.tmp 36)) (y:=(.tmp 38)) (ty:=3) (m:=(mset (mset (mset ([]:List (Int×Int)) 1 999999999) 2 7) 3 3)) (k:=e1.Kind) (z:=0) (v:=((mget (mset (mset (mset ([]:List (Int×Int)) 1 999999999) 2 7) 3 3) e1.Kind).getD 0)) (zv:=vI 0) (vv:=vI ((mget (mset (mset (mset ([]:List (Int×Int)) 1 999999999) 2 7) 3 3) e1.Kind).getD 0)) (by kernel_rfl) (by kernel_rfl) (by kernel_rfl) (by kernel_rfl) (by kernel_rfl) (fun w'=>by kernel_rfl) rfl hS28 rfl rfl rfl ?_
    refine gb0 [8] [(7,vI ((mget (mset (mset (mset ([]:List (Int×Int)) 1 999999999) 2 7) 3 3) e1.Kind).getD 0))]<|gn hK14<|ws fun K15 hK15=>wr [(0,0),(1,0),(2,0),(3,0),(4,0),(5,0),(6,0),(7,0),(8,0)]<|gb [0,1,2,3] [(43,.bool (decide (e1.N<0))),(42,.bool (decide (e1.N<0))),(41,vI e1.N),(40,pP b2 1)] [ld b2 1 (vI e1.N)] ⟨hS28.c 2,trivial⟩ ?_
    by_cases hc5:e1.N<0
    ·rw [if_pos hc5] at h
     refine gk 43 (decide (e1.N<0)) true (decide_eq_true hc5)<|gb0 [4,5,6,7,8] [(48,.bool true),(47,undef),(46,undef),(45,undef),(44,undef)]<|gn hK15<|wt<|ws fun K16 hK16=>wr [(0,0)]<|gb0 [0] [(2,vI 3)]<|gn hK16 ?_
     have hS29:=hS28.takeN 0
     obtain rfl:=si h
     exact we_ret fun a hF=>hQ _ _ _ (Outs.out nofun (Exits.on ⟨rfl,(pr0 [.tmp 2] [vI 3] ⟨rfl,hS29⟩) a hF⟩))
    rw [if_neg hc5] at h
    refine gk 43 (decide (e1.N<0)) false (decide_eq_false hc5)<|gb [4,5,6,7,8] [(48,.bool (decide (e1.N > ((mget (mset (mset (mset ([]:List (Int×Int)) 1 999999999) 2 7) 3 3) e1.Kind).getD 0)))),(47,.bool (decide (e1.N > ((mget (mset (mset (mset ([]:List (Int×Int)) 1 999999999) 2 7) 3 3) e1.Kind).getD 0)))),(46,vI ((mget (mset (mset (mset ([]:List (Int×Int)) 1 999999999) 2 7) 3 3) e1.Kind).getD 0)),(45,vI e1.N),(44,pP b2 1)] [ld b2 1 (vI e1.N)] ⟨hS28.c 2,trivial⟩<|gn hK15 ?_
    by_cases hc6:e1.N > ((mget (mset (mset (mset ([]:List (Int×Int)) 1 999999999) 2 7) 3 3) e1.Kind).getD 0)
    ·rw [if_pos hc6] at h
     refine wk 48 (decide (e1.N > ((mget (mset (mset (mset ([]:List (Int×Int)) 1 999999999) 2 7) 3 3) e1.Kind).getD 0))) true (decide_eq_true hc6)<|wt<|ws fun K17 hK17=>wr [(0,0)]<|gb0 [0] [(2,vI 3)]<|gn hK17 ?_
     have hS30:=hS28.takeN 0
     obtain rfl:=si h
     exact we_ret fun a hF=>hQ _ _ _ (Outs.out nofun (Exits.on ⟨rfl,(pr0 [.tmp 2] [vI 3] ⟨rfl,hS30⟩) a hF⟩))
    rw [if_neg hc6] at h
    refine wk 48 (decide (e1.N > ((mget (mset (mset (mset ([]:List (Int×Int)) 1 999999999) 2 7) 3 3) e1.Kind).getD 0))) false (decide_eq_false hc6)<|wf<|we_skip fun a hF=>hK6 _ _ ?_ a hF
    refine wr [(0,0),(1,0)]<|ge_addn (d:=49) (ty:=3) (x:=(.tmp 11)) (y:=(.const (vI 1))) (t:=3) (t2:=3) (k:=.i64) (m:=i1) (by kernel_rfl) (by kernel_rfl) (by kernel_rfl) (by have h0:=RdZ.small hRd1 ⟨(hZ _ hS28.subw),(hsb4.trans (hS28.frzSub 3 rfl))⟩; omega) ?_
    refine gb0 [1] [(11,vI ((i1+1:Nat):Int))] ?_
    have hS32:=hS28.p [3] rfl
    obtain rfl:=si h
    exact ge_nil fun a hF=>hQ _ _ _ (Outs.again ⟨ft5,wf5,hsb4,hS32,hF.weaken ea⟩)
   rw [if_neg hc4] at h
   refine wk 34 ((e1.A.length:Int) != ((mget (mset (mset (mset (mset (mset (mset (mset ([]:List (Int×Int)) 1 0) 2 0) 3 0) 4 1) 5 2) 6 2) 7 2) e1.Kind).getD 0)) true (bne_iff_ne.2 hc4)<|wt<|ws fun K18 hK18=>wr [(0,0)]<|gb0 [0] [(2,vI 6)]<|gn hK18 ?_
   have hS33:=hS23.takeN 0
   obtain rfl:=si h
   exact we_ret fun a hF=>hQ _ _ _ (Outs.out nofun (Exits.on ⟨rfl,(pr0 [.tmp 2] [vI 6] ⟨rfl,hS33⟩) a hF⟩))
  rw [if_neg hc3] at h
  refine gk 28 (!((mget (mset (mset (mset (mset (mset (mset (mset ([]:List (Int×Int)) 1 0) 2 0) 3 0) 4 1) 5 2) 6 2) 7 2) e1.Kind).isSome)) true (congrArg (fun z=>!z) (Bool.eq_false_iff.2 hc3))<|gb0 [3,4,5,6,7,8] [(34,.bool true),(33,undef),(32,undef),(31,undef),(30,undef),(29,undef)]<|gn hK13<|wt<|ws fun K19 hK19=>wr [(0,0)]<|gb0 [0] [(2,vI 6)]<|gn hK19 ?_
  have hS34:=hS23.takeN 0
  obtain rfl:=si h
  exact we_ret fun a hF=>hQ _ _ _ (Outs.out nofun (Exits.on ⟨rfl,(pr0 [.tmp 2] [vI 6] ⟨rfl,hS34⟩) a hF⟩))
 rw [if_neg hc1] at h
 refine wk 12 (decide ((i1:Int)<(r1.length:Int))) false (decide_eq_false hc1)<|wf ?_
 obtain rfl:=si h
 exact we_exit fun a hF=>hQ _ _ _ (Outs.out nofun (Exits.here ⟨ft5,wf5,hsb4,hS,hF.weaken trivial⟩))
theorem punctualref_wrongExpr_ok (K:Nat) (Z:Zone) (x0_0 x0_1:Int) (l0_2:List SExpr) (A0_2:OA) (c0_2:Nat) (w0:World) (hZ:∀ w,Sub w0 w→Z w) (hR0_2:RdZ Z A0_2 l0_2) (hL0_2:l0_2.length≤c0_2) (r:Int) (h:punctualref_wrongExpr.f K x0_0 x0_1 l0_2=some r) :
  Calls Try.prog 79 #[.agg #[vI x0_0,vI x0_1,.slice A0_2 l0_2.length c0_2]] w0 (punctualref_wrongExpr.Post w0 r):=by
 have hS:=St.start w0
 unfold punctualref_wrongExpr.f at h
 refine calls_enter (n:=50) (args:=[.agg #[vI x0_0,vI x0_1,.slice A0_2 l0_2.length c0_2]]) (fn:=Try.f79) rfl rfl rfl rfl ?_
 show WE _ _ _ _ [(0,.agg #[vI x0_0,vI x0_1,.slice A0_2 l0_2.length c0_2])] _
 obtain ⟨ft1,wf1,hS1⟩:=hS.frz0
 refine ws fun K1 hK1=>wr [(0,1),(1,0)]<|gw (some 1) (.cells #[vI x0_0,vI x0_1,.slice A0_2 l0_2.length c0_2] 45) (fun b=>pP b 0) hS1 fun b1 w1 hx1 hS2=>?_
 refine gb0 [1] [(2,vI 0)]<|gn hK1<|ws fun K2 hK2=>ws fun K3 hK3=>wr [(0,0),(1,1),(2,0),(3,0)] ?_
 rcases hq1:punctualref_nodes.f K x0_0 x0_1 l0_2 31 with _ | r1
 ·rw [hq1] at h; cases h
 rw [hq1] at h
 simp only [] at h
 refine gb [0] [(8,.agg #[vI x0_0,vI x0_1,.slice A0_2 l0_2.length c0_2])] [ld b1 0 (vI x0_0),ld b1 1 (vI x0_1),ld b1 2 (.slice A0_2 l0_2.length c0_2)] ⟨hS2.c 0,hS2.c 0,hS2.c 0,trivial⟩<|ge_call (d:=some 9) (f:=98) (args:=#[.agg #[vI x0_0,vI x0_1,.slice A0_2 l0_2.length c0_2],vI 31]) (by kernel_rfl) (punctualref_nodes_ok K (Zand Z wf1) x0_0 x0_1 l0_2 A0_2 c0_2 31 _ (fun w' k=>⟨(hZ w' (hS2.subw.trans k)),(hS2.frzSub 1 rfl).trans k⟩) (hR0_2.up (ZLe.in _ _)) hL0_2 _ hq1) ?_
 rintro _ w2 ⟨v1,hds1,ft2,wf2,rfl,hd1,hS3⟩
 refine ⟨_,rfl,hS3.below,?_⟩
 have hS6:=((hS2.call hS3).b 3).b 2
 obtain ⟨ft3,wf3,hsb1,hsb2,hS7⟩:=hS6.frzMerge
 replace hd1:DRows (Zand Z wf3) hds1 r1:=hd1.up (ZLe.both hsb2 hsb1)
 obtain ⟨Z1,cz1,rfl⟩:=hS7.dopen 1 rfl hd1
 refine gb0 [2,3] [(11,vI 0),(10,vI (r1.length:Int))]<|gn hK3<|we_block ?_
 have hS8:=hS7.b 1
 obtain ⟨ft4,wf4,hsb3,-,hRd1,hLd1,hS9⟩:=hS8.dfrz (Z:=Z) hd1
 have hS10:=hS9.takeN 1
 rcases hq2:iter (punctualref_wrongExpr.r0 r1) K 0 with _ | (_ | rr1)
 ·rw [hq2] at h; cases h
 ·rw [hq2] at h
  simp only [] at h
  refine we_iter (A:=punctualref_wrongExpr.A0 w0 r1 Z1 cz1 wf4) (B:=punctualref_wrongExpr.B0 w0 wf4) hq2 (fun a hF=>⟨ft4,wf4,(Sub.refl _),hS10,hF.weaken ea⟩) (fun s o hf a w hA Q hQ=>punctualref_wrongExpr_r0 K w0 Z x0_0 x0_1 l0_2 A0_2 c0_2 hZ hR0_2 hL0_2 ft1 wf1 b1 r1 hds1 ft2 wf2 ft3 wf3 hsb1 hsb2 hd1 Z1 cz1 ft4 wf4 hsb3 hRd1 hLd1 s o hf a w hA Q hQ) ?_
  rintro _ a w17 _ ⟨rfl,ft7,wf7,hRz1,hS35,hF⟩
  replace hS35:St w0 w17 [Own.frz ft7 wf7]:=hS35
  refine hK2 [] w17 ?_ a hF
  refine ws fun K20 hK20=>wr [(0,0)]<|gb0 [0] [(2,vI 0)]<|gn hK20 ?_
  have hS36:=hS35.takeN 0
  obtain rfl:=si h
  exact we_ret (pr0 [.tmp 2] [vI 0] ⟨rfl,hS36⟩)
 rw [hq2] at h
 simp only [] at h
 refine we_iter (A:=punctualref_wrongExpr.A0 w0 r1 Z1 cz1 wf4) (B:=punctualref_wrongExpr.B0 w0 wf4) hq2 (fun a hF=>⟨ft4,wf4,(Sub.refl _),hS10,hF.weaken ea⟩) (fun s o hf a w hA Q hQ=>punctualref_wrongExpr_r0 K w0 Z x0_0 x0_1 l0_2 A0_2 c0_2 hZ hR0_2 hL0_2 ft1 wf1 b1 r1 hds1 ft2 wf2 ft3 wf3 hsb1 hsb2 hd1 Z1 cz1 ft4 wf4 hsb3 hRd1 hLd1 s o hf a w hA Q hQ) ?_
 rintro _ a w1 _ ⟨rfl,hb⟩
 obtain rfl:=si h
 exact hb

/-! punctual/punctualref.wrongStatement -/
abbrev punctualref_wrongStatement.Post (w0:World) (r:Int) (e:Ending) (w:World):Prop:=e=.returned (vI r)∧St w0 w []
def punctualref_wrongStatement.p0 (x0_0_0 : Int) : Option (Unit ⊕ Int) :=
  if x0_0_0<1 then
   some (.inr 6)
  else
   if x0_0_0 > 7 then
    some (.inr 6)
   else
    some (.inl ())
def punctualref_wrongStatement.p1 (x0_0_1 : Int) (e1 : Int) (e2 : Int) : Option (Unit ⊕ Int) :=
  if x0_0_1<e1 then
   some (.inr 3)
  else
   if x0_0_1 > e2 then
    some (.inr 3)
   else
    some (.inl ())
def punctualref_wrongStatement.p2 (x0_0_0 : Int) : Option (Bool ⊕ Int) :=
  if x0_0_0=1 then
   some (.inl true)
  else
   some (.inl (x0_0_0==2))
def punctualref_wrongStatement.p3 (x0_0_0 : Int) : Option (Bool ⊕ Int) :=
  if x0_0_0=3 then
   some (.inl true)
  else
   some (.inl (x0_0_0==5))
def punctualref_wrongStatement.p4 (x0_0_0 : Int) : Option (Bool ⊕ Int) :=
  if x0_0_0 ≥ 3 then
   some (.inl (decide (x0_0_0≤6)))
  else
   some (.inl false)
def punctualref_wrongStatement.p5 (x0_0_2_0 : Int) (x0_0_2_1 : Int) (l0_0_2_2 : List SExpr) (q2 : Bool) : Option (Unit ⊕ Int) :=
  if q2=true then
   some (.inl ())
  else
   if (punctualref_emptyExpr.f x0_0_2_0 x0_0_2_1 l0_0_2_2)=true then
    some (.inl ())
   else
    some (.inr 6)
def punctualref_wrongStatement.p6 (x0_0_3_0 : Int) (x0_0_3_1_0 : Int) (x0_0_3_1_1 : Int) (l0_0_3_1_2 : List SExpr) (x0_0_3_2_0 : Int) (x0_0_3_2_1 : Int) (l0_0_3_2_2 : List SExpr) (q4 : Bool) : Option (Unit ⊕ Int) :=
  if q4=true then
   some (.inl ())
  else
   if x0_0_3_0=0 then
    if (punctualref_emptyExpr.f x0_0_3_1_0 x0_0_3_1_1 l0_0_3_1_2)=true then
     if (punctualref_emptyExpr.f x0_0_3_2_0 x0_0_3_2_1 l0_0_3_2_2)=true then
      some (.inl ())
     else
      some (.inr 6)
    else
     some (.inr 6)
   else
    some (.inr 6)
def punctualref_wrongStatement.p7 (x0_0_0 : Int) (l0_0_4 : List SStmt) (l0_0_5 : List SStmt) (q6 : Bool) : Option (Unit ⊕ Int) :=
  if q6=true then
   if x0_0_0=3 then
    some (.inl ())
   else
    if (l0_0_5.length:Int) > 0 then
     some (.inr 6)
    else
     some (.inl ())
  else
   if (l0_0_4.length:Int) > 0 then
    some (.inr 6)
   else
    if x0_0_0=3 then
     some (.inl ())
    else
     if (l0_0_5.length:Int) > 0 then
      some (.inr 6)
     else
      some (.inl ())
def punctualref_wrongStatement.p8 (K : Nat) (x0_0_2_0 : Int) (x0_0_2_1 : Int) (l0_0_2_2 : List SExpr) (q2 : Bool) : Option (Unit ⊕ Int) :=
  if q2=true then
   match punctualref_wrongExpr.f K x0_0_2_0 x0_0_2_1 l0_0_2_2 with
   | none=>none
   | some r1 =>
    if r1=0 then
     some (.inl ())
    else
     some (.inr r1)
  else
   some (.inl ())
def punctualref_wrongStatement.p9 (K : Nat) (x0_0_3_0 : Int) (x0_0_3_1_0 : Int) (x0_0_3_1_1 : Int) (l0_0_3_1_2 : List SExpr) (x0_0_3_2_0 : Int) (x0_0_3_2_1 : Int) (l0_0_3_2_2 : List SExpr) (q4 : Bool) : Option (Unit ⊕ Int) :=
  if q4=true then
   if x0_0_3_0<1 then
    some (.inr 6)
   else
    if x0_0_3_0 > 4 then
     some (.inr 6)
    else
     match punctualref_wrongExpr.f K x0_0_3_1_0 x0_0_3_1_1 l0_0_3_1_2 with
     | none=>none
     | some r2 =>
      if r2=0 then
       match punctualref_wrongExpr.f K x0_0_3_2_0 x0_0_3_2_1 l0_0_3_2_2 with
       | none=>none
       | some r3 =>
        if r3=0 then
         some (.inl ())
        else
         some (.inr r3)
      else
       some (.inr r2)
  else
   some (.inl ())
def punctualref_wrongStatement.r10 (x0_0_1 : Int) (l0_2 : List Int) : Nat → Option (Nat ⊕ (Unit ⊕ Int))
 | i1 =>
  if (i1:Int)<(l0_2.length:Int) then
   match l0_2[i1]? with
   | none=>none
   | some e3 =>
    if e3=x0_0_1 then
     some (.inr (.inr 10))
    else
     some (.inl (i1+1))
  else
   some (.inr (.inl ()))
def punctualref_wrongStatement.r11 (x0_0_1 : Int) (l0_2 : List Int) : Nat → Option (Nat ⊕ (Unit ⊕ Int))
 | i2 =>
  if (i2:Int)<(l0_2.length:Int) then
   match l0_2[i2]? with
   | none=>none
   | some e4 =>
    if e4=x0_0_1 then
     some (.inr (.inr 10))
    else
     some (.inl (i2+1))
  else
   some (.inr (.inl ()))
def punctualref_wrongStatement.f (K : Nat) (x0_0_0 : Int) (x0_0_1 : Int) (x0_0_2_0 : Int) (x0_0_2_1 : Int) (l0_0_2_2 : List SExpr) (x0_0_3_0 : Int) (x0_0_3_1_0 : Int) (x0_0_3_1_1 : Int) (l0_0_3_1_2 : List SExpr) (x0_0_3_2_0 : Int) (x0_0_3_2_1 : Int) (l0_0_3_2_2 : List SExpr) (l0_0_4 : List SStmt) (l0_0_5 : List SStmt) (x0_1 : Int) (l0_2 : List Int) : Option Int :=
 match punctualref_wrongStatement.p0 x0_0_0 with
 | none=>none
 | some (.inl _) =>
  if 0≤x0_0_0 then
   match ([0,0,0,0,0,0,0,1]:List Int)[(x0_0_0).toNat]? with
   | none=>none
   | some e1 =>
    match ([0,7,3,0,1000,1000,3,1000]:List Int)[(x0_0_0).toNat]? with
    | none=>none
    | some e2 =>
     match punctualref_wrongStatement.p1 x0_0_1 e1 e2 with
     | none=>none
     | some (.inl _) =>
      match punctualref_wrongStatement.p2 x0_0_0 with
      | none=>none
      | some (.inl q2) =>
       match punctualref_wrongStatement.p3 x0_0_0 with
       | none=>none
       | some (.inl q4) =>
        match punctualref_wrongStatement.p4 x0_0_0 with
        | none=>none
        | some (.inl q6) =>
         match punctualref_wrongStatement.p5 x0_0_2_0 x0_0_2_1 l0_0_2_2 q2 with
         | none=>none
         | some (.inl _) =>
          match punctualref_wrongStatement.p6 x0_0_3_0 x0_0_3_1_0 x0_0_3_1_1 l0_0_3_1_2 x0_0_3_2_0 x0_0_3_2_1 l0_0_3_2_2 q4 with
          | none=>none
          | some (.inl _) =>
           match punctualref_wrongStatement.p7 x0_0_0 l0_0_4 l0_0_5 q6 with
           | none=>none
           | some (.inl _) =>
            match punctualref_wrongStatement.p8 K x0_0_2_0 x0_0_2_1 l0_0_2_2 q2 with
            | none=>none
            | some (.inl _) =>
             match punctualref_wrongStatement.p9 K x0_0_3_0 x0_0_3_1_0 x0_0_3_1_1 l0_0_3_1_2 x0_0_3_2_0 x0_0_3_2_1 l0_0_3_2_2 q4 with
             | none=>none
             | some (.inl _) =>
              if q6=true then
               if x0_1 ≥ 6 then
                some 2
               else
                if x0_0_0=6 then
                 match iter (punctualref_wrongStatement.r10 x0_0_1 l0_2) K 0 with
                 | none=>none
                 | some (.inl _) =>
                  some 0
                 | some (.inr rr1) =>
                  some rr1
                else
                 some 0
              else
               if x0_0_0=6 then
                match iter (punctualref_wrongStatement.r11 x0_0_1 l0_2) K 0 with
                | none=>none
                | some (.inl _) =>
                 some 0
                | some (.inr rr2) =>
                 some rr2
               else
                some 0
             | some (.inr rr3) =>
              some rr3
            | some (.inr rr4) =>
             some rr4
           | some (.inr rr5) =>
            some rr5
          | some (.inr rr6) =>
           some rr6
         | some (.inr rr7) =>
          some rr7
        | some (.inr rr8) =>
         some rr8
       | some (.inr rr9) =>
        some rr9
      | some (.inr rr10) =>
       some rr10
     | some (.inr rr11) =>
      some rr11
  else
   none
 | some (.inr rr12) =>
  some rr12
abbrev punctualref_wrongStatement.A0 (w0:World) (x0_0_0 x0_0_1 x0_0_2_0 x0_0_2_1:Int) (l0_0_2_2:List SExpr) (A0_0_2_2:OA) (c0_0_2_2:Nat) (x0_0_3_0 x0_0_3_1_0 x0_0_3_1_1:Int) (l0_0_3_1_2:List SExpr) (A0_0_3_1_2:OA) (c0_0_3_1_2:Nat) (x0_0_3_2_0 x0_0_3_2_1:Int) (l0_0_3_2_2:List SExpr) (A0_0_3_2_2:OA) (c0_0_3_2_2:Nat) (l0_0_4:List SStmt) (A0_0_4:OA) (c0_0_4:Nat) (l0_0_5:List SStmt) (A0_0_5:OA) (c0_0_5:Nat) (x0_1:Int) (l0_2:List Int) (A0_2:OA) (c0_2 b1 b2:Nat):Unit→Act→World→Prop:=fun (s:Unit) a w=>St w0 w [bk b2 #[vI x0_0_0,vI x0_0_1,vI x0_0_2_0,vI x0_0_2_1,.slice A0_0_2_2 l0_0_2_2.length c0_0_2_2,vI x0_0_3_0,vI x0_0_3_1_0,vI x0_0_3_1_1,.slice A0_0_3_1_2 l0_0_3_1_2.length c0_0_3_1_2,vI x0_0_3_2_0,vI x0_0_3_2_1,.slice A0_0_3_2_2 l0_0_3_2_2.length c0_0_3_2_2,.slice A0_0_4 l0_0_4.length c0_0_4,.slice A0_0_5 l0_0_5.length c0_0_5] 49,bk b1 #[vI x0_0_0,vI x0_0_1,vI x0_0_2_0,vI x0_0_2_1,.slice A0_0_2_2 l0_0_2_2.length c0_0_2_2,vI x0_0_3_0,vI x0_0_3_1_0,vI x0_0_3_1_1,.slice A0_0_3_1_2 l0_0_3_1_2.length c0_0_3_1_2,vI x0_0_3_2_0,vI x0_0_3_2_1,.slice A0_0_3_2_2 l0_0_3_2_2.length c0_0_3_2_2,.slice A0_0_4 l0_0_4.length c0_0_4,.slice A0_0_5 l0_0_5.length c0_0_5,vI x0_1,.slice A0_2 l0_2.length c0_2] 99]∧Frm 170 a [(1,pP b1 0),(3,pP b2 0)]
abbrev punctualref_wrongStatement.B0 (w0:World):Int→Exit→Act→World→Prop:=Rets Try.prog Try.f55 (punctualref_wrongStatement.Post w0)
theorem punctualref_wrongStatement_p0 (K:Nat) (w0:World) (Z:Zone) (x0_0_0 x0_0_1 x0_0_2_0 x0_0_2_1:Int) (l0_0_2_2:List SExpr) (A0_0_2_2:OA) (c0_0_2_2:Nat) (x0_0_3_0 x0_0_3_1_0 x0_0_3_1_1:Int) (l0_0_3_1_2:List SExpr) (A0_0_3_1_2:OA) (c0_0_3_1_2:Nat) (x0_0_3_2_0 x0_0_3_2_1:Int) (l0_0_3_2_2:List SExpr) (A0_0_3_2_2:OA) (c0_0_3_2_2:Nat) (l0_0_4:List SStmt) (A0_0_4:OA) (c0_0_4:Nat) (l0_0_5:List SStmt) (A0_0_5:OA) (c0_0_5:Nat) (x0_1:Int) (l0_2:List Int) (A0_2:OA) (c0_2:Nat) (hZ:∀ w,Sub w0 w→Z w) (hR0_0_2_2:RdZ Z A0_0_2_2 l0_0_2_2) (hL0_0_2_2:l0_0_2_2.length≤c0_0_2_2) (hR0_0_3_1_2:RdZ Z A0_0_3_1_2 l0_0_3_1_2) (hL0_0_3_1_2:l0_0_3_1_2.length≤c0_0_3_1_2) (hR0_0_3_2_2:RdZ Z A0_0_3_2_2 l0_0_3_2_2) (hL0_0_3_2_2:l0_0_3_2_2.length≤c0_0_3_2_2) (hR0_0_4:RdZ Z A0_0_4 l0_0_4) (hL0_0_4:l0_0_4.length≤c0_0_4) (hR0_0_5:RdZ Z A0_0_5 l0_0_5) (hL0_0_5:l0_0_5.length≤c0_0_5) (hR0_2:RdL w0 A0_2 l0_2) (hL0_2:l0_2.length≤c0_2) (b1 b2:Nat) (o:Unit ⊕ Int) (h:punctualref_wrongStatement.p0 x0_0_0=some o) (w:World) (hS:St w0 w [bk b2 #[vI x0_0_0,vI x0_0_1,vI x0_0_2_0,vI x0_0_2_1,.slice A0_0_2_2 l0_0_2_2.length c0_0_2_2,vI x0_0_3_0,vI x0_0_3_1_0,vI x0_0_3_1_1,.slice A0_0_3_1_2 l0_0_3_1_2.length c0_0_3_1_2,vI x0_0_3_2_0,vI x0_0_3_2_1,.slice A0_0_3_2_2 l0_0_3_2_2.length c0_0_3_2_2,.slice A0_0_4 l0_0_4.length c0_0_4,.slice A0_0_5 l0_0_5.length c0_0_5] 49,bk b1 #[vI x0_0_0,vI x0_0_1,vI x0_0_2_0,vI x0_0_2_1,.slice A0_0_2_2 l0_0_2_2.length c0_0_2_2,vI x0_0_3_0,vI x0_0_3_1_0,vI x0_0_3_1_1,.slice A0_0_3_1_2 l0_0_3_1_2.length c0_0_3_1_2,vI x0_0_3_2_0,vI x0_0_3_2_1,.slice A0_0_3_2_2 l0_0_3_2_2.length c0_0_3_2_2,.slice A0_0_4 l0_0_4.length c0_0_4,.slice A0_0_5 l0_0_5.length c0_0_5,vI x0_1,.slice A0_2 l0_2.length c0_2] 99]) (Q:Exit→Act→World→Prop) (hQ:∀ x a w,Outs (punctualref_wrongStatement.A0 w0 x0_0_0 x0_0_1 x0_0_2_0 x0_0_2_1 l0_0_2_2 A0_0_2_2 c0_0_2_2 x0_0_3_0 x0_0_3_1_0 x0_0_3_1_1 l0_0_3_1_2 A0_0_3_1_2 c0_0_3_1_2 x0_0_3_2_0 x0_0_3_2_1 l0_0_3_2_2 A0_0_3_2_2 c0_0_3_2_2 l0_0_4 A0_0_4 c0_0_4 l0_0_5 A0_0_5 c0_0_5 x0_1 l0_2 A0_2 c0_2 b1 b2) (punctualref_wrongStatement.B0 w0) o x a w→Q x a w):WE Try.prog 170 (subF Try.f55 [1,1,0]) Q [(0,.agg #[vI x0_0_0,vI x0_0_1,vI x0_0_2_0,vI x0_0_2_1,.slice A0_0_2_2 l0_0_2_2.length c0_0_2_2,vI x0_0_3_0,vI x0_0_3_1_0,vI x0_0_3_1_1,.slice A0_0_3_1_2 l0_0_3_1_2.length c0_0_3_1_2,vI x0_0_3_2_0,vI x0_0_3_2_1,.slice A0_0_3_2_2 l0_0_3_2_2.length c0_0_3_2_2,.slice A0_0_4 l0_0_4.length c0_0_4,.slice A0_0_5 l0_0_5.length c0_0_5,vI x0_1,.slice A0_2 l0_2.length c0_2]),(1,pP b1 0),(2,vI 0),(3,pP b2 0),(14,pP b1 0),(15,.agg #[vI x0_0_0,vI x0_0_1,vI x0_0_2_0,vI x0_0_2_1,.slice A0_0_2_2 l0_0_2_2.length c0_0_2_2,vI x0_0_3_0,vI x0_0_3_1_0,vI x0_0_3_1_1,.slice A0_0_3_1_2 l0_0_3_1_2.length c0_0_3_1_2,vI x0_0_3_2_0,vI x0_0_3_2_1,.slice A0_0_3_2_2 l0_0_3_2_2.length c0_0_3_2_2,.slice A0_0_4 l0_0_4.length c0_0_4,.slice A0_0_5 l0_0_5.length c0_0_5])] w:=by
 simp only [punctualref_wrongStatement.p0] at h
 refine ws fun K4 hK4=>wr [(0,0),(1,0),(2,0),(3,0),(4,0),(5,0),(6,0),(7,0)]<|gb [0,1,2,3] [(19,.bool (decide (x0_0_0<1))),(18,.bool (decide (x0_0_0<1))),(17,vI x0_0_0),(16,pP b2 0)] [ld b2 0 (vI x0_0_0)] ⟨hS.c 0,trivial⟩ ?_
 by_cases hc1:x0_0_0<1
 ·rw [if_pos hc1] at h
  refine gk 19 (decide (x0_0_0<1)) true (decide_eq_true hc1)<|gb0 [4,5,6,7] [(23,.bool true),(22,undef),(21,undef),(20,undef)]<|gn hK4<|wt<|ws fun K5 hK5=>wr [(0,0)]<|gb0 [0] [(2,vI 6)]<|gn hK5 ?_
  have hS5:=hS.takeN 0
  obtain rfl:=si h
  exact rq hQ fun a hF=>⟨rfl,(pr0 [.tmp 2] [vI 6] ⟨rfl,hS5⟩) a hF⟩
 rw [if_neg hc1] at h
 refine gk 19 (decide (x0_0_0<1)) false (decide_eq_false hc1)<|gb [4,5,6,7] [(23,.bool (decide (x0_0_0 > 7))),(22,.bool (decide (x0_0_0 > 7))),(21,vI x0_0_0),(20,pP b2 0)] [ld b2 0 (vI x0_0_0)] ⟨hS.c 0,trivial⟩<|gn hK4 ?_
 by_cases hc2:x0_0_0 > 7
 ·rw [if_pos hc2] at h
  refine wk 23 (decide (x0_0_0 > 7)) true (decide_eq_true hc2)<|wt<|ws fun K6 hK6=>wr [(0,0)]<|gb0 [0] [(2,vI 6)]<|gn hK6 ?_
  have hS6:=hS.takeN 0
  obtain rfl:=si h
  exact rq hQ fun a hF=>⟨rfl,(pr0 [.tmp 2] [vI 6] ⟨rfl,hS6⟩) a hF⟩
 rw [if_neg hc2] at h
 refine wk 23 (decide (x0_0_0 > 7)) false (decide_eq_false hc2)<|wf ?_
 have hS8:=(hS.b 1).b 1
 obtain rfl:=si h
 exact we_skip fun a hF=>hQ _ _ _ (Outs.again ⟨hS8,hF.weaken ea⟩)
abbrev punctualref_wrongStatement.A1 (w0:World) (x0_0_0 x0_0_1 x0_0_2_0 x0_0_2_1:Int) (l0_0_2_2:List SExpr) (A0_0_2_2:OA) (c0_0_2_2:Nat) (x0_0_3_0 x0_0_3_1_0 x0_0_3_1_1:Int) (l0_0_3_1_2:List SExpr) (A0_0_3_1_2:OA) (c0_0_3_1_2:Nat) (x0_0_3_2_0 x0_0_3_2_1:Int) (l0_0_3_2_2:List SExpr) (A0_0_3_2_2:OA) (c0_0_3_2_2:Nat) (l0_0_4:List SStmt) (A0_0_4:OA) (c0_0_4:Nat) (l0_0_5:List SStmt) (A0_0_5:OA) (c0_0_5:Nat) (x0_1:Int) (l0_2:List Int) (A0_2:OA) (c0_2 b1 b2:Nat):Unit→Act→World→Prop:=fun (s:Unit) a w=>St w0 w [bk b2 #[vI x0_0_0,vI x0_0_1,vI x0_0_2_0,vI x0_0_2_1,.slice A0_0_2_2 l0_0_2_2.length c0_0_2_2,vI x0_0_3_0,vI x0_0_3_1_0,vI x0_0_3_1_1,.slice A0_0_3_1_2 l0_0_3_1_2.length c0_0_3_1_2,vI x0_0_3_2_0,vI x0_0_3_2_1,.slice A0_0_3_2_2 l0_0_3_2_2.length c0_0_3_2_2,.slice A0_0_4 l0_0_4.length c0_0_4,.slice A0_0_5 l0_0_5.length c0_0_5] 49,bk b1 #[vI x0_0_0,vI x0_0_1,vI x0_0_2_0,vI x0_0_2_1,.slice A0_0_2_2 l0_0_2_2.length c0_0_2_2,vI x0_0_3_0,vI x0_0_3_1_0,vI x0_0_3_1_1,.slice A0_0_3_1_2 l0_0_3_1_2.length c0_0_3_1_2,vI x0_0_3_2_0,vI x0_0_3_2_1,.slice A0_0_3_2_2 l0_0_3_2_2.length c0_0_3_2_2,.slice A0_0_4 l0_0_4.length c0_0_4,.slice A0_0_5 l0_0_5.length c0_0_5,vI x0_1,.slice A0_2 l0_2.length c0_2] 99]∧Frm 170 a [(1,pP b1 0),(3,pP b2 0)]
abbrev punctualref_wrongStatement.B1 (w0:World):Int→Exit→Act→World→Prop:=Rets Try.prog Try.f55 (punctualref_wrongStatement.Post w0)
theorem punctualref_wrongStatement_p1 (K:Nat) (w0:World) (Z:Zone) (x0_0_0 x0_0_1 x0_0_2_0 x0_0_2_1:Int) (l0_0_2_2:List SExpr) (A0_0_2_2:OA) (c0_0_2_2:Nat) (x0_0_3_0 x0_0_3_1_0 x0_0_3_1_1:Int) (l0_0_3_1_2:List SExpr) (A0_0_3_1_2:OA) (c0_0_3_1_2:Nat) (x0_0_3_2_0 x0_0_3_2_1:Int) (l0_0_3_2_2:List SExpr) (A0_0_3_2_2:OA) (c0_0_3_2_2:Nat) (l0_0_4:List SStmt) (A0_0_4:OA) (c0_0_4:Nat) (l0_0_5:List SStmt) (A0_0_5:OA) (c0_0_5:Nat) (x0_1:Int) (l0_2:List Int) (A0_2:OA) (c0_2:Nat) (hZ:∀ w,Sub w0 w→Z w) (hR0_0_2_2:RdZ Z A0_0_2_2 l0_0_2_2) (hL0_0_2_2:l0_0_2_2.length≤c0_0_2_2) (hR0_0_3_1_2:RdZ Z A0_0_3_1_2 l0_0_3_1_2) (hL0_0_3_1_2:l0_0_3_1_2.length≤c0_0_3_1_2) (hR0_0_3_2_2:RdZ Z A0_0_3_2_2 l0_0_3_2_2) (hL0_0_3_2_2:l0_0_3_2_2.length≤c0_0_3_2_2) (hR0_0_4:RdZ Z A0_0_4 l0_0_4) (hL0_0_4:l0_0_4.length≤c0_0_4) (hR0_0_5:RdZ Z A0_0_5 l0_0_5) (hL0_0_5:l0_0_5.length≤c0_0_5) (hR0_2:RdL w0 A0_2 l0_2) (hL0_2:l0_2.length≤c0_2) (b1 b2 b3:Nat) (hc3:0≤x0_0_0) (e1:Int) (hx4:([0,0,0,0,0,0,0,1]:List Int)[(x0_0_0).toNat]?=some e1) (b4:Nat) (e2:Int) (hx6:([0,7,3,0,1000,1000,3,1000]:List Int)[(x0_0_0).toNat]?=some e2) (o:Unit ⊕ Int) (h:punctualref_wrongStatement.p1 x0_0_1 e1 e2=some o) (w:World) (hS:St w0 w [bk b4 #[vI 0,vI 7,vI 3,vI 0,vI 1000,vI 1000,vI 3,vI 1000] 3,bk b3 #[vI 0,vI 0,vI 0,vI 0,vI 0,vI 0,vI 0,vI 1] 3,bk b2 #[vI x0_0_0,vI x0_0_1,vI x0_0_2_0,vI x0_0_2_1,.slice A0_0_2_2 l0_0_2_2.length c0_0_2_2,vI x0_0_3_0,vI x0_0_3_1_0,vI x0_0_3_1_1,.slice A0_0_3_1_2 l0_0_3_1_2.length c0_0_3_1_2,vI x0_0_3_2_0,vI x0_0_3_2_1,.slice A0_0_3_2_2 l0_0_3_2_2.length c0_0_3_2_2,.slice A0_0_4 l0_0_4.length c0_0_4,.slice A0_0_5 l0_0_5.length c0_0_5] 49,bk b1 #[vI x0_0_0,vI x0_0_1,vI x0_0_2_0,vI x0_0_2_1,.slice A0_0_2_2 l0_0_2_2.length c0_0_2_2,vI x0_0_3_0,vI x0_0_3_1_0,vI x0_0_3_1_1,.slice A0_0_3_1_2 l0_0_3_1_2.length c0_0_3_1_2,vI x0_0_3_2_0,vI x0_0_3_2_1,.slice A0_0_3_2_2 l0_0_3_2_2.length c0_0_3_2_2,.slice A0_0_4 l0_0_4.length c0_0_4,.slice A0_0_5 l0_0_5.length c0_0_5,vI x0_1,.slice A0_2 l0_2.length c0_2] 99]) (Q:Exit→Act→World→Prop) (hQ:∀ x a w,Outs (punctualref_wrongStatement.A1 w0 x0_0_0 x0_0_1 x0_0_2_0 x0_0_2_1 l0_0_2_2 A0_0_2_2 c0_0_2_2 x0_0_3_0 x0_0_3_1_0 x0_0_3_1_1 l0_0_3_1_2 A0_0_3_1_2 c0_0_3_1_2 x0_0_3_2_0 x0_0_3_2_1 l0_0_3_2_2 A0_0_3_2_2 c0_0_3_2_2 l0_0_4 A0_0_4 c0_0_4 l0_0_5 A0_0_5 c0_0_5 x0_1 l0_2 A0_2 c0_2 b1 b2) (punctualref_wrongStatement.B1 w0) o x a w→Q x a w):WE Try.prog 170 (subF Try.f55 [1,1,1,1,1,0]) Q [(1,pP b1 0),(3,pP b2 0),(4,vI e1),(5,vI e2),(24,.slice (some ⟨b3,0,none⟩) 8 8),(25,pP b2 0),(26,vI x0_0_0),(27,.pointer (some ⟨blkOf (some ⟨b3,0,none⟩),offOf (some ⟨b3,0,none⟩)+(x0_0_0).toNat*1,none⟩)),(28,vI e1),(29,.slice (some ⟨b4,0,none⟩) 8 8),(30,pP b2 0),(31,vI x0_0_0),(32,.pointer (some ⟨blkOf (some ⟨b4,0,none⟩),offOf (some ⟨b4,0,none⟩)+(x0_0_0).toNat*1,none⟩)),(33,vI e2)] w:=by
 simp only [punctualref_wrongStatement.p1] at h
 refine ws fun K10 hK10=>wr [(0,0),(1,0),(2,0),(3,0),(4,0),(5,0),(6,0),(7,0),(8,0),(9,0)]<|gb [0,1,2,3,4] [(38,.bool (decide (x0_0_1<e1))),(37,.bool (decide (x0_0_1<e1))),(36,vI e1),(35,vI x0_0_1),(34,pP b2 1)] [ld b2 1 (vI x0_0_1)] ⟨hS.c 2,trivial⟩ ?_
 by_cases hc4:x0_0_1<e1
 ·rw [if_pos hc4] at h
  refine gk 38 (decide (x0_0_1<e1)) true (decide_eq_true hc4)<|gb0 [5,6,7,8,9] [(43,.bool true),(42,undef),(41,undef),(40,undef),(39,undef)]<|gn hK10<|wt<|ws fun K11 hK11=>wr [(0,0)]<|gb0 [0] [(2,vI 3)]<|gn hK11 ?_
  have hS12:=hS.takeN 0
  obtain rfl:=si h
  exact rq hQ fun a hF=>⟨rfl,(pr0 [.tmp 2] [vI 3] ⟨rfl,hS12⟩) a hF⟩
 rw [if_neg hc4] at h
 refine gk 38 (decide (x0_0_1<e1)) false (decide_eq_false hc4)<|gb [5,6,7,8,9] [(43,.bool (decide (x0_0_1 > e2))),(42,.bool (decide (x0_0_1 > e2))),(41,vI e2),(40,vI x0_0_1),(39,pP b2 1)] [ld b2 1 (vI x0_0_1)] ⟨hS.c 2,trivial⟩<|gn hK10 ?_
 by_cases hc5:x0_0_1 > e2
 ·rw [if_pos hc5] at h
  refine wk 43 (decide (x0_0_1 > e2)) true (decide_eq_true hc5)<|wt<|ws fun K12 hK12=>wr [(0,0)]<|gb0 [0] [(2,vI 3)]<|gn hK12 ?_
  have hS13:=hS.takeN 0
  obtain rfl:=si h
  exact rq hQ fun a hF=>⟨rfl,(pr0 [.tmp 2] [vI 3] ⟨rfl,hS13⟩) a hF⟩
 rw [if_neg hc5] at h
 refine wk 43 (decide (x0_0_1 > e2)) false (decide_eq_false hc5)<|wf ?_
 have hS16:=hS.p [2,3] rfl
 obtain rfl:=si h
 exact we_skip fun a hF=>hQ _ _ _ (Outs.again ⟨hS16,hF.weaken ea⟩)
abbrev punctualref_wrongStatement.A2 (w0:World) (x0_0_0 x0_0_1 x0_0_2_0 x0_0_2_1:Int) (l0_0_2_2:List SExpr) (A0_0_2_2:OA) (c0_0_2_2:Nat) (x0_0_3_0 x0_0_3_1_0 x0_0_3_1_1:Int) (l0_0_3_1_2:List SExpr) (A0_0_3_1_2:OA) (c0_0_3_1_2:Nat) (x0_0_3_2_0 x0_0_3_2_1:Int) (l0_0_3_2_2:List SExpr) (A0_0_3_2_2:OA) (c0_0_3_2_2:Nat) (l0_0_4:List SStmt) (A0_0_4:OA) (c0_0_4:Nat) (l0_0_5:List SStmt) (A0_0_5:OA) (c0_0_5:Nat) (x0_1:Int) (l0_2:List Int) (A0_2:OA) (c0_2 b1 b2:Nat):Bool→Act→World→Prop:=fun (s:Bool) a w=>St w0 w [bk b2 #[vI x0_0_0,vI x0_0_1,vI x0_0_2_0,vI x0_0_2_1,.slice A0_0_2_2 l0_0_2_2.length c0_0_2_2,vI x0_0_3_0,vI x0_0_3_1_0,vI x0_0_3_1_1,.slice A0_0_3_1_2 l0_0_3_1_2.length c0_0_3_1_2,vI x0_0_3_2_0,vI x0_0_3_2_1,.slice A0_0_3_2_2 l0_0_3_2_2.length c0_0_3_2_2,.slice A0_0_4 l0_0_4.length c0_0_4,.slice A0_0_5 l0_0_5.length c0_0_5] 49,bk b1 #[vI x0_0_0,vI x0_0_1,vI x0_0_2_0,vI x0_0_2_1,.slice A0_0_2_2 l0_0_2_2.length c0_0_2_2,vI x0_0_3_0,vI x0_0_3_1_0,vI x0_0_3_1_1,.slice A0_0_3_1_2 l0_0_3_1_2.length c0_0_3_1_2,vI x0_0_3_2_0,vI x0_0_3_2_1,.slice A0_0_3_2_2 l0_0_3_2_2.length c0_0_3_2_2,.slice A0_0_4 l0_0_4.length c0_0_4,.slice A0_0_5 l0_0_5.length c0_0_5,vI x0_1,.slice A0_2 l0_2.length c0_2] 99]∧Frm 170 a [(1,pP b1 0),(3,pP b2 0),(6,.bool s)]
abbrev punctualref_wrongStatement.B2 (w0:World):Int→Exit→Act→World→Prop:=Rets Try.prog Try.f55 (punctualref_wrongStatement.Post w0)
theorem punctualref_wrongStatement_p2 (K:Nat) (w0:World) (Z:Zone) (x0_0_0 x0_0_1 x0_0_2_0 x0_0_2_1:Int) (l0_0_2_2:List SExpr) (A0_0_2_2:OA) (c0_0_2_2:Nat) (x0_0_3_0 x0_0_3_1_0 x0_0_3_1_1:Int) (l0_0_3_1_2:List SExpr) (A0_0_3_1_2:OA) (c0_0_3_1_2:Nat) (x0_0_3_2_0 x0_0_3_2_1:Int) (l0_0_3_2_2:List SExpr) (A0_0_3_2_2:OA) (c0_0_3_2_2:Nat) (l0_0_4:List SStmt) (A0_0_4:OA) (c0_0_4:Nat) (l0_0_5:List SStmt) (A0_0_5:OA) (c0_0_5:Nat) (x0_1:Int) (l0_2:List Int) (A0_2:OA) (c0_2:Nat) (hZ:∀ w,Sub w0 w→Z w) (hR0_0_2_2:RdZ Z A0_0_2_2 l0_0_2_2) (hL0_0_2_2:l0_0_2_2.length≤c0_0_2_2) (hR0_0_3_1_2:RdZ Z A0_0_3_1_2 l0_0_3_1_2) (hL0_0_3_1_2:l0_0_3_1_2.length≤c0_0_3_1_2) (hR0_0_3_2_2:RdZ Z A0_0_3_2_2 l0_0_3_2_2) (hL0_0_3_2_2:l0_0_3_2_2.length≤c0_0_3_2_2) (hR0_0_4:RdZ Z A0_0_4 l0_0_4) (hL0_0_4:l0_0_4.length≤c0_0_4) (hR0_0_5:RdZ Z A0_0_5 l0_0_5) (hL0_0_5:l0_0_5.length≤c0_0_5) (hR0_2:RdL w0 A0_2 l0_2) (hL0_2:l0_2.length≤c0_2) (b1 b2 b3:Nat) (hc3:0≤x0_0_0) (e1:Int) (hx4:([0,0,0,0,0,0,0,1]:List Int)[(x0_0_0).toNat]?=some e1) (b4:Nat) (e2:Int) (hx6:([0,7,3,0,1000,1000,3,1000]:List Int)[(x0_0_0).toNat]?=some e2) (o:Bool ⊕ Int) (h:punctualref_wrongStatement.p2 x0_0_0=some o) (w:World) (hS:St w0 w [bk b2 #[vI x0_0_0,vI x0_0_1,vI x0_0_2_0,vI x0_0_2_1,.slice A0_0_2_2 l0_0_2_2.length c0_0_2_2,vI x0_0_3_0,vI x0_0_3_1_0,vI x0_0_3_1_1,.slice A0_0_3_1_2 l0_0_3_1_2.length c0_0_3_1_2,vI x0_0_3_2_0,vI x0_0_3_2_1,.slice A0_0_3_2_2 l0_0_3_2_2.length c0_0_3_2_2,.slice A0_0_4 l0_0_4.length c0_0_4,.slice A0_0_5 l0_0_5.length c0_0_5] 49,bk b1 #[vI x0_0_0,vI x0_0_1,vI x0_0_2_0,vI x0_0_2_1,.slice A0_0_2_2 l0_0_2_2.length c0_0_2_2,vI x0_0_3_0,vI x0_0_3_1_0,vI x0_0_3_1_1,.slice A0_0_3_1_2 l0_0_3_1_2.length c0_0_3_1_2,vI x0_0_3_2_0,vI x0_0_3_2_1,.slice A0_0_3_2_2 l0_0_3_2_2.length c0_0_3_2_2,.slice A0_0_4 l0_0_4.length c0_0_4,.slice A0_0_5 l0_0_5.length c0_0_5,vI x0_1,.slice A0_2 l0_2.length c0_2] 99]) (Q:Exit→Act→World→Prop) (hQ:∀ x a w,Outs (punctualref_wrongStatement.A2 w0 x0_0_0 x0_0_1 x0_0_2_0 x0_0_2_1 l0_0_2_2 A0_0_2_2 c0_0_2_2 x0_0_3_0 x0_0_3_1_0 x0_0_3_1_1 l0_0_3_1_2 A0_0_3_1_2 c0_0_3_1_2 x0_0_3_2_0 x0_0_3_2_1 l0_0_3_2_2 A0_0_3_2_2 c0_0_3_2_2 l0_0_4 A0_0_4 c0_0_4 l0_0_5 A0_0_5 c0_0_5 x0_1 l0_2 A0_2 c0_2 b1 b2) (punctualref_wrongStatement.B2 w0) o x a w→Q x a w):WE Try.prog 170 (subF Try.f55 [1,1,1,1,1,1,0]) Q [(1,pP b1 0),(3,pP b2 0)] w:=by
 simp only [punctualref_wrongStatement.p2] at h
 refine wr [(0,0),(1,0),(2,0),(3,0),(4,0),(5,0),(6,0),(7,0),(8,0)]<|gb [0,1,2,3] [(47,.bool (x0_0_0==1)),(46,.bool (x0_0_0==1)),(45,vI x0_0_0),(44,pP b2 0)] [ld b2 0 (vI x0_0_0)] ⟨hS.c 0,trivial⟩ ?_
 by_cases hc6:x0_0_0=1
 ·rw [if_pos hc6] at h
  refine gk 47 (x0_0_0==1) true (beq_iff_eq.2 hc6)<|gb0 [4,5,6,7,8] [(6,.bool true),(51,.bool true),(50,undef),(49,undef),(48,undef)] ?_
  have hS19:=(hS.b 1).b 1
  obtain rfl:=si h
  exact ge_nil fun a hF=>hQ _ _ _ (Outs.again ⟨hS19,hF.weaken ea⟩)
 rw [if_neg hc6] at h
 refine gk 47 (x0_0_0==1) false (beq_eq_false_iff_ne.2 hc6)<|gb [4,5,6,7,8] [(6,.bool (x0_0_0==2)),(51,.bool (x0_0_0==2)),(50,.bool (x0_0_0==2)),(49,vI x0_0_0),(48,pP b2 0)] [ld b2 0 (vI x0_0_0)] ⟨hS.c 0,trivial⟩ ?_
 have hS21:=(hS.b 1).b 1
 obtain rfl:=si h
 exact ge_nil fun a hF=>hQ _ _ _ (Outs.again ⟨hS21,hF.weaken ea⟩)
abbrev punctualref_wrongStatement.A3 (w0:World) (x0_0_0 x0_0_1 x0_0_2_0 x0_0_2_1:Int) (l0_0_2_2:List SExpr) (A0_0_2_2:OA) (c0_0_2_2:Nat) (x0_0_3_0 x0_0_3_1_0 x0_0_3_1_1:Int) (l0_0_3_1_2:List SExpr) (A0_0_3_1_2:OA) (c0_0_3_1_2:Nat) (x0_0_3_2_0 x0_0_3_2_1:Int) (l0_0_3_2_2:List SExpr) (A0_0_3_2_2:OA) (c0_0_3_2_2:Nat) (l0_0_4:List SStmt) (A0_0_4:OA) (c0_0_4:Nat) (l0_0_5:List SStmt) (A0_0_5:OA) (c0_0_5:Nat) (x0_1:Int) (l0_2:List Int) (A0_2:OA) (c0_2 b1 b2:Nat) (q2:Bool):Bool→Act→World→Prop:=fun (s:Bool) a w=>St w0 w [bk b2 #[vI x0_0_0,vI x0_0_1,vI x0_0_2_0,vI x0_0_2_1,.slice A0_0_2_2 l0_0_2_2.length c0_0_2_2,vI x0_0_3_0,vI x0_0_3_1_0,vI x0_0_3_1_1,.slice A0_0_3_1_2 l0_0_3_1_2.length c0_0_3_1_2,vI x0_0_3_2_0,vI x0_0_3_2_1,.slice A0_0_3_2_2 l0_0_3_2_2.length c0_0_3_2_2,.slice A0_0_4 l0_0_4.length c0_0_4,.slice A0_0_5 l0_0_5.length c0_0_5] 49,bk b1 #[vI x0_0_0,vI x0_0_1,vI x0_0_2_0,vI x0_0_2_1,.slice A0_0_2_2 l0_0_2_2.length c0_0_2_2,vI x0_0_3_0,vI x0_0_3_1_0,vI x0_0_3_1_1,.slice A0_0_3_1_2 l0_0_3_1_2.length c0_0_3_1_2,vI x0_0_3_2_0,vI x0_0_3_2_1,.slice A0_0_3_2_2 l0_0_3_2_2.length c0_0_3_2_2,.slice A0_0_4 l0_0_4.length c0_0_4,.slice A0_0_5 l0_0_5.length c0_0_5,vI x0_1,.slice A0_2 l0_2.length c0_2] 99]∧Frm 170 a [(1,pP b1 0),(3,pP b2 0),(6,.bool q2),(7,.bool s)]
abbrev punctualref_wrongStatement.B3 (w0:World):Int→Exit→Act→World→Prop:=Rets Try.prog Try.f55 (punctualref_wrongStatement.Post w0)
theorem punctualref_wrongStatement_p3 (K:Nat) (w0:World) (Z:Zone) (x0_0_0 x0_0_1 x0_0_2_0 x0_0_2_1:Int) (l0_0_2_2:List SExpr) (A0_0_2_2:OA) (c0_0_2_2:Nat) (x0_0_3_0 x0_0_3_1_0 x0_0_3_1_1:Int) (l0_0_3_1_2:List SExpr) (A0_0_3_1_2:OA) (c0_0_3_1_2:Nat) (x0_0_3_2_0 x0_0_3_2_1:Int) (l0_0_3_2_2:List SExpr) (A0_0_3_2_2:OA) (c0_0_3_2_2:Nat) (l0_0_4:List SStmt) (A0_0_4:OA) (c0_0_4:Nat) (l0_0_5:List SStmt) (A0_0_5:OA) (c0_0_5:Nat) (x0_1:Int) (l0_2:List Int) (A0_2:OA) (c0_2:Nat) (hZ:∀ w,Sub w0 w→Z w) (hR0_0_2_2:RdZ Z A0_0_2_2 l0_0_2_2) (hL0_0_2_2:l0_0_2_2.length≤c0_0_2_2) (hR0_0_3_1_2:RdZ Z A0_0_3_1_2 l0_0_3_1_2) (hL0_0_3_1_2:l0_0_3_1_2.length≤c0_0_3_1_2) (hR0_0_3_2_2:RdZ Z A0_0_3_2_2 l0_0_3_2_2) (hL0_0_3_2_2:l0_0_3_2_2.length≤c0_0_3_2_2) (hR0_0_4:RdZ Z A0_0_4 l0_0_4) (hL0_0_4:l0_0_4.length≤c0_0_4) (hR0_0_5:RdZ Z A0_0_5 l0_0_5) (hL0_0_5:l0_0_5.length≤c0_0_5) (hR0_2:RdL w0 A0_2 l0_2) (hL0_2:l0_2.length≤c0_2) (b1 b2 b3:Nat) (hc3:0≤x0_0_0) (e1:Int) (hx4:([0,0,0,0,0,0,0,1]:List Int)[(x0_0_0).toNat]?=some e1) (b4:Nat) (e2:Int) (hx6:([0,7,3,0,1000,1000,3,1000]:List Int)[(x0_0_0).toNat]?=some e2) (q2:Bool) (o:Bool ⊕ Int) (h:punctualref_wrongStatement.p3 x0_0_0=some o) (w:World) (hS:St w0 w [bk b2 #[vI x0_0_0,vI x0_0_1,vI x0_0_2_0,vI x0_0_2_1,.slice A0_0_2_2 l0_0_2_2.length c0_0_2_2,vI x0_0_3_0,vI x0_0_3_1_0,vI x0_0_3_1_1,.slice A0_0_3_1_2 l0_0_3_1_2.length c0_0_3_1_2,vI x0_0_3_2_0,vI x0_0_3_2_1,.slice A0_0_3_2_2 l0_0_3_2_2.length c0_0_3_2_2,.slice A0_0_4 l0_0_4.length c0_0_4,.slice A0_0_5 l0_0_5.length c0_0_5] 49,bk b1 #[vI x0_0_0,vI x0_0_1,vI x0_0_2_0,vI x0_0_2_1,.slice A0_0_2_2 l0_0_2_2.length c0_0_2_2,vI x0_0_3_0,vI x0_0_3_1_0,vI x0_0_3_1_1,.slice A0_0_3_1_2 l0_0_3_1_2.length c0_0_3_1_2,vI x0_0_3_2_0,vI x0_0_3_2_1,.slice A0_0_3_2_2 l0_0_3_2_2.length c0_0_3_2_2,.slice A0_0_4 l0_0_4.length c0_0_4,.slice A0_0_5 l0_0_5.length c0_0_5,vI x0_1,.slice A0_2 l0_2.length c0_2] 99]) (Q:Exit→Act→World→Prop) (hQ:∀ x a w,Outs (punctualref_wrongStatement.A3 w0 x0_0_0 x0_0_1 x0_0_2_0 x0_0_2_1 l0_0_2_2 A0_0_2_2 c0_0_2_2 x0_0_3_0 x0_0_3_1_0 x0_0_3_1_1 l0_0_3_1_2 A0_0_3_1_2 c0_0_3_1_2 x0_0_3_2_0 x0_0_3_2_1 l0_0_3_2_2 A0_0_3_2_2 c0_0_3_2_2 l0_0_4 A0_0_4 c0_0_4 l0_0_5 A0_0_5 c0_0_5 x0_1 l0_2 A0_2 c0_2 b1 b2 q2) (punctualref_wrongStatement.B3 w0) o x a w→Q x a w):WE Try.prog 170 (subF Try.f55 [1,1,1,1,1,1,1,0]) Q [(1,pP b1 0),(3,pP b2 0),(6,.bool q2)] w:=by
 simp only [punctualref_wrongStatement.p3] at h
 refine wr [(0,0),(1,0),(2,0),(3,0),(4,0),(5,0),(6,0),(7,0),(8,0)]<|gb [0,1,2,3] [(55,.bool (x0_0_0==3)),(54,.bool (x0_0_0==3)),(53,vI x0_0_0),(52,pP b2 0)] [ld b2 0 (vI x0_0_0)] ⟨hS.c 0,trivial⟩ ?_
 by_cases hc7:x0_0_0=3
 ·rw [if_pos hc7] at h
  refine gk 55 (x0_0_0==3) true (beq_iff_eq.2 hc7)<|gb0 [4,5,6,7,8] [(7,.bool true),(59,.bool true),(58,undef),(57,undef),(56,undef)] ?_
  have hS24:=(hS.b 1).b 1
  obtain rfl:=si h
  exact ge_nil fun a hF=>hQ _ _ _ (Outs.again ⟨hS24,hF.weaken ea⟩)
 rw [if_neg hc7] at h
 refine gk 55 (x0_0_0==3) false (beq_eq_false_iff_ne.2 hc7)<|gb [4,5,6,7,8] [(7,.bool (x0_0_0==5)),(59,.bool (x0_0_0==5)),(58,.bool (x0_0_0==5)),(57,vI x0_0_0),(56,pP b2 0)] [ld b2 0 (vI x0_0_0)] ⟨hS.c 0,trivial⟩ ?_
 have hS26:=(hS.b 1).b 1
 obtain rfl:=si h
 exact ge_nil fun a hF=>hQ _ _ _ (Outs.again ⟨hS26,hF.weaken ea⟩)
abbrev punctualref_wrongStatement.A4 (w0:World) (x0_0_0 x0_0_1 x0_0_2_0 x0_0_2_1:Int) (l0_0_2_2:List SExpr) (A0_0_2_2:OA) (c0_0_2_2:Nat) (x0_0_3_0 x0_0_3_1_0 x0_0_3_1_1:Int) (l0_0_3_1_2:List SExpr) (A0_0_3_1_2:OA) (c0_0_3_1_2:Nat) (x0_0_3_2_0 x0_0_3_2_1:Int) (l0_0_3_2_2:List SExpr) (A0_0_3_2_2:OA) (c0_0_3_2_2:Nat) (l0_0_4:List SStmt) (A0_0_4:OA) (c0_0_4:Nat) (l0_0_5:List SStmt) (A0_0_5:OA) (c0_0_5:Nat) (x0_1:Int) (l0_2:List Int) (A0_2:OA) (c0_2 b1 b2:Nat) (q2 q4:Bool):Bool→Act→World→Prop:=fun (s:Bool) a w=>St w0 w [bk b2 #[vI x0_0_0,vI x0_0_1,vI x0_0_2_0,vI x0_0_2_1,.slice A0_0_2_2 l0_0_2_2.length c0_0_2_2,vI x0_0_3_0,vI x0_0_3_1_0,vI x0_0_3_1_1,.slice A0_0_3_1_2 l0_0_3_1_2.length c0_0_3_1_2,vI x0_0_3_2_0,vI x0_0_3_2_1,.slice A0_0_3_2_2 l0_0_3_2_2.length c0_0_3_2_2,.slice A0_0_4 l0_0_4.length c0_0_4,.slice A0_0_5 l0_0_5.length c0_0_5] 49,bk b1 #[vI x0_0_0,vI x0_0_1,vI x0_0_2_0,vI x0_0_2_1,.slice A0_0_2_2 l0_0_2_2.length c0_0_2_2,vI x0_0_3_0,vI x0_0_3_1_0,vI x0_0_3_1_1,.slice A0_0_3_1_2 l0_0_3_1_2.length c0_0_3_1_2,vI x0_0_3_2_0,vI x0_0_3_2_1,.slice A0_0_3_2_2 l0_0_3_2_2.length c0_0_3_2_2,.slice A0_0_4 l0_0_4.length c0_0_4,.slice A0_0_5 l0_0_5.length c0_0_5,vI x0_1,.slice A0_2 l0_2.length c0_2] 99]∧Frm 170 a [(1,pP b1 0),(3,pP b2 0),(6,.bool q2),(7,.bool q4),(8,.bool s)]
abbrev punctualref_wrongStatement.B4 (w0:World):Int→Exit→Act→World→Prop:=Rets Try.prog Try.f55 (punctualref_wrongStatement.Post w0)
theorem punctualref_wrongStatement_p4 (K:Nat) (w0:World) (Z:Zone) (x0_0_0 x0_0_1 x0_0_2_0 x0_0_2_1:Int) (l0_0_2_2:List SExpr) (A0_0_2_2:OA) (c0_0_2_2:Nat) (x0_0_3_0 x0_0_3_1_0 x0_0_3_1_1:Int) (l0_0_3_1_2:List SExpr) (A0_0_3_1_2:OA) (c0_0_3_1_2:Nat) (x0_0_3_2_0 x0_0_3_2_1:Int) (l0_0_3_2_2:List SExpr) (A0_0_3_2_2:OA) (c0_0_3_2_2:Nat) (l0_0_4:List SStmt) (A0_0_4:OA) (c0_0_4:Nat) (l0_0_5:List SStmt) (A0_0_5:OA) (c0_0_5:Nat) (x0_1:Int) (l0_2:List Int) (A0_2:OA) (c0_2:Nat) (hZ:∀ w,Sub w0 w→Z w) (hR0_0_2_2:RdZ Z A0_0_2_2 l0_0_2_2) (hL0_0_2_2:l0_0_2_2.length≤c0_0_2_2) (hR0_0_3_1_2:RdZ Z A0_0_3_1_2 l0_0_3_1_2) (hL0_0_3_1_2:l0_0_3_1_2.length≤c0_0_3_1_2) (hR0_0_3_2_2:RdZ Z A0_0_3_2_2 l0_0_3_2_2) (hL0_0_3_2_2:l0_0_3_2_2.length≤c0_0_3_2_2) (hR0_0_4:RdZ Z A0_0_4 l0_0_4) (hL0_0_4:l0_0_4.length≤c0_0_4) (hR0_0_5:RdZ Z A0_0_5 l0_0_5) (hL0_0_5:l0_0_5.length≤c0_0_5) (hR0_2:RdL w0 A0_2 l0_2) (hL0_2:l0_2.length≤c0_2) (b1 b2 b3:Nat) (hc3:0≤x0_0_0) (e1:Int) (hx4:([0,0,0,0,0,0,0,1]:List Int)[(x0_0_0).toNat]?=some e1) (b4:Nat) (e2:Int) (hx6:([0,7,3,0,1000,1000,3,1000]:List Int)[(x0_0_0).toNat]?=some e2) (q2 q4:Bool) (o:Bool ⊕ Int) (h:punctualref_wrongStatement.p4 x0_0_0=some o) (w:World) (hS:St w0 w [bk b2 #[vI x0_0_0,vI x0_0_1,vI x0_0_2_0,vI x0_0_2_1,.slice A0_0_2_2 l0_0_2_2.length c0_0_2_2,vI x0_0_3_0,vI x0_0_3_1_0,vI x0_0_3_1_1,.slice A0_0_3_1_2 l0_0_3_1_2.length c0_0_3_1_2,vI x0_0_3_2_0,vI x0_0_3_2_1,.slice A0_0_3_2_2 l0_0_3_2_2.length c0_0_3_2_2,.slice A0_0_4 l0_0_4.length c0_0_4,.slice A0_0_5 l0_0_5.length c0_0_5] 49,bk b1 #[vI x0_0_0,vI x0_0_1,vI x0_0_2_0,vI x0_0_2_1,.slice A0_0_2_2 l0_0_2_2.length c0_0_2_2,vI x0_0_3_0,vI x0_0_3_1_0,vI x0_0_3_1_1,.slice A0_0_3_1_2 l0_0_3_1_2.length c0_0_3_1_2,vI x0_0_3_2_0,vI x0_0_3_2_1,.slice A0_0_3_2_2 l0_0_3_2_2.length c0_0_3_2_2,.slice A0_0_4 l0_0_4.length c0_0_4,.slice A0_0_5 l0_0_5.length c0_0_5,vI x0_1,.slice A0_2 l0_2.length c0_2] 99]) (Q:Exit→Act→World→Prop) (hQ:∀ x a w,Outs (punctualref_wrongStatement.A4 w0 x0_0_0 x0_0_1 x0_0_2_0 x0_0_2_1 l0_0_2_2 A0_0_2_2 c0_0_2_2 x0_0_3_0 x0_0_3_1_0 x0_0_3_1_1 l0_0_3_1_2 A0_0_3_1_2 c0_0_3_1_2 x0_0_3_2_0 x0_0_3_2_1 l0_0_3_2_2 A0_0_3_2_2 c0_0_3_2_2 l0_0_4 A0_0_4 c0_0_4 l0_0_5 A0_0_5 c0_0_5 x0_1 l0_2 A0_2 c0_2 b1 b2 q2 q4) (punctualref_wrongStatement.B4 w0) o x a w→Q x a w):WE Try.prog 170 (subF Try.f55 [1,1,1,1,1,1,1,1,0]) Q [(1,pP b1 0),(3,pP b2 0),(6,.bool q2),(7,.bool q4)] w:=by
 simp only [punctualref_wrongStatement.p4] at h
 refine wr [(0,0),(1,0),(2,0),(3,0),(4,0),(5,0),(6,0),(7,0),(8,0)]<|gb [0,1,2,3] [(63,.bool (decide (x0_0_0 ≥ 3))),(62,.bool (decide (x0_0_0 ≥ 3))),(61,vI x0_0_0),(60,pP b2 0)] [ld b2 0 (vI x0_0_0)] ⟨hS.c 0,trivial⟩ ?_
 by_cases hc8:x0_0_0 ≥ 3
 ·rw [if_pos hc8] at h
  refine gk 63 (decide (x0_0_0 ≥ 3)) true (decide_eq_true hc8)<|gb [4,5,6,7,8] [(8,.bool (decide (x0_0_0≤6))),(67,.bool (decide (x0_0_0≤6))),(66,.bool (decide (x0_0_0≤6))),(65,vI x0_0_0),(64,pP b2 0)] [ld b2 0 (vI x0_0_0)] ⟨hS.c 0,trivial⟩ ?_
  have hS29:=(hS.b 1).b 1
  obtain rfl:=si h
  exact ge_nil fun a hF=>hQ _ _ _ (Outs.again ⟨hS29,hF.weaken ea⟩)
 rw [if_neg hc8] at h
 refine gk 63 (decide (x0_0_0 ≥ 3)) false (decide_eq_false hc8)<|gb0 [4,5,6,7,8] [(8,.bool false),(67,.bool false),(66,undef),(65,undef),(64,undef)] ?_
 have hS31:=(hS.b 1).b 1
 obtain rfl:=si h
 exact ge_nil fun a hF=>hQ _ _ _ (Outs.again ⟨hS31,hF.weaken ea⟩)
abbrev punctualref_wrongStatement.A5 (w0:World) (x0_0_0 x0_0_1 x0_0_2_0 x0_0_2_1:Int) (l0_0_2_2:List SExpr) (A0_0_2_2:OA) (c0_0_2_2:Nat) (x0_0_3_0 x0_0_3_1_0 x0_0_3_1_1:Int) (l0_0_3_1_2:List SExpr) (A0_0_3_1_2:OA) (c0_0_3_1_2:Nat) (x0_0_3_2_0 x0_0_3_2_1:Int) (l0_0_3_2_2:List SExpr) (A0_0_3_2_2:OA) (c0_0_3_2_2:Nat) (l0_0_4:List SStmt) (A0_0_4:OA) (c0_0_4:Nat) (l0_0_5:List SStmt) (A0_0_5:OA) (c0_0_5:Nat) (x0_1:Int) (l0_2:List Int) (A0_2:OA) (c0_2 b1 b2:Nat) (q2 q4 q6:Bool):Unit→Act→World→Prop:=fun (s:Unit) a w=>St w0 w [bk b2 #[vI x0_0_0,vI x0_0_1,vI x0_0_2_0,vI x0_0_2_1,.slice A0_0_2_2 l0_0_2_2.length c0_0_2_2,vI x0_0_3_0,vI x0_0_3_1_0,vI x0_0_3_1_1,.slice A0_0_3_1_2 l0_0_3_1_2.length c0_0_3_1_2,vI x0_0_3_2_0,vI x0_0_3_2_1,.slice A0_0_3_2_2 l0_0_3_2_2.length c0_0_3_2_2,.slice A0_0_4 l0_0_4.length c0_0_4,.slice A0_0_5 l0_0_5.length c0_0_5] 49,bk b1 #[vI x0_0_0,vI x0_0_1,vI x0_0_2_0,vI x0_0_2_1,.slice A0_0_2_2 l0_0_2_2.length c0_0_2_2,vI x0_0_3_0,vI x0_0_3_1_0,vI x0_0_3_1_1,.slice A0_0_3_1_2 l0_0_3_1_2.length c0_0_3_1_2,vI x0_0_3_2_0,vI x0_0_3_2_1,.slice A0_0_3_2_2 l0_0_3_2_2.length c0_0_3_2_2,.slice A0_0_4 l0_0_4.length c0_0_4,.slice A0_0_5 l0_0_5.length c0_0_5,vI x0_1,.slice A0_2 l0_2.length c0_2] 99]∧Frm 170 a [(1,pP b1 0),(3,pP b2 0),(6,.bool q2),(7,.bool q4),(8,.bool q6)]
abbrev punctualref_wrongStatement.B5 (w0:World):Int→Exit→Act→World→Prop:=Rets Try.prog Try.f55 (punctualref_wrongStatement.Post w0)
theorem punctualref_wrongStatement_p5 (K:Nat) (w0:World) (Z:Zone) (x0_0_0 x0_0_1 x0_0_2_0 x0_0_2_1:Int) (l0_0_2_2:List SExpr) (A0_0_2_2:OA) (c0_0_2_2:Nat) (x0_0_3_0 x0_0_3_1_0 x0_0_3_1_1:Int) (l0_0_3_1_2:List SExpr) (A0_0_3_1_2:OA) (c0_0_3_1_2:Nat) (x0_0_3_2_0 x0_0_3_2_1:Int) (l0_0_3_2_2:List SExpr) (A0_0_3_2_2:OA) (c0_0_3_2_2:Nat) (l0_0_4:List SStmt) (A0_0_4:OA) (c0_0_4:Nat) (l0_0_5:List SStmt) (A0_0_5:OA) (c0_0_5:Nat) (x0_1:Int) (l0_2:List Int) (A0_2:OA) (c0_2:Nat) (hZ:∀ w,Sub w0 w→Z w) (hR0_0_2_2:RdZ Z A0_0_2_2 l0_0_2_2) (hL0_0_2_2:l0_0_2_2.length≤c0_0_2_2) (hR0_0_3_1_2:RdZ Z A0_0_3_1_2 l0_0_3_1_2) (hL0_0_3_1_2:l0_0_3_1_2.length≤c0_0_3_1_2) (hR0_0_3_2_2:RdZ Z A0_0_3_2_2 l0_0_3_2_2) (hL0_0_3_2_2:l0_0_3_2_2.length≤c0_0_3_2_2) (hR0_0_4:RdZ Z A0_0_4 l0_0_4) (hL0_0_4:l0_0_4.length≤c0_0_4) (hR0_0_5:RdZ Z A0_0_5 l0_0_5) (hL0_0_5:l0_0_5.length≤c0_0_5) (hR0_2:RdL w0 A0_2 l0_2) (hL0_2:l0_2.length≤c0_2) (b1 b2 b3:Nat) (hc3:0≤x0_0_0) (e1:Int) (hx4:([0,0,0,0,0,0,0,1]:List Int)[(x0_0_0).toNat]?=some e1) (b4:Nat) (e2:Int) (hx6:([0,7,3,0,1000,1000,3,1000]:List Int)[(x0_0_0).toNat]?=some e2) (q2 q4 q6:Bool) (o:Unit ⊕ Int) (h:punctualref_wrongStatement.p5 x0_0_2_0 x0_0_2_1 l0_0_2_2 q2=some o) (w:World) (hS:St w0 w [bk b2 #[vI x0_0_0,vI x0_0_1,vI x0_0_2_0,vI x0_0_2_1,.slice A0_0_2_2 l0_0_2_2.length c0_0_2_2,vI x0_0_3_0,vI x0_0_3_1_0,vI x0_0_3_1_1,.slice A0_0_3_1_2 l0_0_3_1_2.length c0_0_3_1_2,vI x0_0_3_2_0,vI x0_0_3_2_1,.slice A0_0_3_2_2 l0_0_3_2_2.length c0_0_3_2_2,.slice A0_0_4 l0_0_4.length c0_0_4,.slice A0_0_5 l0_0_5.length c0_0_5] 49,bk b1 #[vI x0_0_0,vI x0_0_1,vI x0_0_2_0,vI x0_0_2_1,.slice A0_0_2_2 l0_0_2_2.length c0_0_2_2,vI x0_0_3_0,vI x0_0_3_1_0,vI x0_0_3_1_1,.slice A0_0_3_1_2 l0_0_3_1_2.length c0_0_3_1_2,vI x0_0_3_2_0,vI x0_0_3_2_1,.slice A0_0_3_2_2 l0_0_3_2_2.length c0_0_3_2_2,.slice A0_0_4 l0_0_4.length c0_0_4,.slice A0_0_5 l0_0_5.length c0_0_5,vI x0_1,.slice A0_2 l0_2.length c0_2] 99]) (Q:Exit→Act→World→Prop) (hQ:∀ x a w,Outs (punctualref_wrongStatement.A5 w0 x0_0_0 x0_0_1 x0_0_2_0 x0_0_2_1 l0_0_2_2 A0_0_2_2 c0_0_2_2 x0_0_3_0 x0_0_3_1_0 x0_0_3_1_1 l0_0_3_1_2 A0_0_3_1_2 c0_0_3_1_2 x0_0_3_2_0 x0_0_3_2_1 l0_0_3_2_2 A0_0_3_2_2 c0_0_3_2_2 l0_0_4 A0_0_4 c0_0_4 l0_0_5 A0_0_5 c0_0_5 x0_1 l0_2 A0_2 c0_2 b1 b2 q2 q4 q6) (punctualref_wrongStatement.B5 w0) o x a w→Q x a w):WE Try.prog 170 (subF Try.f55 [1,1,1,1,1,1,1,1,1,0]) Q [(1,pP b1 0),(3,pP b2 0),(6,.bool q2),(7,.bool q4),(8,.bool q6)] w:=by
 simp only [punctualref_wrongStatement.p5] at h
 refine ws fun K17 hK17=>wr [(0,0),(1,0),(2,0),(3,0),(4,0),(5,1),(6,0),(7,0)]<|gb0 [0,1,2] [(70,.bool (!q2)),(69,.bool (!q2)),(68,.bool q2)] ?_
 by_cases hc9:q2=true
 ·rw [if_pos hc9] at h
  refine gk 70 (!q2) false (congrArg (fun z=>!z) hc9)<|gb0 [3,4] [(72,undef),(71,undef)]<|ge_off rfl rfl rfl (by kernel_rfl) ?_
  refine gb0 [6,7] [(75,.bool false),(74,undef)]<|gn hK17<|wf ?_
  have hS34:=(hS.b 1).b 1
  obtain rfl:=si h
  exact we_skip fun a hF=>hQ _ _ _ (Outs.again ⟨hS34,hF.weaken ea⟩)
 rw [if_neg hc9] at h
 refine gk 70 (!q2) true (congrArg (fun z=>!z) (Bool.eq_false_iff.2 hc9))<|gb [3,4] [(72,.agg #[vI x0_0_2_0,vI x0_0_2_1,.slice A0_0_2_2 l0_0_2_2.length c0_0_2_2]),(71,pP b2 2)] [ld b2 2 (vI x0_0_2_0),ld b2 3 (vI x0_0_2_1),ld b2 4 (.slice A0_0_2_2 l0_0_2_2.length c0_0_2_2)] ⟨hS.c 0,hS.c 0,hS.c 0,trivial⟩<|ge_call (d:=some 73) (f:=78) (args:=#[.agg #[vI x0_0_2_0,vI x0_0_2_1,.slice A0_0_2_2 l0_0_2_2.length c0_0_2_2]]) (by kernel_rfl) (punctualref_emptyExpr_ok Z x0_0_2_0 x0_0_2_1 l0_0_2_2 A0_0_2_2 c0_0_2_2 _ (fun w' k=>(hZ w' (hS.subw.trans k))) hR0_0_2_2 hL0_0_2_2 _ rfl) ?_
 rintro _ w11 ⟨rfl,hS35⟩
 refine ⟨_,rfl,hS35.below,?_⟩
 have hS36:=hS.call hS35
 refine gb0 [6,7] [(75,.bool (!(punctualref_emptyExpr.f x0_0_2_0 x0_0_2_1 l0_0_2_2))),(74,.bool (!(punctualref_emptyExpr.f x0_0_2_0 x0_0_2_1 l0_0_2_2)))]<|gn hK17 ?_
 by_cases hc10:(punctualref_emptyExpr.f x0_0_2_0 x0_0_2_1 l0_0_2_2)=true
 ·rw [if_pos hc10] at h
  refine wk 75 (!(punctualref_emptyExpr.f x0_0_2_0 x0_0_2_1 l0_0_2_2)) false (congrArg (fun z=>!z) hc10)<|wf ?_
  have hS38:=(hS36.b 1).b 1
  obtain rfl:=si h
  exact we_skip fun a hF=>hQ _ _ _ (Outs.again ⟨hS38,hF.weaken ea⟩)
 rw [if_neg hc10] at h
 refine wk 75 (!(punctualref_emptyExpr.f x0_0_2_0 x0_0_2_1 l0_0_2_2)) true (congrArg (fun z=>!z) (Bool.eq_false_iff.2 hc10))<|wt<|ws fun K18 hK18=>wr [(0,0)]<|gb0 [0] [(2,vI 6)]<|gn hK18 ?_
 have hS39:=hS36.takeN 0
 obtain rfl:=si h
 exact rq hQ fun a hF=>⟨rfl,(pr0 [.tmp 2] [vI 6] ⟨rfl,hS39⟩) a hF⟩
abbrev punctualref_wrongStatement.A6 (w0:World) (x0_0_0 x0_0_1 x0_0_2_0 x0_0_2_1:Int) (l0_0_2_2:List SExpr) (A0_0_2_2:OA) (c0_0_2_2:Nat) (x0_0_3_0 x0_0_3_1_0 x0_0_3_1_1:Int) (l0_0_3_1_2:List SExpr) (A0_0_3_1_2:OA) (c0_0_3_1_2:Nat) (x0_0_3_2_0 x0_0_3_2_1:Int) (l0_0_3_2_2:List SExpr) (A0_0_3_2_2:OA) (c0_0_3_2_2:Nat) (l0_0_4:List SStmt) (A0_0_4:OA) (c0_0_4:Nat) (l0_0_5:List SStmt) (A0_0_5:OA) (c0_0_5:Nat) (x0_1:Int) (l0_2:List Int) (A0_2:OA) (c0_2 b1 b2:Nat) (q2 q4 q6:Bool):Unit→Act→World→Prop:=fun (s:Unit) a w=>St w0 w [bk b2 #[vI x0_0_0,vI x0_0_1,vI x0_0_2_0,vI x0_0_2_1,.slice A0_0_2_2 l0_0_2_2.length c0_0_2_2,vI x0_0_3_0,vI x0_0_3_1_0,vI x0_0_3_1_1,.slice A0_0_3_1_2 l0_0_3_1_2.length c0_0_3_1_2,vI x0_0_3_2_0,vI x0_0_3_2_1,.slice A0_0_3_2_2 l0_0_3_2_2.length c0_0_3_2_2,.slice A0_0_4 l0_0_4.length c0_0_4,.slice A0_0_5 l0_0_5.length c0_0_5] 49,bk b1 #[vI x0_0_0,vI x0_0_1,vI x0_0_2_0,vI x0_0_2_1,.slice A0_0_2_2 l0_0_2_2.length c0_0_2_2,vI x0_0_3_0,vI x0_0_3_1_0,vI x0_0_3_1_1,.slice A0_0_3_1_2 l0_0_3_1_2.length c0_0_3_1_2,vI x0_0_3_2_0,vI x0_0_3_2_1,.slice A0_0_3_2_2 l0_0_3_2_2.length c0_0_3_2_2,.slice A0_0_4 l0_0_4.length c0_0_4,.slice A0_0_5 l0_0_5.length c0_0_5,vI x0_1,.slice A0_2 l0_2.length c0_2] 99]∧Frm 170 a [(1,pP b1 0),(3,pP b2 0),(6,.bool q2),(7,.bool q4),(8,.bool q6)]
abbrev punctualref_wrongStatement.B6 (w0:World):Int→Exit→Act→World→Prop:=Rets Try.prog Try.f55 (punctualref_wrongStatement.Post w0)
theorem punctualref_wrongStatement_p6 (K:Nat) (w0:World) (Z:Zone) (x0_0_0 x0_0_1 x0_0_2_0 x0_0_2_1:Int) (l0_0_2_2:List SExpr) (A0_0_2_2:OA) (c0_0_2_2:Nat) (x0_0_3_0 x0_0_3_1_0 x0_0_3_1_1:Int) (l0_0_3_1_2:List SExpr) (A0_0_3_1_2:OA) (c0_0_3_1_2:Nat) (x0_0_3_2_0 x0_0_3_2_1:Int) (l0_0_3_2_2:List SExpr) (A0_0_3_2_2:OA) (c0_0_3_2_2:Nat) (l0_0_4:List SStmt) (A0_0_4:OA) (c0_0_4:Nat) (l0_0_5:List SStmt) (A0_0_5:OA) (c0_0_5:Nat) (x0_1:Int) (l0_2:List Int) (A0_2:OA) (c0_2:Nat) (hZ:∀ w,Sub w0 w→Z w) (hR0_0_2_2:RdZ Z A0_0_2_2 l0_0_2_2) (hL0_0_2_2:l0_0_2_2.length≤c0_0_2_2) (hR0_0_3_1_2:RdZ Z A0_0_3_1_2 l0_0_3_1_2) (hL0_0_3_1_2:l0_0_3_1_2.length≤c0_0_3_1_2) (hR0_0_3_2_2:RdZ Z A0_0_3_2_2 l0_0_3_2_2) (hL0_0_3_2_2:l0_0_3_2_2.length≤c0_0_3_2_2) (hR0_0_4:RdZ Z A0_0_4 l0_0_4) (hL0_0_4:l0_0_4.length≤c0_0_4) (hR0_0_5:RdZ Z A0_0_5 l0_0_5) (hL0_0_5:l0_0_5.length≤c0_0_5) (hR0_2:RdL w0 A0_2 l0_2) (hL0_2:l0_2.length≤c0_2) (b1 b2 b3:Nat) (hc3:0≤x0_0_0) (e1:Int) (hx4:([0,0,0,0,0,0,0,1]:List Int)[(x0_0_0).toNat]?=some e1) (b4:Nat) (e2:Int) (hx6:([0,7,3,0,1000,1000,3,1000]:List Int)[(x0_0_0).toNat]?=some e2) (q2 q4 q6:Bool) (o:Unit ⊕ Int) (h:punctualref_wrongStatement.p6 x0_0_3_0 x0_0_3_1_0 x0_0_3_1_1 l0_0_3_1_2 x0_0_3_2_0 x0_0_3_2_1 l0_0_3_2_2 q4=some o) (w:World) (hS:St w0 w [bk b2 #[vI x0_0_0,vI x0_0_1,vI x0_0_2_0,vI x0_0_2_1,.slice A0_0_2_2 l0_0_2_2.length c0_0_2_2,vI x0_0_3_0,vI x0_0_3_1_0,vI x0_0_3_1_1,.slice A0_0_3_1_2 l0_0_3_1_2.length c0_0_3_1_2,vI x0_0_3_2_0,vI x0_0_3_2_1,.slice A0_0_3_2_2 l0_0_3_2_2.length c0_0_3_2_2,.slice A0_0_4 l0_0_4.length c0_0_4,.slice A0_0_5 l0_0_5.length c0_0_5] 49,bk b1 #[vI x0_0_0,vI x0_0_1,vI x0_0_2_0,vI x0_0_2_1,.slice A0_0_2_2 l0_0_2_2.length c0_0_2_2,vI x0_0_3_0,vI x0_0_3_1_0,vI x0_0_3_1_1,.slice A0_0_3_1_2 l0_0_3_1_2.length c0_0_3_1_2,vI x0_0_3_2_0,vI x0_0_3_2_1,.slice A0_0_3_2_2 l0_0_3_2_2.length c0_0_3_2_2,.slice A0_0_4 l0_0_4.length c0_0_4,.slice A0_0_5 l0_0_5.length c0_0_5,vI x0_1,.slice A0_2 l0_2.length c0_2] 99]) (Q:Exit→Act→World→Prop) (hQ:∀ x a w,Outs (punctualref_wrongStatement.A6 w0 x0_0_0 x0_0_1 x0_0_2_0 x0_0_2_1 l0_0_2_2 A0_0_2_2 c0_0_2_2 x0_0_3_0 x0_0_3_1_0 x0_0_3_1_1 l0_0_3_1_2 A0_0_3_1_2 c0_0_3_1_2 x0_0_3_2_0 x0_0_3_2_1 l0_0_3_2_2 A0_0_3_2_2 c0_0_3_2_2 l0_0_4 A0_0_4 c0_0_4 l0_0_5 A0_0_5 c0_0_5 x0_1 l0_2 A0_2 c0_2 b1 b2 q2 q4 q6) (punctualref_wrongStatement.B6 w0) o x a w→Q x a w):WE Try.prog 170 (subF Try.f55 [1,1,1,1,1,1,1,1,1,1,0]) Q [(1,pP b1 0),(3,pP b2 0),(6,.bool q2),(7,.bool q4),(8,.bool q6)] w:=by
 simp only [punctualref_wrongStatement.p6] at h
 refine ws fun K20 hK20=>wr [(0,0),(1,0),(2,0),(3,0),(4,0),(5,0),(6,0),(7,0),(8,0),(9,0),(10,0),(11,1),(12,0),(13,0),(14,0),(15,0),(16,0),(17,0),(18,1),(19,0),(20,0),(21,0)]<|gb0 [0,1,2] [(78,.bool (!q4)),(77,.bool (!q4)),(76,.bool q4)] ?_
 by_cases hc11:q4=true
 ·rw [if_pos hc11] at h
  refine gk 78 (!q4) false (congrArg (fun z=>!z) hc11)<|gb0 [3,4,5,6,7,8,9,10] [(86,undef),(85,undef),(84,undef),(83,undef),(82,undef),(81,undef),(80,undef),(79,undef)]<|ge_off rfl rfl rfl (by kernel_rfl) ?_
  refine gb0 [12,13,14,15,16,17] [(93,undef),(92,undef),(91,undef),(90,undef),(89,undef),(88,undef)]<|ge_off rfl rfl rfl (by kernel_rfl) ?_
  refine gb0 [19,20,21] [(97,.bool false),(96,undef),(95,undef)]<|gn hK20<|wf ?_
  have hS42:=(hS.b 1).b 1
  obtain rfl:=si h
  exact we_skip fun a hF=>hQ _ _ _ (Outs.again ⟨hS42,hF.weaken ea⟩)
 rw [if_neg hc11] at h
 refine gk 78 (!q4) true (congrArg (fun z=>!z) (Bool.eq_false_iff.2 hc11))<|gb [3,4,5,6,7] [(83,.bool (x0_0_3_0 != 0)),(82,.bool (x0_0_3_0 != 0)),(81,vI x0_0_3_0),(80,pP b2 5),(79,pP b2 5)] [ld b2 5 (vI x0_0_3_0)] ⟨hS.c 0,trivial⟩ ?_
 by_cases hc12:x0_0_3_0=0
 ·rw [if_pos hc12] at h
  refine gk 83 (x0_0_3_0 != 0) false (bne_eq_false_iff_eq.2 hc12)<|gb [8,9,10] [(86,.agg #[vI x0_0_3_1_0,vI x0_0_3_1_1,.slice A0_0_3_1_2 l0_0_3_1_2.length c0_0_3_1_2]),(85,pP b2 6),(84,pP b2 5)] [ld b2 6 (vI x0_0_3_1_0),ld b2 7 (vI x0_0_3_1_1),ld b2 8 (.slice A0_0_3_1_2 l0_0_3_1_2.length c0_0_3_1_2)] ⟨hS.c 0,hS.c 0,hS.c 0,trivial⟩<|ge_call (d:=some 87) (f:=78) (args:=#[.agg #[vI x0_0_3_1_0,vI x0_0_3_1_1,.slice A0_0_3_1_2 l0_0_3_1_2.length c0_0_3_1_2]]) (by kernel_rfl) (punctualref_emptyExpr_ok Z x0_0_3_1_0 x0_0_3_1_1 l0_0_3_1_2 A0_0_3_1_2 c0_0_3_1_2 _ (fun w' k=>(hZ w' (hS.subw.trans k))) hR0_0_3_1_2 hL0_0_3_1_2 _ rfl) ?_
  rintro _ w13 ⟨rfl,hS43⟩
  refine ⟨_,rfl,hS43.below,?_⟩
  have hS44:=hS.call hS43
  refine gb0 [12,13,14] [(90,.bool (!(punctualref_emptyExpr.f x0_0_3_1_0 x0_0_3_1_1 l0_0_3_1_2))),(89,.bool (!(punctualref_emptyExpr.f x0_0_3_1_0 x0_0_3_1_1 l0_0_3_1_2))),(88,.bool (!(punctualref_emptyExpr.f x0_0_3_1_0 x0_0_3_1_1 l0_0_3_1_2)))] ?_
  by_cases hc13:(punctualref_emptyExpr.f x0_0_3_1_0 x0_0_3_1_1 l0_0_3_1_2)=true
  ·rw [if_pos hc13] at h
   refine gk 90 (!(punctualref_emptyExpr.f x0_0_3_1_0 x0_0_3_1_1 l0_0_3_1_2)) false (congrArg (fun z=>!z) hc13)<|gb [15,16,17] [(93,.agg #[vI x0_0_3_2_0,vI x0_0_3_2_1,.slice A0_0_3_2_2 l0_0_3_2_2.length c0_0_3_2_2]),(92,pP b2 9),(91,pP b2 5)] [ld b2 9 (vI x0_0_3_2_0),ld b2 10 (vI x0_0_3_2_1),ld b2 11 (.slice A0_0_3_2_2 l0_0_3_2_2.length c0_0_3_2_2)] ⟨hS44.c 0,hS44.c 0,hS44.c 0,trivial⟩<|ge_call (d:=some 94) (f:=78) (args:=#[.agg #[vI x0_0_3_2_0,vI x0_0_3_2_1,.slice A0_0_3_2_2 l0_0_3_2_2.length c0_0_3_2_2]]) (by kernel_rfl) (punctualref_emptyExpr_ok Z x0_0_3_2_0 x0_0_3_2_1 l0_0_3_2_2 A0_0_3_2_2 c0_0_3_2_2 _ (fun w' k=>(hZ w' (hS44.subw.trans k))) hR0_0_3_2_2 hL0_0_3_2_2 _ rfl) ?_
   rintro _ w14 ⟨rfl,hS45⟩
   refine ⟨_,rfl,hS45.below,?_⟩
   have hS46:=hS44.call hS45
   refine gb0 [19,20,21] [(97,.bool (!(punctualref_emptyExpr.f x0_0_3_2_0 x0_0_3_2_1 l0_0_3_2_2))),(96,.bool (!(punctualref_emptyExpr.f x0_0_3_2_0 x0_0_3_2_1 l0_0_3_2_2))),(95,.bool (!(punctualref_emptyExpr.f x0_0_3_2_0 x0_0_3_2_1 l0_0_3_2_2)))]<|gn hK20 ?_
   by_cases hc14:(punctualref_emptyExpr.f x0_0_3_2_0 x0_0_3_2_1 l0_0_3_2_2)=true
   ·rw [if_pos hc14] at h
    refine wk 97 (!(punctualref_emptyExpr.f x0_0_3_2_0 x0_0_3_2_1 l0_0_3_2_2)) false (congrArg (fun z=>!z) hc14)<|wf ?_
    have hS48:=(hS46.b 1).b 1
    obtain rfl:=si h
    exact we_skip fun a hF=>hQ _ _ _ (Outs.again ⟨hS48,hF.weaken ea⟩)
   rw [if_neg hc14] at h
   refine wk 97 (!(punctualref_emptyExpr.f x0_0_3_2_0 x0_0_3_2_1 l0_0_3_2_2)) true (congrArg (fun z=>!z) (Bool.eq_false_iff.2 hc14))<|wt<|ws fun K21 hK21=>wr [(0,0)]<|gb0 [0] [(2,vI 6)]<|gn hK21 ?_
   have hS49:=hS46.takeN 0
   obtain rfl:=si h
   exact rq hQ fun a hF=>⟨rfl,(pr0 [.tmp 2] [vI 6] ⟨rfl,hS49⟩) a hF⟩
  rw [if_neg hc13] at h
  refine gk 90 (!(punctualref_emptyExpr.f x0_0_3_1_0 x0_0_3_1_1 l0_0_3_1_2)) true (congrArg (fun z=>!z) (Bool.eq_false_iff.2 hc13))<|gb0 [15,16,17] [(93,undef),(92,undef),(91,undef)]<|ge_off rfl rfl rfl (by kernel_rfl) ?_
  refine gb0 [19,20,21] [(97,.bool true),(96,.bool true),(95,undef)]<|gn hK20<|wt<|ws fun K22 hK22=>wr [(0,0)]<|gb0 [0] [(2,vI 6)]<|gn hK22 ?_
  have hS50:=hS44.takeN 0
  obtain rfl:=si h
  exact rq hQ fun a hF=>⟨rfl,(pr0 [.tmp 2] [vI 6] ⟨rfl,hS50⟩) a hF⟩
 rw [if_neg hc12] at h
 refine gk 83 (x0_0_3_0 != 0) true (bne_iff_ne.2 hc12)<|gb0 [8,9,10] [(86,undef),(85,undef),(84,undef)]<|ge_off rfl rfl rfl (by kernel_rfl) ?_
 refine gb0 [12,13,14,15,16,17] [(93,undef),(92,undef),(91,undef),(90,.bool true),(89,.bool true),(88,undef)]<|ge_off rfl rfl rfl (by kernel_rfl) ?_
 refine gb0 [19,20,21] [(97,.bool true),(96,.bool true),(95,undef)]<|gn hK20<|wt<|ws fun K23 hK23=>wr [(0,0)]<|gb0 [0] [(2,vI 6)]<|gn hK23 ?_
 have hS51:=hS.takeN 0
 obtain rfl:=si h
 exact rq hQ fun a hF=>⟨rfl,(pr0 [.tmp 2] [vI 6] ⟨rfl,hS51⟩) a hF⟩
abbrev punctualref_wrongStatement.A7 (w0:World) (x0_0_0 x0_0_1 x0_0_2_0 x0_0_2_1:Int) (l0_0_2_2:List SExpr) (A0_0_2_2:OA) (c0_0_2_2:Nat) (x0_0_3_0 x0_0_3_1_0 x0_0_3_1_1:Int) (l0_0_3_1_2:List SExpr) (A0_0_3_1_2:OA) (c0_0_3_1_2:Nat) (x0_0_3_2_0 x0_0_3_2_1:Int) (l0_0_3_2_2:List SExpr) (A0_0_3_2_2:OA) (c0_0_3_2_2:Nat) (l0_0_4:List SStmt) (A0_0_4:OA) (c0_0_4:Nat) (l0_0_5:List SStmt) (A0_0_5:OA) (c0_0_5:Nat) (x0_1:Int) (l0_2:List Int) (A0_2:OA) (c0_2 b1 b2:Nat) (q2 q4 q6:Bool):Unit→Act→World→Prop:=fun (s:Unit) a w=>St w0 w [bk b2 #[vI x0_0_0,vI x0_0_1,vI x0_0_2_0,vI x0_0_2_1,.slice A0_0_2_2 l0_0_2_2.length c0_0_2_2,vI x0_0_3_0,vI x0_0_3_1_0,vI x0_0_3_1_1,.slice A0_0_3_1_2 l0_0_3_1_2.length c0_0_3_1_2,vI x0_0_3_2_0,vI x0_0_3_2_1,.slice A0_0_3_2_2 l0_0_3_2_2.length c0_0_3_2_2,.slice A0_0_4 l0_0_4.length c0_0_4,.slice A0_0_5 l0_0_5.length c0_0_5] 49,bk b1 #[vI x0_0_0,vI x0_0_1,vI x0_0_2_0,vI x0_0_2_1,.slice A0_0_2_2 l0_0_2_2.length c0_0_2_2,vI x0_0_3_0,vI x0_0_3_1_0,vI x0_0_3_1_1,.slice A0_0_3_1_2 l0_0_3_1_2.length c0_0_3_1_2,vI x0_0_3_2_0,vI x0_0_3_2_1,.slice A0_0_3_2_2 l0_0_3_2_2.length c0_0_3_2_2,.slice A0_0_4 l0_0_4.length c0_0_4,.slice A0_0_5 l0_0_5.length c0_0_5,vI x0_1,.slice A0_2 l0_2.length c0_2] 99]∧Frm 170 a [(1,pP b1 0),(3,pP b2 0),(6,.bool q2),(7,.bool q4),(8,.bool q6)]
abbrev punctualref_wrongStatement.B7 (w0:World):Int→Exit→Act→World→Prop:=Rets Try.prog Try.f55 (punctualref_wrongStatement.Post w0)
theorem punctualref_wrongStatement_p7 (K:Nat) (w0:World) (Z:Zone) (x0_0_0 x0_0_1 x0_0_2_0 x0_0_2_1:Int) (l0_0_2_2:List SExpr) (A0_0_2_2:OA) (c0_0_2_2:Nat) (x0_0_3_0 x0_0_3_1_0 x0_0_3_1_1:Int) (l0_0_3_1_2:List SExpr) (A0_0_3_1_2:OA) (c0_0_3_1_2:Nat) (x0_0_3_2_0 x0_0_3_2_1:Int) (l0_0_3_2_2:List SExpr) (A0_0_3_2_2:OA) (c0_0_3_2_2:Nat) (l0_0_4:List SStmt) (A0_0_4:OA) (c0_0_4:Nat) (l0_0_5:List SStmt) (A0_0_5:OA) (c0_0_5:Nat) (x0_1:Int) (l0_2:List Int) (A0_2:OA) (c0_2:Nat) (hZ:∀ w,Sub w0 w→Z w) (hR0_0_2_2:RdZ Z A0_0_2_2 l0_0_2_2) (hL0_0_2_2:l0_0_2_2.length≤c0_0_2_2) (hR0_0_3_1_2:RdZ Z A0_0_3_1_2 l0_0_3_1_2) (hL0_0_3_1_2:l0_0_3_1_2.length≤c0_0_3_1_2) (hR0_0_3_2_2:RdZ Z A0_0_3_2_2 l0_0_3_2_2) (hL0_0_3_2_2:l0_0_3_2_2.length≤c0_0_3_2_2) (hR0_0_4:RdZ Z A0_0_4 l0_0_4) (hL0_0_4:l0_0_4.length≤c0_0_4) (hR0_0_5:RdZ Z A0_0_5 l0_0_5) (hL0_0_5:l0_0_5.length≤c0_0_5) (hR0_2:RdL w0 A0_2 l0_2) (hL0_2:l0_2.length≤c0_2) (b1 b2 b3:Nat) (hc3:0≤x0_0_0) (e1:Int) (hx4:([0,0,0,0,0,0,0,1]:List Int)[(x0_0_0).toNat]?=some e1) (b4:Nat) (e2:Int) (hx6:([0,7,3,0,1000,1000,3,1000]:List Int)[(x0_0_0).toNat]?=some e2) (q2 q4 q6:Bool) (o:Unit ⊕ Int) (h:punctualref_wrongStatement.p7 x0_0_0 l0_0_4 l0_0_5 q6=some o) (w:World) (hS:St w0 w [bk b2 #[vI x0_0_0,vI x0_0_1,vI x0_0_2_0,vI x0_0_2_1,.slice A0_0_2_2 l0_0_2_2.length c0_0_2_2,vI x0_0_3_0,vI x0_0_3_1_0,vI x0_0_3_1_1,.slice A0_0_3_1_2 l0_0_3_1_2.length c0_0_3_1_2,vI x0_0_3_2_0,vI x0_0_3_2_1,.slice A0_0_3_2_2 l0_0_3_2_2.length c0_0_3_2_2,.slice A0_0_4 l0_0_4.length c0_0_4,.slice A0_0_5 l0_0_5.length c0_0_5] 49,bk b1 #[vI x0_0_0,vI x0_0_1,vI x0_0_2_0,vI x0_0_2_1,.slice A0_0_2_2 l0_0_2_2.length c0_0_2_2,vI x0_0_3_0,vI x0_0_3_1_0,vI x0_0_3_1_1,.slice A0_0_3_1_2 l0_0_3_1_2.length c0_0_3_1_2,vI x0_0_3_2_0,vI x0_0_3_2_1,.slice A0_0_3_2_2 l0_0_3_2_2.length c0_0_3_2_2,.slice A0_0_4 l0_0_4.length c0_0_4,.slice A0_0_5 l0_0_5.length c0_0_5,vI x0_1,.slice A0_2 l0_2.length c0_2] 99]) (Q:Exit→Act→World→Prop) (hQ:∀ x a w,Outs (punctualref_wrongStatement.A7 w0 x0_0_0 x0_0_1 x0_0_2_0 x0_0_2_1 l0_0_2_2 A0_0_2_2 c0_0_2_2 x0_0_3_0 x0_0_3_1_0 x0_0_3_1_1 l0_0_3_1_2 A0_0_3_1_2 c0_0_3_1_2 x0_0_3_2_0 x0_0_3_2_1 l0_0_3_2_2 A0_0_3_2_2 c0_0_3_2_2 l0_0_4 A0_0_4 c0_0_4 l0_0_5 A0_0_5 c0_0_5 x0_1 l0_2 A0_2 c0_2 b1 b2 q2 q4 q6) (punctualref_wrongStatement.B7 w0) o x a w→Q x a w):WE Try.prog 170 (subF Try.f55 [1,1,1,1,1,1,1,1,1,1,1,0]) Q [(1,pP b1 0),(3,pP b2 0),(6,.bool q2),(7,.bool q4),(8,.bool q6)] w:=by
 simp only [punctualref_wrongStatement.p7] at h
 refine ws fun K25 hK25=>wr [(0,0),(1,0),(2,0),(3,0),(4,0),(5,0),(6,0),(7,0),(8,0),(9,0),(10,0),(11,0),(12,0),(13,0),(14,0),(15,0),(16,0),(17,0),(18,0)]<|gb0 [0,1,2] [(100,.bool (!q6)),(99,.bool (!q6)),(98,.bool q6)] ?_
 by_cases hc15:q6=true
 ·rw [if_pos hc15] at h
  refine gk 100 (!q6) false (congrArg (fun z=>!z) hc15)<|gb [3,4,5,6,7,8,9,10,11,12] [(110,.bool (x0_0_0 != 3)),(109,.bool (x0_0_0 != 3)),(108,vI x0_0_0),(107,pP b2 0),(106,.bool false),(105,.bool false),(104,undef),(103,undef),(102,undef),(101,undef)] [ld b2 0 (vI x0_0_0)] ⟨hS.c 0,trivial⟩ ?_
  by_cases hc16:x0_0_0=3
  ·rw [if_pos hc16] at h
   refine gk 110 (x0_0_0 != 3) false (bne_eq_false_iff_eq.2 hc16)<|gb0 [13,14,15,16,17,18] [(116,.bool false),(115,.bool false),(114,undef),(113,undef),(112,undef),(111,undef)]<|gn hK25<|wf ?_
   have hS54:=(hS.b 1).b 1
   obtain rfl:=si h
   exact we_skip fun a hF=>hQ _ _ _ (Outs.again ⟨hS54,hF.weaken ea⟩)
  rw [if_neg hc16] at h
  refine gk 110 (x0_0_0 != 3) true (bne_iff_ne.2 hc16)<|gb [13,14,15,16,17,18] [(116,.bool (decide ((l0_0_5.length:Int) > 0))),(115,.bool (decide ((l0_0_5.length:Int) > 0))),(114,.bool (decide ((l0_0_5.length:Int) > 0))),(113,vI (l0_0_5.length:Int)),(112,.slice A0_0_5 l0_0_5.length c0_0_5),(111,pP b2 13)] [ld b2 13 (.slice A0_0_5 l0_0_5.length c0_0_5)] ⟨hS.c 0,trivial⟩<|gn hK25 ?_
  by_cases hc17:(l0_0_5.length:Int) > 0
  ·rw [if_pos hc17] at h
   refine wk 116 (decide ((l0_0_5.length:Int) > 0)) true (decide_eq_true hc17)<|wt<|ws fun K26 hK26=>wr [(0,0)]<|gb0 [0] [(2,vI 6)]<|gn hK26 ?_
   have hS55:=hS.takeN 0
   obtain rfl:=si h
   exact rq hQ fun a hF=>⟨rfl,(pr0 [.tmp 2] [vI 6] ⟨rfl,hS55⟩) a hF⟩
  rw [if_neg hc17] at h
  refine wk 116 (decide ((l0_0_5.length:Int) > 0)) false (decide_eq_false hc17)<|wf ?_
  have hS57:=(hS.b 1).b 1
  obtain rfl:=si h
  exact we_skip fun a hF=>hQ _ _ _ (Outs.again ⟨hS57,hF.weaken ea⟩)
 rw [if_neg hc15] at h
 refine gk 100 (!q6) true (congrArg (fun z=>!z) (Bool.eq_false_iff.2 hc15))<|gb [3,4,5,6,7,8] [(106,.bool (decide ((l0_0_4.length:Int) > 0))),(105,.bool (decide ((l0_0_4.length:Int) > 0))),(104,.bool (decide ((l0_0_4.length:Int) > 0))),(103,vI (l0_0_4.length:Int)),(102,.slice A0_0_4 l0_0_4.length c0_0_4),(101,pP b2 12)] [ld b2 12 (.slice A0_0_4 l0_0_4.length c0_0_4)] ⟨hS.c 0,trivial⟩ ?_
 by_cases hc18:(l0_0_4.length:Int) > 0
 ·rw [if_pos hc18] at h
  refine gk 106 (decide ((l0_0_4.length:Int) > 0)) true (decide_eq_true hc18)<|gb0 [9,10,11,12,13,14,15,16,17,18] [(116,.bool true),(115,undef),(114,undef),(113,undef),(112,undef),(111,undef),(110,undef),(109,undef),(108,undef),(107,undef)]<|gn hK25<|wt<|ws fun K27 hK27=>wr [(0,0)]<|gb0 [0] [(2,vI 6)]<|gn hK27 ?_
  have hS58:=hS.takeN 0
  obtain rfl:=si h
  exact rq hQ fun a hF=>⟨rfl,(pr0 [.tmp 2] [vI 6] ⟨rfl,hS58⟩) a hF⟩
 rw [if_neg hc18] at h
 refine gk 106 (decide ((l0_0_4.length:Int) > 0)) false (decide_eq_false hc18)<|gb [9,10,11,12] [(110,.bool (x0_0_0 != 3)),(109,.bool (x0_0_0 != 3)),(108,vI x0_0_0),(107,pP b2 0)] [ld b2 0 (vI x0_0_0)] ⟨hS.c 0,trivial⟩ ?_
 by_cases hc19:x0_0_0=3
 ·rw [if_pos hc19] at h
  refine gk 110 (x0_0_0 != 3) false (bne_eq_false_iff_eq.2 hc19)<|gb0 [13,14,15,16,17,18] [(116,.bool false),(115,.bool false),(114,undef),(113,undef),(112,undef),(111,undef)]<|gn hK25<|wf ?_
  have hS60:=(hS.b 1).b 1
  obtain rfl:=si h
  exact we_skip fun a hF=>hQ _ _ _ (Outs.again ⟨hS60,hF.weaken ea⟩)
 rw [if_neg hc19] at h
 refine gk 110 (x0_0_0 != 3) true (bne_iff_ne.2 hc19)<|gb [13,14,15,16,17,18] [(116,.bool (decide ((l0_0_5.length:Int) > 0))),(115,.bool (decide ((l0_0_5.length:Int) > 0))),(114,.bool (decide ((l0_0_5.length:Int) > 0))),(113,vI (l0_0_5.length:Int)),(112,.slice A0_0_5 l0_0_5.length c0_0_5),(111,pP b2 13)] [ld b2 13 (.slice A0_0_5 l0_0_5.length c0_0_5)] ⟨hS.c 0,trivial⟩<|gn hK25 ?_
 by_cases hc20:(l0_0_5.length:Int) > 0
 ·rw [if_pos hc20] at h
  refine wk 116 (decide ((l0_0_5.length:Int) > 0)) true (decide_eq_true hc20)<|wt<|ws fun K28 hK28=>wr [(0,0)]<|gb0 [0] [(2,vI 6)]<|gn hK28 ?_
  have hS61:=hS.takeN 0
  obtain rfl:=si h
  exact rq hQ fun a hF=>⟨rfl,(pr0 [.tmp 2] [vI 6] ⟨rfl,hS61⟩) a hF⟩
 rw [if_neg hc20] at h
 refine wk 116 (decide ((l0_0_5.length:Int) > 0)) false (decide_eq_false hc20)<|wf ?_
 have hS63:=(hS.b 1).b 1
 obtain rfl:=si h
 exact we_skip fun a hF=>hQ _ _ _ (Outs.again ⟨hS63,hF.weaken ea⟩)
abbrev punctualref_wrongStatement.A8 (w0:World) (x0_0_0 x0_0_1 x0_0_2_0 x0_0_2_1:Int) (l0_0_2_2:List SExpr) (A0_0_2_2:OA) (c0_0_2_2:Nat) (x0_0_3_0 x0_0_3_1_0 x0_0_3_1_1:Int) (l0_0_3_1_2:List SExpr) (A0_0_3_1_2:OA) (c0_0_3_1_2:Nat) (x0_0_3_2_0 x0_0_3_2_1:Int) (l0_0_3_2_2:List SExpr) (A0_0_3_2_2:OA) (c0_0_3_2_2:Nat) (l0_0_4:List SStmt) (A0_0_4:OA) (c0_0_4:Nat) (l0_0_5:List SStmt) (A0_0_5:OA) (c0_0_5:Nat) (x0_1:Int) (l0_2:List Int) (A0_2:OA) (c0_2 b1 b2:Nat) (q4 q6:Bool):Unit→Act→World→Prop:=fun (s:Unit) a w=>St w0 w [bk b2 #[vI x0_0_0,vI x0_0_1,vI x0_0_2_0,vI x0_0_2_1,.slice A0_0_2_2 l0_0_2_2.length c0_0_2_2,vI x0_0_3_0,vI x0_0_3_1_0,vI x0_0_3_1_1,.slice A0_0_3_1_2 l0_0_3_1_2.length c0_0_3_1_2,vI x0_0_3_2_0,vI x0_0_3_2_1,.slice A0_0_3_2_2 l0_0_3_2_2.length c0_0_3_2_2,.slice A0_0_4 l0_0_4.length c0_0_4,.slice A0_0_5 l0_0_5.length c0_0_5] 49,bk b1 #[vI x0_0_0,vI x0_0_1,vI x0_0_2_0,vI x0_0_2_1,.slice A0_0_2_2 l0_0_2_2.length c0_0_2_2,vI x0_0_3_0,vI x0_0_3_1_0,vI x0_0_3_1_1,.slice A0_0_3_1_2 l0_0_3_1_2.length c0_0_3_1_2,vI x0_0_3_2_0,vI x0_0_3_2_1,.slice A0_0_3_2_2 l0_0_3_2_2.length c0_0_3_2_2,.slice A0_0_4 l0_0_4.length c0_0_4,.slice A0_0_5 l0_0_5.length c0_0_5,vI x0_1,.slice A0_2 l0_2.length c0_2] 99]∧Frm 170 a [(1,pP b1 0),(3,pP b2 0),(7,.bool q4),(8,.bool q6)]
abbrev punctualref_wrongStatement.B8 (w0:World):Int→Exit→Act→World→Prop:=Rets Try.prog Try.f55 (punctualref_wrongStatement.Post w0)
theorem punctualref_wrongStatement_p8 (K:Nat) (w0:World) (Z:Zone) (x0_0_0 x0_0_1 x0_0_2_0 x0_0_2_1:Int) (l0_0_2_2:List SExpr) (A0_0_2_2:OA) (c0_0_2_2:Nat) (x0_0_3_0 x0_0_3_1_0 x0_0_3_1_1:Int) (l0_0_3_1_2:List SExpr) (A0_0_3_1_2:OA) (c0_0_3_1_2:Nat) (x0_0_3_2_0 x0_0_3_2_1:Int) (l0_0_3_2_2:List SExpr) (A0_0_3_2_2:OA) (c0_0_3_2_2:Nat) (l0_0_4:List SStmt) (A0_0_4:OA) (c0_0_4:Nat) (l0_0_5:List SStmt) (A0_0_5:OA) (c0_0_5:Nat) (x0_1:Int) (l0_2:List Int) (A0_2:OA) (c0_2:Nat) (hZ:∀ w,Sub w0 w→Z w) (hR0_0_2_2:RdZ Z A0_0_2_2 l0_0_2_2) (hL0_0_2_2:l0_0_2_2.length≤c0_0_2_2) (hR0_0_3_1_2:RdZ Z A0_0_3_1_2 l0_0_3_1_2) (hL0_0_3_1_2:l0_0_3_1_2.length≤c0_0_3_1_2) (hR0_0_3_2_2:RdZ Z A0_0_3_2_2 l0_0_3_2_2) (hL0_0_3_2_2:l0_0_3_2_2.length≤c0_0_3_2_2) (hR0_0_4:RdZ Z A0_0_4 l0_0_4) (hL0_0_4:l0_0_4.length≤c0_0_4) (hR0_0_5:RdZ Z A0_0_5 l0_0_5) (hL0_0_5:l0_0_5.length≤c0_0_5) (hR0_2:RdL w0 A0_2 l0_2) (hL0_2:l0_2.length≤c0_2) (b1 b2 b3:Nat) (hc3:0≤x0_0_0) (e1:Int) (hx4:([0,0,0,0,0,0,0,1]:List Int)[(x0_0_0).toNat]?=some e1) (b4:Nat) (e2:Int) (hx6:([0,7,3,0,1000,1000,3,1000]:List Int)[(x0_0_0).toNat]?=some e2) (q2 q4 q6:Bool) (o:Unit ⊕ Int) (h:punctualref_wrongStatement.p8 K x0_0_2_0 x0_0_2_1 l0_0_2_2 q2=some o) (w:World) (hS:St w0 w [bk b2 #[vI x0_0_0,vI x0_0_1,vI x0_0_2_0,vI x0_0_2_1,.slice A0_0_2_2 l0_0_2_2.length c0_0_2_2,vI x0_0_3_0,vI x0_0_3_1_0,vI x0_0_3_1_1,.slice A0_0_3_1_2 l0_0_3_1_2.length c0_0_3_1_2,vI x0_0_3_2_0,vI x0_0_3_2_1,.slice A0_0_3_2_2 l0_0_3_2_2.length c0_0_3_2_2,.slice A0_0_4 l0_0_4.length c0_0_4,.slice A0_0_5 l0_0_5.length c0_0_5] 49,bk b1 #[vI x0_0_0,vI x0_0_1,vI x0_0_2_0,vI x0_0_2_1,.slice A0_0_2_2 l0_0_2_2.length c0_0_2_2,vI x0_0_3_0,vI x0_0_3_1_0,vI x0_0_3_1_1,.slice A0_0_3_1_2 l0_0_3_1_2.length c0_0_3_1_2,vI x0_0_3_2_0,vI x0_0_3_2_1,.slice A0_0_3_2_2 l0_0_3_2_2.length c0_0_3_2_2,.slice A0_0_4 l0_0_4.length c0_0_4,.slice A0_0_5 l0_0_5.length c0_0_5,vI x0_1,.slice A0_2 l0_2.length c0_2] 99]) (Q:Exit→Act→World→Prop) (hQ:∀ x a w,Outs (punctualref_wrongStatement.A8 w0 x0_0_0 x0_0_1 x0_0_2_0 x0_0_2_1 l0_0_2_2 A0_0_2_2 c0_0_2_2 x0_0_3_0 x0_0_3_1_0 x0_0_3_1_1 l0_0_3_1_2 A0_0_3_1_2 c0_0_3_1_2 x0_0_3_2_0 x0_0_3_2_1 l0_0_3_2_2 A0_0_3_2_2 c0_0_3_2_2 l0_0_4 A0_0_4 c0_0_4 l0_0_5 A0_0_5 c0_0_5 x0_1 l0_2 A0_2 c0_2 b1 b2 q4 q6) (punctualref_wrongStatement.B8 w0) o x a w→Q x a w):WE Try.prog 170 (subF Try.f55 [1,1,1,1,1,1,1,1,1,1,1,1,0]) Q [(1,pP b1 0),(3,pP b2 0),(6,.bool q2),(7,.bool q4),(8,.bool q6)] w:=by
 simp only [punctualref_wrongStatement.p8] at h
 refine ws fun K30 hK30=>wr [(0,0)]<|gb0 [0] [(117,.bool q2)]<|gn hK30 ?_
 by_cases hc21:q2=true
 ·rw [if_pos hc21] at h
  refine wk 117 q2 true hc21<|wt<|ws fun K31 hK31=>wr [(0,0),(1,0),(2,1),(3,0)] ?_
  rcases hq12:punctualref_wrongExpr.f K x0_0_2_0 x0_0_2_1 l0_0_2_2 with _ | r1
  ·rw [hq12] at h; cases h
  rw [hq12] at h
  simp only [] at h
  refine gb [0,1] [(119,.agg #[vI x0_0_2_0,vI x0_0_2_1,.slice A0_0_2_2 l0_0_2_2.length c0_0_2_2]),(118,pP b2 2)] [ld b2 2 (vI x0_0_2_0),ld b2 3 (vI x0_0_2_1),ld b2 4 (.slice A0_0_2_2 l0_0_2_2.length c0_0_2_2)] ⟨hS.c 0,hS.c 0,hS.c 0,trivial⟩<|ge_call (d:=some 120) (f:=79) (args:=#[.agg #[vI x0_0_2_0,vI x0_0_2_1,.slice A0_0_2_2 l0_0_2_2.length c0_0_2_2]]) (by kernel_rfl) (punctualref_wrongExpr_ok K Z x0_0_2_0 x0_0_2_1 l0_0_2_2 A0_0_2_2 c0_0_2_2 _ (fun w' k=>(hZ w' (hS.subw.trans k))) hR0_0_2_2 hL0_0_2_2 _ hq12) ?_
  rintro _ w17 ⟨rfl,hS65⟩
  refine ⟨_,rfl,hS65.below,?_⟩
  have hS66:=hS.call hS65
  refine gb0 [3] [(9,vI r1)]<|gn hK31<|ws fun K32 hK32=>wr [(0,0),(1,0)]<|gb0 [0,1] [(122,.bool (r1 != 0)),(121,vI r1)]<|gn hK32 ?_
  by_cases hc22:r1=0
  ·rw [if_pos hc22] at h
   refine wk 122 (r1 != 0) false (bne_eq_false_iff_eq.2 hc22)<|wf ?_
   have hS68:=(hS66.b 1).b 1
   obtain rfl:=si h
   exact we_skip fun a hF=>hQ _ _ _ (Outs.again ⟨hS68,hF.weaken ea⟩)
  rw [if_neg hc22] at h
  refine wk 122 (r1 != 0) true (bne_iff_ne.2 hc22)<|wt<|ws fun K33 hK33=>wr [(0,0),(1,0)]<|gb0 [0,1] [(2,vI r1),(123,vI r1)]<|gn hK33 ?_
  have hS69:=hS66.takeN 0
  obtain rfl:=si h
  exact rq hQ fun a hF=>⟨rfl,(pr0 [.tmp 2] [vI r1] ⟨rfl,hS69⟩) a hF⟩
 rw [if_neg hc21] at h
 refine wk 117 q2 false (Bool.eq_false_iff.2 hc21)<|wf ?_
 have hS71:=(hS.b 1).b 1
 obtain rfl:=si h
 exact we_skip fun a hF=>hQ _ _ _ (Outs.again ⟨hS71,hF.weaken ea⟩)
abbrev punctualref_wrongStatement.A9 (w0:World) (x0_0_0 x0_0_1 x0_0_2_0 x0_0_2_1:Int) (l0_0_2_2:List SExpr) (A0_0_2_2:OA) (c0_0_2_2:Nat) (x0_0_3_0 x0_0_3_1_0 x0_0_3_1_1:Int) (l0_0_3_1_2:List SExpr) (A0_0_3_1_2:OA) (c0_0_3_1_2:Nat) (x0_0_3_2_0 x0_0_3_2_1:Int) (l0_0_3_2_2:List SExpr) (A0_0_3_2_2:OA) (c0_0_3_2_2:Nat) (l0_0_4:List SStmt) (A0_0_4:OA) (c0_0_4:Nat) (l0_0_5:List SStmt) (A0_0_5:OA) (c0_0_5:Nat) (x0_1:Int) (l0_2:List Int) (A0_2:OA) (c0_2 b1 b2:Nat) (q6:Bool):Unit→Act→World→Prop:=fun (s:Unit) a w=>St w0 w [bk b2 #[vI x0_0_0,vI x0_0_1,vI x0_0_2_0,vI x0_0_2_1,.slice A0_0_2_2 l0_0_2_2.length c0_0_2_2,vI x0_0_3_0,vI x0_0_3_1_0,vI x0_0_3_1_1,.slice A0_0_3_1_2 l0_0_3_1_2.length c0_0_3_1_2,vI x0_0_3_2_0,vI x0_0_3_2_1,.slice A0_0_3_2_2 l0_0_3_2_2.length c0_0_3_2_2,.slice A0_0_4 l0_0_4.length c0_0_4,.slice A0_0_5 l0_0_5.length c0_0_5] 49,bk b1 #[vI x0_0_0,vI x0_0_1,vI x0_0_2_0,vI x0_0_2_1,.slice A0_0_2_2 l0_0_2_2.length c0_0_2_2,vI x0_0_3_0,vI x0_0_3_1_0,vI x0_0_3_1_1,.slice A0_0_3_1_2 l0_0_3_1_2.length c0_0_3_1_2,vI x0_0_3_2_0,vI x0_0_3_2_1,.slice A0_0_3_2_2 l0_0_3_2_2.length c0_0_3_2_2,.slice A0_0_4 l0_0_4.length c0_0_4,.slice A0_0_5 l0_0_5.length c0_0_5,vI x0_1,.slice A0_2 l0_2.length c0_2] 99]∧Frm 170 a [(1,pP b1 0),(3,pP b2 0),(8,.bool q6)]
abbrev punctualref_wrongStatement.B9 (w0:World):Int→Exit→Act→World→Prop:=Rets Try.prog Try.f55 (punctualref_wrongStatement.Post w0)
theorem punctualref_wrongStatement_p9 (K:Nat) (w0:World) (Z:Zone) (x0_0_0 x0_0_1 x0_0_2_0 x0_0_2_1:Int) (l0_0_2_2:List SExpr) (A0_0_2_2:OA) (c0_0_2_2:Nat) (x0_0_3_0 x0_0_3_1_0 x0_0_3_1_1:Int) (l0_0_3_1_2:List SExpr) (A0_0_3_1_2:OA) (c0_0_3_1_2:Nat) (x0_0_3_2_0 x0_0_3_2_1:Int) (l0_0_3_2_2:List SExpr) (A0_0_3_2_2:OA) (c0_0_3_2_2:Nat) (l0_0_4:List SStmt) (A0_0_4:OA) (c0_0_4:Nat) (l0_0_5:List SStmt) (A0_0_5:OA) (c0_0_5:Nat) (x0_1:Int) (l0_2:List Int) (A0_2:OA) (c0_2:Nat) (hZ:∀ w,Sub w0 w→Z w) (hR0_0_2_2:RdZ Z A0_0_2_2 l0_0_2_2) (hL0_0_2_2:l0_0_2_2.length≤c0_0_2_2) (hR0_0_3_1_2:RdZ Z A0_0_3_1_2 l0_0_3_1_2) (hL0_0_3_1_2:l0_0_3_1_2.length≤c0_0_3_1_2) (hR0_0_3_2_2:RdZ Z A0_0_3_2_2 l0_0_3_2_2) (hL0_0_3_2_2:l0_0_3_2_2.length≤c0_0_3_2_2) (hR0_0_4:RdZ Z A0_0_4 l0_0_4) (hL0_0_4:l0_0_4.length≤c0_0_4) (hR0_0_5:RdZ Z A0_0_5 l0_0_5) (hL0_0_5:l0_0_5.length≤c0_0_5) (hR0_2:RdL w0 A0_2 l0_2) (hL0_2:l0_2.length≤c0_2) (b1 b2 b3:Nat) (hc3:0≤x0_0_0) (e1:Int) (hx4:([0,0,0,0,0,0,0,1]:List Int)[(x0_0_0).toNat]?=some e1) (b4:Nat) (e2:Int) (hx6:([0,7,3,0,1000,1000,3,1000]:List Int)[(x0_0_0).toNat]?=some e2) (q2 q4 q6:Bool) (o:Unit ⊕ Int) (h:punctualref_wrongStatement.p9 K x0_0_3_0 x0_0_3_1_0 x0_0_3_1_1 l0_0_3_1_2 x0_0_3_2_0 x0_0_3_2_1 l0_0_3_2_2 q4=some o) (w:World) (hS:St w0 w [bk b2 #[vI x0_0_0,vI x0_0_1,vI x0_0_2_0,vI x0_0_2_1,.slice A0_0_2_2 l0_0_2_2.length c0_0_2_2,vI x0_0_3_0,vI x0_0_3_1_0,vI x0_0_3_1_1,.slice A0_0_3_1_2 l0_0_3_1_2.length c0_0_3_1_2,vI x0_0_3_2_0,vI x0_0_3_2_1,.slice A0_0_3_2_2 l0_0_3_2_2.length c0_0_3_2_2,.slice A0_0_4 l0_0_4.length c0_0_4,.slice A0_0_5 l0_0_5.length c0_0_5] 49,bk b1 #[vI x0_0_0,vI x0_0_1,vI x0_0_2_0,vI x0_0_2_1,.slice A0_0_2_2 l0_0_2_2.length c0_0_2_2,vI x0_0_3_0,vI x0_0_3_1_0,vI x0_0_3_1_1,.slice A0_0_3_1_2 l0_0_3_1_2.length c0_0_3_1_2,vI x0_0_3_2_0,vI x0_0_3_2_1,.slice A0_0_3_2_2 l0_0_3_2_2.length c0_0_3_2_2,.slice A0_0_4 l0_0_4.length c0_0_4,.slice A0_0_5 l0_0_5.length c0_0_5,vI x0_1,.slice A0_2 l0_2.length c0_2] 99]) (Q:Exit→Act→World→Prop) (hQ:∀ x a w,Outs (punctualref_wrongStatement.A9 w0 x0_0_0 x0_0_1 x0_0_2_0 x0_0_2_1 l0_0_2_2 A0_0_2_2 c0_0_2_2 x0_0_3_0 x0_0_3_1_0 x0_0_3_1_1 l0_0_3_1_2 A0_0_3_1_2 c0_0_3_1_2 x0_0_3_2_0 x0_0_3_2_1 l0_0_3_2_2 A0_0_3_2_2 c0_0_3_2_2 l0_0_4 A0_0_4 c0_0_4 l0_0_5 A0_0_5 c0_0_5 x0_1 l0_2 A0_2 c0_2 b1 b2 q6) (punctualref_wrongStatement.B9 w0) o x a w→Q x a w):WE Try.prog 170 (subF Try.f55 [1,1,1,1,1,1,1,1,1,1,1,1,1,0]) Q [(1,pP b1 0),(3,pP b2 0),(7,.bool q4),(8,.bool q6)] w:=by
 simp only [punctualref_wrongStatement.p9] at h
 refine ws fun K35 hK35=>wr [(0,0)]<|gb0 [0] [(124,.bool q4)]<|gn hK35 ?_
 by_cases hc23:q4=true
 ·rw [if_pos hc23] at h
  refine wk 124 q4 true hc23<|wt<|ws fun K36 hK36=>ws fun K37 hK37=>wr [(0,0),(1,0),(2,0),(3,0),(4,0),(5,0),(6,0),(7,0),(8,0),(9,0)]<|gb [0,1,2,3,4] [(129,.bool (decide (x0_0_3_0<1))),(128,.bool (decide (x0_0_3_0<1))),(127,vI x0_0_3_0),(126,pP b2 5),(125,pP b2 5)] [ld b2 5 (vI x0_0_3_0)] ⟨hS.c 0,trivial⟩ ?_
  by_cases hc24:x0_0_3_0<1
  ·rw [if_pos hc24] at h
   refine gk 129 (decide (x0_0_3_0<1)) true (decide_eq_true hc24)<|gb0 [5,6,7,8,9] [(134,.bool true),(133,undef),(132,undef),(131,undef),(130,undef)]<|gn hK37<|wt<|ws fun K38 hK38=>wr [(0,0)]<|gb0 [0] [(2,vI 6)]<|gn hK38 ?_
   have hS73:=hS.takeN 0
   obtain rfl:=si h
   exact rq hQ fun a hF=>⟨rfl,(pr0 [.tmp 2] [vI 6] ⟨rfl,hS73⟩) a hF⟩
  rw [if_neg hc24] at h
  refine gk 129 (decide (x0_0_3_0<1)) false (decide_eq_false hc24)<|gb [5,6,7,8,9] [(134,.bool (decide (x0_0_3_0 > 4))),(133,.bool (decide (x0_0_3_0 > 4))),(132,vI x0_0_3_0),(131,pP b2 5),(130,pP b2 5)] [ld b2 5 (vI x0_0_3_0)] ⟨hS.c 0,trivial⟩<|gn hK37 ?_
  by_cases hc25:x0_0_3_0 > 4
  ·rw [if_pos hc25] at h
   refine wk 134 (decide (x0_0_3_0 > 4)) true (decide_eq_true hc25)<|wt<|ws fun K39 hK39=>wr [(0,0)]<|gb0 [0] [(2,vI 6)]<|gn hK39 ?_
   have hS74:=hS.takeN 0
   obtain rfl:=si h
   exact rq hQ fun a hF=>⟨rfl,(pr0 [.tmp 2] [vI 6] ⟨rfl,hS74⟩) a hF⟩
  rw [if_neg hc25] at h
  refine wk 134 (decide (x0_0_3_0 > 4)) false (decide_eq_false hc25)<|wf<|we_skip fun a hF=>hK36 _ _ ?_ a hF
  refine ws fun K40 hK40=>ws fun K41 hK41=>wr [(0,0),(1,0),(2,0),(3,1),(4,0)] ?_
  rcases hq14:punctualref_wrongExpr.f K x0_0_3_1_0 x0_0_3_1_1 l0_0_3_1_2 with _ | r2
  ·rw [hq14] at h; cases h
  rw [hq14] at h
  simp only [] at h
  refine gb [0,1,2] [(137,.agg #[vI x0_0_3_1_0,vI x0_0_3_1_1,.slice A0_0_3_1_2 l0_0_3_1_2.length c0_0_3_1_2]),(136,pP b2 6),(135,pP b2 5)] [ld b2 6 (vI x0_0_3_1_0),ld b2 7 (vI x0_0_3_1_1),ld b2 8 (.slice A0_0_3_1_2 l0_0_3_1_2.length c0_0_3_1_2)] ⟨hS.c 0,hS.c 0,hS.c 0,trivial⟩<|ge_call (d:=some 138) (f:=79) (args:=#[.agg #[vI x0_0_3_1_0,vI x0_0_3_1_1,.slice A0_0_3_1_2 l0_0_3_1_2.length c0_0_3_1_2]]) (by kernel_rfl) (punctualref_wrongExpr_ok K Z x0_0_3_1_0 x0_0_3_1_1 l0_0_3_1_2 A0_0_3_1_2 c0_0_3_1_2 _ (fun w' k=>(hZ w' (hS.subw.trans k))) hR0_0_3_1_2 hL0_0_3_1_2 _ hq14) ?_
  rintro _ w19 ⟨rfl,hS75⟩
  refine ⟨_,rfl,hS75.below,?_⟩
  have hS76:=hS.call hS75
  refine gb0 [4] [(10,vI r2)]<|gn hK41<|ws fun K42 hK42=>wr [(0,0),(1,0)]<|gb0 [0,1] [(140,.bool (r2 != 0)),(139,vI r2)]<|gn hK42 ?_
  by_cases hc26:r2=0
  ·rw [if_pos hc26] at h
   refine wk 140 (r2 != 0) false (bne_eq_false_iff_eq.2 hc26)<|wf<|we_skip fun a hF=>hK40 _ _ ?_ a hF
   refine ws fun K43 hK43=>wr [(0,0),(1,0),(2,0),(3,1),(4,0)] ?_
   rcases hq15:punctualref_wrongExpr.f K x0_0_3_2_0 x0_0_3_2_1 l0_0_3_2_2 with _ | r3
   ·rw [hq15] at h; cases h
   rw [hq15] at h
   simp only [] at h
   refine gb [0,1,2] [(144,.agg #[vI x0_0_3_2_0,vI x0_0_3_2_1,.slice A0_0_3_2_2 l0_0_3_2_2.length c0_0_3_2_2]),(143,pP b2 9),(142,pP b2 5)] [ld b2 9 (vI x0_0_3_2_0),ld b2 10 (vI x0_0_3_2_1),ld b2 11 (.slice A0_0_3_2_2 l0_0_3_2_2.length c0_0_3_2_2)] ⟨hS76.c 0,hS76.c 0,hS76.c 0,trivial⟩<|ge_call (d:=some 145) (f:=79) (args:=#[.agg #[vI x0_0_3_2_0,vI x0_0_3_2_1,.slice A0_0_3_2_2 l0_0_3_2_2.length c0_0_3_2_2]]) (by kernel_rfl) (punctualref_wrongExpr_ok K Z x0_0_3_2_0 x0_0_3_2_1 l0_0_3_2_2 A0_0_3_2_2 c0_0_3_2_2 _ (fun w' k=>(hZ w' (hS76.subw.trans k))) hR0_0_3_2_2 hL0_0_3_2_2 _ hq15) ?_
   rintro _ w20 ⟨rfl,hS77⟩
   refine ⟨_,rfl,hS77.below,?_⟩
   have hS78:=hS76.call hS77
   refine gb0 [4] [(11,vI r3)]<|gn hK43<|ws fun K44 hK44=>wr [(0,0),(1,0)]<|gb0 [0,1] [(147,.bool (r3 != 0)),(146,vI r3)]<|gn hK44 ?_
   by_cases hc27:r3=0
   ·rw [if_pos hc27] at h
    refine wk 147 (r3 != 0) false (bne_eq_false_iff_eq.2 hc27)<|wf ?_
    have hS80:=(hS78.b 1).b 1
    obtain rfl:=si h
    exact we_skip fun a hF=>hQ _ _ _ (Outs.again ⟨hS80,hF.weaken ea⟩)
   rw [if_neg hc27] at h
   refine wk 147 (r3 != 0) true (bne_iff_ne.2 hc27)<|wt<|ws fun K45 hK45=>wr [(0,0),(1,0)]<|gb0 [0,1] [(2,vI r3),(148,vI r3)]<|gn hK45 ?_
   have hS81:=hS78.takeN 0
   obtain rfl:=si h
   exact rq hQ fun a hF=>⟨rfl,(pr0 [.tmp 2] [vI r3] ⟨rfl,hS81⟩) a hF⟩
  rw [if_neg hc26] at h
  refine wk 140 (r2 != 0) true (bne_iff_ne.2 hc26)<|wt<|ws fun K46 hK46=>wr [(0,0),(1,0)]<|gb0 [0,1] [(2,vI r2),(141,vI r2)]<|gn hK46 ?_
  have hS82:=hS76.takeN 0
  obtain rfl:=si h
  exact rq hQ fun a hF=>⟨rfl,(pr0 [.tmp 2] [vI r2] ⟨rfl,hS82⟩) a hF⟩
 rw [if_neg hc23] at h
 refine wk 124 q4 false (Bool.eq_false_iff.2 hc23)<|wf ?_
 have hS84:=(hS.b 1).b 1
 obtain rfl:=si h
 exact we_skip fun a hF=>hQ _ _ _ (Outs.again ⟨hS84,hF.weaken ea⟩)
abbrev punctualref_wrongStatement.A10 (w0:World) (x0_0_0 x0_0_1 x0_0_2_0 x0_0_2_1:Int) (l0_0_2_2:List SExpr) (A0_0_2_2:OA) (c0_0_2_2:Nat) (x0_0_3_0 x0_0_3_1_0 x0_0_3_1_1:Int) (l0_0_3_1_2:List SExpr) (A0_0_3_1_2:OA) (c0_0_3_1_2:Nat) (x0_0_3_2_0 x0_0_3_2_1:Int) (l0_0_3_2_2:List SExpr) (A0_0_3_2_2:OA) (c0_0_3_2_2:Nat) (l0_0_4:List SStmt) (A0_0_4:OA) (c0_0_4:Nat) (l0_0_5:List SStmt) (A0_0_5:OA) (c0_0_5:Nat) (l0_2:List Int) (A0_2:OA) (c0_2 b2:Nat):Nat→Act→World→Prop:=fun (s:Nat) a w=>St w0 w [bk b2 #[vI x0_0_0,vI x0_0_1,vI x0_0_2_0,vI x0_0_2_1,.slice A0_0_2_2 l0_0_2_2.length c0_0_2_2,vI x0_0_3_0,vI x0_0_3_1_0,vI x0_0_3_1_1,.slice A0_0_3_1_2 l0_0_3_1_2.length c0_0_3_1_2,vI x0_0_3_2_0,vI x0_0_3_2_1,.slice A0_0_3_2_2 l0_0_3_2_2.length c0_0_3_2_2,.slice A0_0_4 l0_0_4.length c0_0_4,.slice A0_0_5 l0_0_5.length c0_0_5] 49]∧Frm 170 a [(3,pP b2 0),(159,.slice A0_2 l0_2.length c0_2),(160,vI (l0_2.length:Int)),(161,vI (s:Int))]
abbrev punctualref_wrongStatement.B10 (w0:World):(Unit ⊕ Int)→Exit→Act→World→Prop:=Exits 0 (fun (s:Unit) a w=>St w0 w []∧Frm 170 a []) (Rets Try.prog Try.f55 (punctualref_wrongStatement.Post w0))
theorem punctualref_wrongStatement_r10 (K:Nat) (w0:World) (Z:Zone) (x0_0_0 x0_0_1 x0_0_2_0 x0_0_2_1:Int) (l0_0_2_2:List SExpr) (A0_0_2_2:OA) (c0_0_2_2:Nat) (x0_0_3_0 x0_0_3_1_0 x0_0_3_1_1:Int) (l0_0_3_1_2:List SExpr) (A0_0_3_1_2:OA) (c0_0_3_1_2:Nat) (x0_0_3_2_0 x0_0_3_2_1:Int) (l0_0_3_2_2:List SExpr) (A0_0_3_2_2:OA) (c0_0_3_2_2:Nat) (l0_0_4:List SStmt) (A0_0_4:OA) (c0_0_4:Nat) (l0_0_5:List SStmt) (A0_0_5:OA) (c0_0_5:Nat) (x0_1:Int) (l0_2:List Int) (A0_2:OA) (c0_2:Nat) (hZ:∀ w,Sub w0 w→Z w) (hR0_0_2_2:RdZ Z A0_0_2_2 l0_0_2_2) (hL0_0_2_2:l0_0_2_2.length≤c0_0_2_2) (hR0_0_3_1_2:RdZ Z A0_0_3_1_2 l0_0_3_1_2) (hL0_0_3_1_2:l0_0_3_1_2.length≤c0_0_3_1_2) (hR0_0_3_2_2:RdZ Z A0_0_3_2_2 l0_0_3_2_2) (hL0_0_3_2_2:l0_0_3_2_2.length≤c0_0_3_2_2) (hR0_0_4:RdZ Z A0_0_4 l0_0_4) (hL0_0_4:l0_0_4.length≤c0_0_4) (hR0_0_5:RdZ Z A0_0_5 l0_0_5) (hL0_0_5:l0_0_5.length≤c0_0_5) (hR0_2:RdL w0 A0_2 l0_2) (hL0_2:l0_2.length≤c0_2) (b1 b2 b3:Nat) (hc3:0≤x0_0_0) (e1:Int) (hx4:([0,0,0,0,0,0,0,1]:List Int)[(x0_0_0).toNat]?=some e1) (b4:Nat) (e2:Int) (hx6:([0,7,3,0,1000,1000,3,1000]:List Int)[(x0_0_0).toNat]?=some e2) (q2 q4 q6:Bool) (hc28:q6=true) (hc29:¬ (x0_1 ≥ 6)) (hc30:x0_0_0=6) (s:Nat) (o:Nat ⊕ (Unit ⊕ Int)) (h:punctualref_wrongStatement.r10 x0_0_1 l0_2 s=some o) (a:Act) (w:World) (hA:punctualref_wrongStatement.A10 w0 x0_0_0 x0_0_1 x0_0_2_0 x0_0_2_1 l0_0_2_2 A0_0_2_2 c0_0_2_2 x0_0_3_0 x0_0_3_1_0 x0_0_3_1_1 l0_0_3_1_2 A0_0_3_1_2 c0_0_3_1_2 x0_0_3_2_0 x0_0_3_2_1 l0_0_3_2_2 A0_0_3_2_2 c0_0_3_2_2 l0_0_4 A0_0_4 c0_0_4 l0_0_5 A0_0_5 c0_0_5 l0_2 A0_2 c0_2 b2 s a w) (Q:Exit→Act→World→Prop) (hQ:∀ x a w,Outs (punctualref_wrongStatement.A10 w0 x0_0_0 x0_0_1 x0_0_2_0 x0_0_2_1 l0_0_2_2 A0_0_2_2 c0_0_2_2 x0_0_3_0 x0_0_3_1_0 x0_0_3_1_1 l0_0_3_1_2 A0_0_3_1_2 c0_0_3_1_2 x0_0_3_2_0 x0_0_3_2_1 l0_0_3_2_2 A0_0_3_2_2 c0_0_3_2_2 l0_0_4 A0_0_4 c0_0_4 l0_0_5 A0_0_5 c0_0_5 l0_2 A0_2 c0_2 b2) (punctualref_wrongStatement.B10 w0) o x a w→Q x a w):(subF Try.f55 [1,1,1,1,1,1,1,1,1,1,1,1,1,1,1,0,1,0,1,0,0]).wp Try.prog Q a w:=by
 obtain ⟨i1,hs⟩:∃ z,z=s:=⟨s,rfl⟩
 subst hs
 obtain ⟨hS,hF⟩:=hA
 replace hS:St w0 w [bk b2 #[vI x0_0_0,vI x0_0_1,vI x0_0_2_0,vI x0_0_2_1,.slice A0_0_2_2 l0_0_2_2.length c0_0_2_2,vI x0_0_3_0,vI x0_0_3_1_0,vI x0_0_3_1_1,.slice A0_0_3_1_2 l0_0_3_1_2.length c0_0_3_1_2,vI x0_0_3_2_0,vI x0_0_3_2_1,.slice A0_0_3_2_2 l0_0_3_2_2.length c0_0_3_2_2,.slice A0_0_4 l0_0_4.length c0_0_4,.slice A0_0_5 l0_0_5.length c0_0_5] 49]:=hS
 simp only [punctualref_wrongStatement.r10] at h
 refine (?_:WE Try.prog 170 (subF Try.f55 [1,1,1,1,1,1,1,1,1,1,1,1,1,1,1,0,1,0,1,0,0]) Q [(3,pP b2 0),(159,.slice A0_2 l0_2.length c0_2),(160,vI (l0_2.length:Int)),(161,vI (i1:Int))] w) a hF
 clear hF a
 refine ws fun K53 hK53=>wr [(0,0)]<|gb0 [0] [(162,.bool (decide ((i1:Int)<(l0_2.length:Int))))]<|gn hK53<|ws fun K54 hK54=>?_
 by_cases hc31:(i1:Int)<(l0_2.length:Int)
 ·rw [if_pos hc31] at h
  refine wk 162 (decide ((i1:Int)<(l0_2.length:Int))) true (decide_eq_true hc31)<|wt<|we_skip fun a hF=>hK54 _ _ ?_ a hF
  refine ws fun K55 hK55=>we_block<|ws fun K56 hK56=>wr [(0,0),(1,0),(2,0)] ?_
  rcases hx7:l0_2[i1]? with _ | e3
  ·rw [hx7] at h; cases h
  rw [hx7] at h
  simp only [] at h
  refine gi 163 0 24 3 1 l0_2.length c0_2 (.tmp 159) (.tmp 161) A0_2 .i64 (i1:Int) i1 ((hS.rd hR0_2).eqSome (pos_of_get hx7)) rfl (lt_of_get hx7) ?_
  refine gb [1,2] [(13,vI e3),(164,vI e3)] [.loaded ⟨blkOf A0_2,offOf A0_2+i1*1,none⟩ (vI e3)] ⟨RdL.cell (j:=0) (hS.rd hR0_2) hx7 rfl,trivial⟩<|gn hK56<|ws fun K57 hK57=>wr [(0,0),(1,0),(2,0),(3,0)]<|gb [0,1,2,3] [(168,.bool (e3==x0_0_1)),(167,vI x0_0_1),(166,pP b2 1),(165,vI e3)] [ld b2 1 (vI x0_0_1)] ⟨hS.c 0,trivial⟩<|gn hK57 ?_
  by_cases hc32:e3=x0_0_1
  ·rw [if_pos hc32] at h
   refine wk 168 (e3==x0_0_1) true (beq_iff_eq.2 hc32)<|wt<|ws fun K58 hK58=>wr [(0,0)]<|gb0 [0] [(2,vI 10)]<|gn hK58 ?_
   have hS88:=hS.takeN 0
   obtain rfl:=si h
   exact we_ret fun a hF=>hQ _ _ _ (Outs.out nofun (Exits.on ⟨rfl,(pr0 [.tmp 2] [vI 10] ⟨rfl,hS88⟩) a hF⟩))
  rw [if_neg hc32] at h
  refine wk 168 (e3==x0_0_1) false (beq_eq_false_iff_ne.2 hc32)<|wf<|we_skip fun a hF=>hK55 _ _ ?_ a hF
  refine wr [(0,0),(1,0)]<|ge_addn (d:=169) (ty:=3) (x:=(.tmp 161)) (y:=(.const (vI 1))) (t:=3) (t2:=3) (k:=.i64) (m:=i1) (by kernel_rfl) (by kernel_rfl) (by kernel_rfl) (by have h0:=hR0_2.small; omega) ?_
  refine gb0 [1] [(161,vI ((i1+1:Nat):Int))] ?_
  obtain rfl:=si h
  exact ge_nil fun a hF=>hQ _ _ _ (Outs.again ⟨hS,hF.weaken ea⟩)
 rw [if_neg hc31] at h
 refine wk 162 (decide ((i1:Int)<(l0_2.length:Int))) false (decide_eq_false hc31)<|wf ?_
 have hS89:=hS.takeN 0
 obtain rfl:=si h
 exact we_exit fun a hF=>hQ _ _ _ (Outs.out nofun (Exits.here ⟨hS89,hF.weaken trivial⟩))
abbrev punctualref_wrongStatement.A11 (w0:World) (x0_0_0 x0_0_1 x0_0_2_0 x0_0_2_1:Int) (l0_0_2_2:List SExpr) (A0_0_2_2:OA) (c0_0_2_2:Nat) (x0_0_3_0 x0_0_3_1_0 x0_0_3_1_1:Int) (l0_0_3_1_2:List SExpr) (A0_0_3_1_2:OA) (c0_0_3_1_2:Nat) (x0_0_3_2_0 x0_0_3_2_1:Int) (l0_0_3_2_2:List SExpr) (A0_0_3_2_2:OA) (c0_0_3_2_2:Nat) (l0_0_4:List SStmt) (A0_0_4:OA) (c0_0_4:Nat) (l0_0_5:List SStmt) (A0_0_5:OA) (c0_0_5:Nat) (l0_2:List Int) (A0_2:OA) (c0_2 b2:Nat):Nat→Act→World→Prop:=fun (s:Nat) a w=>St w0 w [bk b2 #[vI x0_0_0,vI x0_0_1,vI x0_0_2_0,vI x0_0_2_1,.slice A0_0_2_2 l0_0_2_2.length c0_0_2_2,vI x0_0_3_0,vI x0_0_3_1_0,vI x0_0_3_1_1,.slice A0_0_3_1_2 l0_0_3_1_2.length c0_0_3_1_2,vI x0_0_3_2_0,vI x0_0_3_2_1,.slice A0_0_3_2_2 l0_0_3_2_2.length c0_0_3_2_2,.slice A0_0_4 l0_0_4.length c0_0_4,.slice A0_0_5 l0_0_5.length c0_0_5] 49]∧Frm 170 a [(3,pP b2 0),(159,.slice A0_2 l0_2.length c0_2),(160,vI (l0_2.length:Int)),(161,vI (s:Int))]
abbrev punctualref_wrongStatement.B11 (w0:World):(Unit ⊕ Int)→Exit→Act→World→Prop:=Exits 0 (fun (s:Unit) a w=>St w0 w []∧Frm 170 a []) (Rets Try.prog Try.f55 (punctualref_wrongStatement.Post w0))
theorem punctualref_wrongStatement_r11 (K:Nat) (w0:World) (Z:Zone) (x0_0_0 x0_0_1 x0_0_2_0 x0_0_2_1:Int) (l0_0_2_2:List SExpr) (A0_0_2_2:OA) (c0_0_2_2:Nat) (x0_0_3_0 x0_0_3_1_0 x0_0_3_1_1:Int) (l0_0_3_1_2:List SExpr) (A0_0_3_1_2:OA) (c0_0_3_1_2:Nat) (x0_0_3_2_0 x0_0_3_2_1:Int) (l0_0_3_2_2:List SExpr) (A0_0_3_2_2:OA) (c0_0_3_2_2:Nat) (l0_0_4:List SStmt) (A0_0_4:OA) (c0_0_4:Nat) (l0_0_5:List SStmt) (A0_0_5:OA) (c0_0_5:Nat) (x0_1:Int) (l0_2:List Int) (A0_2:OA) (c0_2:Nat) (hZ:∀ w,Sub w0 w→Z w) (hR0_0_2_2:RdZ Z A0_0_2_2 l0_0_2_2) (hL0_0_2_2:l0_0_2_2.length≤c0_0_2_2) (hR0_0_3_1_2:RdZ Z A0_0_3_1_2 l0_0_3_1_2) (hL0_0_3_1_2:l0_0_3_1_2.length≤c0_0_3_1_2) (hR0_0_3_2_2:RdZ Z A0_0_3_2_2 l0_0_3_2_2) (hL0_0_3_2_2:l0_0_3_2_2.length≤c0_0_3_2_2) (hR0_0_4:RdZ Z A0_0_4 l0_0_4) (hL0_0_4:l0_0_4.length≤c0_0_4) (hR0_0_5:RdZ Z A0_0_5 l0_0_5) (hL0_0_5:l0_0_5.length≤c0_0_5) (hR0_2:RdL w0 A0_2 l0_2) (hL0_2:l0_2.length≤c0_2) (b1 b2 b3:Nat) (hc3:0≤x0_0_0) (e1:Int) (hx4:([0,0,0,0,0,0,0,1]:List Int)[(x0_0_0).toNat]?=some e1) (b4:Nat) (e2:Int) (hx6:([0,7,3,0,1000,1000,3,1000]:List Int)[(x0_0_0).toNat]?=some e2) (q2 q4 q6:Bool) (hc28:¬ (q6=true)) (hc33:x0_0_0=6) (s:Nat) (o:Nat ⊕ (Unit ⊕ Int)) (h:punctualref_wrongStatement.r11 x0_0_1 l0_2 s=some o) (a:Act) (w:World) (hA:punctualref_wrongStatement.A11 w0 x0_0_0 x0_0_1 x0_0_2_0 x0_0_2_1 l0_0_2_2 A0_0_2_2 c0_0_2_2 x0_0_3_0 x0_0_3_1_0 x0_0_3_1_1 l0_0_3_1_2 A0_0_3_1_2 c0_0_3_1_2 x0_0_3_2_0 x0_0_3_2_1 l0_0_3_2_2 A0_0_3_2_2 c0_0_3_2_2 l0_0_4 A0_0_4 c0_0_4 l0_0_5 A0_0_5 c0_0_5 l0_2 A0_2 c0_2 b2 s a w) (Q:Exit→Act→World→Prop) (hQ:∀ x a w,Outs (punctualref_wrongStatement.A11 w0 x0_0_0 x0_0_1 x0_0_2_0 x0_0_2_1 l0_0_2_2 A0_0_2_2 c0_0_2_2 x0_0_3_0 x0_0_3_1_0 x0_0_3_1_1 l0_0_3_1_2 A0_0_3_1_2 c0_0_3_1_2 x0_0_3_2_0 x0_0_3_2_1 l0_0_3_2_2 A0_0_3_2_2 c0_0_3_2_2 l0_0_4 A0_0_4 c0_0_4 l0_0_5 A0_0_5 c0_0_5 l0_2 A0_2 c0_2 b2) (punctualref_wrongStatement.B11 w0) o x a w→Q x a w):(subF Try.f55 [1,1,1,1,1,1,1,1,1,1,1,1,1,1,1,0,1,0,1,0,0]).wp Try.prog Q a w:=by
 obtain ⟨i2,hs⟩:∃ z,z=s:=⟨s,rfl⟩
 subst hs
 obtain ⟨hS,hF⟩:=hA
 replace hS:St w0 w [bk b2 #[vI x0_0_0,vI x0_0_1,vI x0_0_2_0,vI x0_0_2_1,.slice A0_0_2_2 l0_0_2_2.length c0_0_2_2,vI x0_0_3_0,vI x0_0_3_1_0,vI x0_0_3_1_1,.slice A0_0_3_1_2 l0_0_3_1_2.length c0_0_3_1_2,vI x0_0_3_2_0,vI x0_0_3_2_1,.slice A0_0_3_2_2 l0_0_3_2_2.length c0_0_3_2_2,.slice A0_0_4 l0_0_4.length c0_0_4,.slice A0_0_5 l0_0_5.length c0_0_5] 49]:=hS
 simp only [punctualref_wrongStatement.r11] at h
 refine (?_:WE Try.prog 170 (subF Try.f55 [1,1,1,1,1,1,1,1,1,1,1,1,1,1,1,0,1,0,1,0,0]) Q [(3,pP b2 0),(159,.slice A0_2 l0_2.length c0_2),(160,vI (l0_2.length:Int)),(161,vI (i2:Int))] w) a hF
 clear hF a
 refine ws fun K64 hK64=>wr [(0,0)]<|gb0 [0] [(162,.bool (decide ((i2:Int)<(l0_2.length:Int))))]<|gn hK64<|ws fun K65 hK65=>?_
 by_cases hc34:(i2:Int)<(l0_2.length:Int)
 ·rw [if_pos hc34] at h
  refine wk 162 (decide ((i2:Int)<(l0_2.length:Int))) true (decide_eq_true hc34)<|wt<|we_skip fun a hF=>hK65 _ _ ?_ a hF
  refine ws fun K66 hK66=>we_block<|ws fun K67 hK67=>wr [(0,0),(1,0),(2,0)] ?_
  rcases hx8:l0_2[i2]? with _ | e4
  ·rw [hx8] at h; cases h
  rw [hx8] at h
  simp only [] at h
  refine gi 163 0 24 3 1 l0_2.length c0_2 (.tmp 159) (.tmp 161) A0_2 .i64 (i2:Int) i2 ((hS.rd hR0_2).eqSome (pos_of_get hx8)) rfl (lt_of_get hx8) ?_
  refine gb [1,2] [(13,vI e4),(164,vI e4)] [.loaded ⟨blkOf A0_2,offOf A0_2+i2*1,none⟩ (vI e4)] ⟨RdL.cell (j:=0) (hS.rd hR0_2) hx8 rfl,trivial⟩<|gn hK67<|ws fun K68 hK68=>wr [(0,0),(1,0),(2,0),(3,0)]<|gb [0,1,2,3] [(168,.bool (e4==x0_0_1)),(167,vI x0_0_1),(166,pP b2 1),(165,vI e4)] [ld b2 1 (vI x0_0_1)] ⟨hS.c 0,trivial⟩<|gn hK68 ?_
  by_cases hc35:e4=x0_0_1
  ·rw [if_pos hc35] at h
   refine wk 168 (e4==x0_0_1) true (beq_iff_eq.2 hc35)<|wt<|ws fun K69 hK69=>wr [(0,0)]<|gb0 [0] [(2,vI 10)]<|gn hK69 ?_
   have hS93:=hS.takeN 0
   obtain rfl:=si h
   exact we_ret fun a hF=>hQ _ _ _ (Outs.out nofun (Exits.on ⟨rfl,(pr0 [.tmp 2] [vI 10] ⟨rfl,hS93⟩) a hF⟩))
  rw [if_neg hc35] at h
  refine wk 168 (e4==x0_0_1) false (beq_eq_false_iff_ne.2 hc35)<|wf<|we_skip fun a hF=>hK66 _ _ ?_ a hF
  refine wr [(0,0),(1,0)]<|ge_addn (d:=169) (ty:=3) (x:=(.tmp 161)) (y:=(.const (vI 1))) (t:=3) (t2:=3) (k:=.i64) (m:=i2) (by kernel_rfl) (by kernel_rfl) (by kernel_rfl) (by have h0:=hR0_2.small; omega) ?_
  refine gb0 [1] [(161,vI ((i2+1:Nat):Int))] ?_
  obtain rfl:=si h
  exact ge_nil fun a hF=>hQ _ _ _ (Outs.again ⟨hS,hF.weaken ea⟩)
 rw [if_neg hc34] at h
 refine wk 162 (decide ((i2:Int)<(l0_2.length:Int))) false (decide_eq_false hc34)<|wf ?_
 have hS94:=hS.takeN 0
 obtain rfl:=si h
 exact we_exit fun a hF=>hQ _ _ _ (Outs.out nofun (Exits.here ⟨hS94,hF.weaken trivial⟩))
theorem punctualref_wrongStatement_ok (K:Nat) (Z:Zone) (x0_0_0 x0_0_1 x0_0_2_0 x0_0_2_1:Int) (l0_0_2_2:List SExpr) (A0_0_2_2:OA) (c0_0_2_2:Nat) (x0_0_3_0 x0_0_3_1_0 x0_0_3_1_1:Int) (l0_0_3_1_2:List SExpr) (A0_0_3_1_2:OA) (c0_0_3_1_2:Nat) (x0_0_3_2_0 x0_0_3_2_1:Int) (l0_0_3_2_2:List SExpr) (A0_0_3_2_2:OA) (c0_0_3_2_2:Nat) (l0_0_4:List SStmt) (A0_0_4:OA) (c0_0_4:Nat) (l0_0_5:List SStmt) (A0_0_5:OA) (c0_0_5:Nat) (x0_1:Int) (l0_2:List Int) (A0_2:OA) (c0_2:Nat) (w0:World) (hZ:∀ w,Sub w0 w→Z w) (hR0_0_2_2:RdZ Z A0_0_2_2 l0_0_2_2) (hL0_0_2_2:l0_0_2_2.length≤c0_0_2_2) (hR0_0_3_1_2:RdZ Z A0_0_3_1_2 l0_0_3_1_2) (hL0_0_3_1_2:l0_0_3_1_2.length≤c0_0_3_1_2) (hR0_0_3_2_2:RdZ Z A0_0_3_2_2 l0_0_3_2_2) (hL0_0_3_2_2:l0_0_3_2_2.length≤c0_0_3_2_2) (hR0_0_4:RdZ Z A0_0_4 l0_0_4) (hL0_0_4:l0_0_4.length≤c0_0_4) (hR0_0_5:RdZ Z A0_0_5 l0_0_5) (hL0_0_5:l0_0_5.length≤c0_0_5) (hR0_2:RdL w0 A0_2 l0_2) (hL0_2:l0_2.length≤c0_2) (r:Int) (h:punctualref_wrongStatement.f K x0_0_0 x0_0_1 x0_0_2_0 x0_0_2_1 l0_0_2_2 x0_0_3_0 x0_0_3_1_0 x0_0_3_1_1 l0_0_3_1_2 x0_0_3_2_0 x0_0_3_2_1 l0_0_3_2_2 l0_0_4 l0_0_5 x0_1 l0_2=some r) :
  Calls Try.prog 55 #[.agg #[vI x0_0_0,vI x0_0_1,vI x0_0_2_0,vI x0_0_2_1,.slice A0_0_2_2 l0_0_2_2.length c0_0_2_2,vI x0_0_3_0,vI x0_0_3_1_0,vI x0_0_3_1_1,.slice A0_0_3_1_2 l0_0_3_1_2.length c0_0_3_1_2,vI x0_0_3_2_0,vI x0_0_3_2_1,.slice A0_0_3_2_2 l0_0_3_2_2.length c0_0_3_2_2,.slice A0_0_4 l0_0_4.length c0_0_4,.slice A0_0_5 l0_0_5.length c0_0_5,vI x0_1,.slice A0_2 l0_2.length c0_2]] w0 (punctualref_wrongStatement.Post w0 r):=by
 have hS:=St.start w0
 unfold punctualref_wrongStatement.f at h
 refine calls_enter (n:=170) (args:=[.agg #[vI x0_0_0,vI x0_0_1,vI x0_0_2_0,vI x0_0_2_1,.slice A0_0_2_2 l0_0_2_2.length c0_0_2_2,vI x0_0_3_0,vI x0_0_3_1_0,vI x0_0_3_1_1,.slice A0_0_3_1_2 l0_0_3_1_2.length c0_0_3_1_2,vI x0_0_3_2_0,vI x0_0_3_2_1,.slice A0_0_3_2_2 l0_0_3_2_2.length c0_0_3_2_2,.slice A0_0_4 l0_0_4.length c0_0_4,.slice A0_0_5 l0_0_5.length c0_0_5,vI x0_1,.slice A0_2 l0_2.length c0_2]]) (fn:=Try.f55) rfl rfl rfl rfl ?_
 show WE _ _ _ _ [(0,.agg #[vI x0_0_0,vI x0_0_1,vI x0_0_2_0,vI x0_0_2_1,.slice A0_0_2_2 l0_0_2_2.length c0_0_2_2,vI x0_0_3_0,vI x0_0_3_1_0,vI x0_0_3_1_1,.slice A0_0_3_1_2 l0_0_3_1_2.length c0_0_3_1_2,vI x0_0_3_2_0,vI x0_0_3_2_1,.slice A0_0_3_2_2 l0_0_3_2_2.length c0_0_3_2_2,.slice A0_0_4 l0_0_4.length c0_0_4,.slice A0_0_5 l0_0_5.length c0_0_5,vI x0_1,.slice A0_2 l0_2.length c0_2])] _
 refine ws fun K1 hK1=>wr [(0,1),(1,0)]<|gw (some 1) (.cells #[vI x0_0_0,vI x0_0_1,vI x0_0_2_0,vI x0_0_2_1,.slice A0_0_2_2 l0_0_2_2.length c0_0_2_2,vI x0_0_3_0,vI x0_0_3_1_0,vI x0_0_3_1_1,.slice A0_0_3_1_2 l0_0_3_1_2.length c0_0_3_1_2,vI x0_0_3_2_0,vI x0_0_3_2_1,.slice A0_0_3_2_2 l0_0_3_2_2.length c0_0_3_2_2,.slice A0_0_4 l0_0_4.length c0_0_4,.slice A0_0_5 l0_0_5.length c0_0_5,vI x0_1,.slice A0_2 l0_2.length c0_2] 99) (fun b=>pP b 0) hS fun b1 w1 hx1 hS1=>?_
 refine gb0 [1] [(2,vI 0)]<|gn hK1<|ws fun K2 hK2=>wr [(0,0),(1,0),(2,1),(3,2)]<|gb [0,1] [(15,.agg #[vI x0_0_0,vI x0_0_1,vI x0_0_2_0,vI x0_0_2_1,.slice A0_0_2_2 l0_0_2_2.length c0_0_2_2,vI x0_0_3_0,vI x0_0_3_1_0,vI x0_0_3_1_1,.slice A0_0_3_1_2 l0_0_3_1_2.length c0_0_3_1_2,vI x0_0_3_2_0,vI x0_0_3_2_1,.slice A0_0_3_2_2 l0_0_3_2_2.length c0_0_3_2_2,.slice A0_0_4 l0_0_4.length c0_0_4,.slice A0_0_5 l0_0_5.length c0_0_5]),(14,pP b1 0)] [ld b1 0 (vI x0_0_0),ld b1 1 (vI x0_0_1),ld b1 2 (vI x0_0_2_0),ld b1 3 (vI x0_0_2_1),ld b1 4 (.slice A0_0_2_2 l0_0_2_2.length c0_0_2_2),ld b1 5 (vI x0_0_3_0),ld b1 6 (vI x0_0_3_1_0),ld b1 7 (vI x0_0_3_1_1),ld b1 8 (.slice A0_0_3_1_2 l0_0_3_1_2.length c0_0_3_1_2),ld b1 9 (vI x0_0_3_2_0),ld b1 10 (vI x0_0_3_2_1),ld b1 11 (.slice A0_0_3_2_2 l0_0_3_2_2.length c0_0_3_2_2),ld b1 12 (.slice A0_0_4 l0_0_4.length c0_0_4),ld b1 13 (.slice A0_0_5 l0_0_5.length c0_0_5)] ⟨hS1.c 0,hS1.c 0,hS1.c 0,hS1.c 0,hS1.c 0,hS1.c 0,hS1.c 0,hS1.c 0,hS1.c 0,hS1.c 0,hS1.c 0,hS1.c 0,hS1.c 0,hS1.c 0,trivial⟩<|gw (some 3) (.cells #[vI 0,vI 0,vI 0,vI 0,.slice none 0 0,vI 0,vI 0,vI 0,.slice none 0 0,vI 0,vI 0,.slice none 0 0,.slice none 0 0,.slice none 0 0] 49) (fun b=>pP b 0) hS1 fun b2 w2 hx2 hS2=>?_
 refine gs b2 0 #[vI 0,vI 0,vI 0,vI 0,.slice none 0 0,vI 0,vI 0,vI 0,.slice none 0 0,vI 0,vI 0,.slice none 0 0,.slice none 0 0,.slice none 0 0] 49 [vI x0_0_0,vI x0_0_1,vI x0_0_2_0,vI x0_0_2_1,.slice A0_0_2_2 l0_0_2_2.length c0_0_2_2,vI x0_0_3_0,vI x0_0_3_1_0,vI x0_0_3_1_1,.slice A0_0_3_1_2 l0_0_3_1_2.length c0_0_3_1_2,vI x0_0_3_2_0,vI x0_0_3_2_1,.slice A0_0_3_2_2 l0_0_3_2_2.length c0_0_3_2_2,.slice A0_0_4 l0_0_4.length c0_0_4,.slice A0_0_5 l0_0_5.length c0_0_5] hS2 fun w3 hS3=>?_
 have hS4:=hS3.nc #[vI x0_0_0,vI x0_0_1,vI x0_0_2_0,vI x0_0_2_1,.slice A0_0_2_2 l0_0_2_2.length c0_0_2_2,vI x0_0_3_0,vI x0_0_3_1_0,vI x0_0_3_1_1,.slice A0_0_3_1_2 l0_0_3_1_2.length c0_0_3_1_2,vI x0_0_3_2_0,vI x0_0_3_2_1,.slice A0_0_3_2_2 l0_0_3_2_2.length c0_0_3_2_2,.slice A0_0_4 l0_0_4.length c0_0_4,.slice A0_0_5 l0_0_5.length c0_0_5] (by kernel_rfl)
 refine gn hK2<|ws fun K3 hK3=>?_
 rcases hq1:punctualref_wrongStatement.p0 x0_0_0 with _ | (_ | rr12)
 ·rw [hq1] at h; cases h
 ·rw [hq1] at h
  simp only [] at h
  refine kp (punctualref_wrongStatement_p0 K w0 Z x0_0_0 x0_0_1 x0_0_2_0 x0_0_2_1 l0_0_2_2 A0_0_2_2 c0_0_2_2 x0_0_3_0 x0_0_3_1_0 x0_0_3_1_1 l0_0_3_1_2 A0_0_3_1_2 c0_0_3_1_2 x0_0_3_2_0 x0_0_3_2_1 l0_0_3_2_2 A0_0_3_2_2 c0_0_3_2_2 l0_0_4 A0_0_4 c0_0_4 l0_0_5 A0_0_5 c0_0_5 x0_1 l0_2 A0_2 c0_2 hZ hR0_0_2_2 hL0_0_2_2 hR0_0_3_1_2 hL0_0_3_1_2 hR0_0_3_2_2 hL0_0_3_2_2 hR0_0_4 hL0_0_4 hR0_0_5 hL0_0_5 hR0_2 hL0_2 b1 b2 _ hq1 _ hS4 _ ?_)
  rintro _ a w4 ⟨rfl,hS9,hF⟩
  replace hS9:St w0 w4 [bk b2 #[vI x0_0_0,vI x0_0_1,vI x0_0_2_0,vI x0_0_2_1,.slice A0_0_2_2 l0_0_2_2.length c0_0_2_2,vI x0_0_3_0,vI x0_0_3_1_0,vI x0_0_3_1_1,.slice A0_0_3_1_2 l0_0_3_1_2.length c0_0_3_1_2,vI x0_0_3_2_0,vI x0_0_3_2_1,.slice A0_0_3_2_2 l0_0_3_2_2.length c0_0_3_2_2,.slice A0_0_4 l0_0_4.length c0_0_4,.slice A0_0_5 l0_0_5.length c0_0_5] 49,bk b1 #[vI x0_0_0,vI x0_0_1,vI x0_0_2_0,vI x0_0_2_1,.slice A0_0_2_2 l0_0_2_2.length c0_0_2_2,vI x0_0_3_0,vI x0_0_3_1_0,vI x0_0_3_1_1,.slice A0_0_3_1_2 l0_0_3_1_2.length c0_0_3_1_2,vI x0_0_3_2_0,vI x0_0_3_2_1,.slice A0_0_3_2_2 l0_0_3_2_2.length c0_0_3_2_2,.slice A0_0_4 l0_0_4.length c0_0_4,.slice A0_0_5 l0_0_5.length c0_0_5,vI x0_1,.slice A0_2 l0_2.length c0_2] 99]:=hS9
  refine hK3 [(1,pP b1 0),(3,pP b2 0)] w4 ?_ a hF
  refine ws fun K7 hK7=>wr [(0,1),(1,0),(2,0),(3,0),(4,0),(5,0)]<|gw (some 24) (.cells #[vI 0,vI 0,vI 0,vI 0,vI 0,vI 0,vI 0,vI 1] 3) (fun b=>.slice (some ⟨b,0,none⟩) 8 8) hS9 fun b3 w5 hx3 hS10=>?_
  refine gb [1,2] [(26,vI x0_0_0),(25,pP b2 0)] [ld b2 0 (vI x0_0_0)] ⟨hS10.c 1,trivial⟩ ?_
  by_cases hc3:0≤x0_0_0
  ·rw [if_pos hc3] at h
   rcases hx4:([0,0,0,0,0,0,0,1]:List Int)[(x0_0_0).toNat]? with _ | e1
   ·rw [hx4] at h; cases h
   rw [hx4] at h
   simp only [] at h
   refine gi 27 0 24 3 1 8 8 (.tmp 24) (.tmp 26) (some ⟨b3,0,none⟩) .i64 x0_0_0 ((x0_0_0).toNat) ((hS10.rdBlk 0 ([0,0,0,0,0,0,0,1]:List Int) rfl rfl rfl).eqSome (pos_of_get hx4)) (Int.toNat_of_nonneg hc3).symm (lt_of_get hx4) ?_
   refine gb [4,5] [(4,vI e1),(28,vI e1)] [.loaded ⟨blkOf (some ⟨b3,0,none⟩),offOf (some ⟨b3,0,none⟩)+((x0_0_0).toNat)*1,none⟩ (vI e1)] ⟨RdL.cell (j:=0) (hS10.rdBlk 0 ([0,0,0,0,0,0,0,1]:List Int) rfl rfl rfl) hx4 rfl,trivial⟩<|gn hK7<|ws fun K8 hK8=>wr [(0,1),(1,0),(2,0),(3,0),(4,0),(5,0)]<|gw (some 29) (.cells #[vI 0,vI 7,vI 3,vI 0,vI 1000,vI 1000,vI 3,vI 1000] 3) (fun b=>.slice (some ⟨b,0,none⟩) 8 8) hS10 fun b4 w6 hx5 hS11=>?_
   refine gb [1,2] [(31,vI x0_0_0),(30,pP b2 0)] [ld b2 0 (vI x0_0_0)] ⟨hS11.c 2,trivial⟩ ?_
   rcases hx6:([0,7,3,0,1000,1000,3,1000]:List Int)[(x0_0_0).toNat]? with _ | e2
   ·rw [hx6] at h; cases h
   rw [hx6] at h
   simp only [] at h
   refine gi 32 0 24 3 1 8 8 (.tmp 29) (.tmp 31) (some ⟨b4,0,none⟩) .i64 x0_0_0 ((x0_0_0).toNat) ((hS11.rdBlk 0 ([0,7,3,0,1000,1000,3,1000]:List Int) rfl rfl rfl).eqSome (pos_of_get hx6)) (Int.toNat_of_nonneg hc3).symm (lt_of_get hx6) ?_
   refine gb [4,5] [(5,vI e2),(33,vI e2)] [.loaded ⟨blkOf (some ⟨b4,0,none⟩),offOf (some ⟨b4,0,none⟩)+((x0_0_0).toNat)*1,none⟩ (vI e2)] ⟨RdL.cell (j:=0) (hS11.rdBlk 0 ([0,7,3,0,1000,1000,3,1000]:List Int) rfl rfl rfl) hx6 rfl,trivial⟩<|gn hK8<|ws fun K9 hK9=>?_
   rcases hq2:punctualref_wrongStatement.p1 x0_0_1 e1 e2 with _ | (_ | rr11)
   ·rw [hq2] at h; cases h
   ·rw [hq2] at h
    simp only [] at h
    refine kp (punctualref_wrongStatement_p1 K w0 Z x0_0_0 x0_0_1 x0_0_2_0 x0_0_2_1 l0_0_2_2 A0_0_2_2 c0_0_2_2 x0_0_3_0 x0_0_3_1_0 x0_0_3_1_1 l0_0_3_1_2 A0_0_3_1_2 c0_0_3_1_2 x0_0_3_2_0 x0_0_3_2_1 l0_0_3_2_2 A0_0_3_2_2 c0_0_3_2_2 l0_0_4 A0_0_4 c0_0_4 l0_0_5 A0_0_5 c0_0_5 x0_1 l0_2 A0_2 c0_2 hZ hR0_0_2_2 hL0_0_2_2 hR0_0_3_1_2 hL0_0_3_1_2 hR0_0_3_2_2 hL0_0_3_2_2 hR0_0_4 hL0_0_4 hR0_0_5 hL0_0_5 hR0_2 hL0_2 b1 b2 b3 hc3 e1 hx4 b4 e2 hx6 _ hq2 _ hS11 _ ?_)
    rintro _ a w7 ⟨rfl,hS17,hF⟩
    replace hS17:St w0 w7 [bk b2 #[vI x0_0_0,vI x0_0_1,vI x0_0_2_0,vI x0_0_2_1,.slice A0_0_2_2 l0_0_2_2.length c0_0_2_2,vI x0_0_3_0,vI x0_0_3_1_0,vI x0_0_3_1_1,.slice A0_0_3_1_2 l0_0_3_1_2.length c0_0_3_1_2,vI x0_0_3_2_0,vI x0_0_3_2_1,.slice A0_0_3_2_2 l0_0_3_2_2.length c0_0_3_2_2,.slice A0_0_4 l0_0_4.length c0_0_4,.slice A0_0_5 l0_0_5.length c0_0_5] 49,bk b1 #[vI x0_0_0,vI x0_0_1,vI x0_0_2_0,vI x0_0_2_1,.slice A0_0_2_2 l0_0_2_2.length c0_0_2_2,vI x0_0_3_0,vI x0_0_3_1_0,vI x0_0_3_1_1,.slice A0_0_3_1_2 l0_0_3_1_2.length c0_0_3_1_2,vI x0_0_3_2_0,vI x0_0_3_2_1,.slice A0_0_3_2_2 l0_0_3_2_2.length c0_0_3_2_2,.slice A0_0_4 l0_0_4.length c0_0_4,.slice A0_0_5 l0_0_5.length c0_0_5,vI x0_1,.slice A0_2 l0_2.length c0_2] 99]:=hS17
    refine hK9 [(1,pP b1 0),(3,pP b2 0)] w7 ?_ a hF
    refine ws fun K13 hK13=>?_
    rcases hq3:punctualref_wrongStatement.p2 x0_0_0 with _ | (q2 | rr10)
    ·rw [hq3] at h; cases h
    ·rw [hq3] at h
     simp only [] at h
     refine kp (punctualref_wrongStatement_p2 K w0 Z x0_0_0 x0_0_1 x0_0_2_0 x0_0_2_1 l0_0_2_2 A0_0_2_2 c0_0_2_2 x0_0_3_0 x0_0_3_1_0 x0_0_3_1_1 l0_0_3_1_2 A0_0_3_1_2 c0_0_3_1_2 x0_0_3_2_0 x0_0_3_2_1 l0_0_3_2_2 A0_0_3_2_2 c0_0_3_2_2 l0_0_4 A0_0_4 c0_0_4 l0_0_5 A0_0_5 c0_0_5 x0_1 l0_2 A0_2 c0_2 hZ hR0_0_2_2 hL0_0_2_2 hR0_0_3_1_2 hL0_0_3_1_2 hR0_0_3_2_2 hL0_0_3_2_2 hR0_0_4 hL0_0_4 hR0_0_5 hL0_0_5 hR0_2 hL0_2 b1 b2 b3 hc3 e1 hx4 b4 e2 hx6 _ hq3 _ hS17 _ ?_)
     rintro _ a w8 ⟨rfl,hS22,hF⟩
     replace hS22:St w0 w8 [bk b2 #[vI x0_0_0,vI x0_0_1,vI x0_0_2_0,vI x0_0_2_1,.slice A0_0_2_2 l0_0_2_2.length c0_0_2_2,vI x0_0_3_0,vI x0_0_3_1_0,vI x0_0_3_1_1,.slice A0_0_3_1_2 l0_0_3_1_2.length c0_0_3_1_2,vI x0_0_3_2_0,vI x0_0_3_2_1,.slice A0_0_3_2_2 l0_0_3_2_2.length c0_0_3_2_2,.slice A0_0_4 l0_0_4.length c0_0_4,.slice A0_0_5 l0_0_5.length c0_0_5] 49,bk b1 #[vI x0_0_0,vI x0_0_1,vI x0_0_2_0,vI x0_0_2_1,.slice A0_0_2_2 l0_0_2_2.length c0_0_2_2,vI x0_0_3_0,vI x0_0_3_1_0,vI x0_0_3_1_1,.slice A0_0_3_1_2 l0_0_3_1_2.length c0_0_3_1_2,vI x0_0_3_2_0,vI x0_0_3_2_1,.slice A0_0_3_2_2 l0_0_3_2_2.length c0_0_3_2_2,.slice A0_0_4 l0_0_4.length c0_0_4,.slice A0_0_5 l0_0_5.length c0_0_5,vI x0_1,.slice A0_2 l0_2.length c0_2] 99]:=hS22
     refine hK13 [(1,pP b1 0),(3,pP b2 0),(6,.bool q2)] w8 ?_ a hF
     refine ws fun K14 hK14=>?_
     rcases hq4:punctualref_wrongStatement.p3 x0_0_0 with _ | (q4 | rr9)
     ·rw [hq4] at h; cases h
     ·rw [hq4] at h
      simp only [] at h
      refine kp (punctualref_wrongStatement_p3 K w0 Z x0_0_0 x0_0_1 x0_0_2_0 x0_0_2_1 l0_0_2_2 A0_0_2_2 c0_0_2_2 x0_0_3_0 x0_0_3_1_0 x0_0_3_1_1 l0_0_3_1_2 A0_0_3_1_2 c0_0_3_1_2 x0_0_3_2_0 x0_0_3_2_1 l0_0_3_2_2 A0_0_3_2_2 c0_0_3_2_2 l0_0_4 A0_0_4 c0_0_4 l0_0_5 A0_0_5 c0_0_5 x0_1 l0_2 A0_2 c0_2 hZ hR0_0_2_2 hL0_0_2_2 hR0_0_3_1_2 hL0_0_3_1_2 hR0_0_3_2_2 hL0_0_3_2_2 hR0_0_4 hL0_0_4 hR0_0_5 hL0_0_5 hR0_2 hL0_2 b1 b2 b3 hc3 e1 hx4 b4 e2 hx6 q2 _ hq4 _ hS22 _ ?_)
      rintro _ a w9 ⟨rfl,hS27,hF⟩
      replace hS27:St w0 w9 [bk b2 #[vI x0_0_0,vI x0_0_1,vI x0_0_2_0,vI x0_0_2_1,.slice A0_0_2_2 l0_0_2_2.length c0_0_2_2,vI x0_0_3_0,vI x0_0_3_1_0,vI x0_0_3_1_1,.slice A0_0_3_1_2 l0_0_3_1_2.length c0_0_3_1_2,vI x0_0_3_2_0,vI x0_0_3_2_1,.slice A0_0_3_2_2 l0_0_3_2_2.length c0_0_3_2_2,.slice A0_0_4 l0_0_4.length c0_0_4,.slice A0_0_5 l0_0_5.length c0_0_5] 49,bk b1 #[vI x0_0_0,vI x0_0_1,vI x0_0_2_0,vI x0_0_2_1,.slice A0_0_2_2 l0_0_2_2.length c0_0_2_2,vI x0_0_3_0,vI x0_0_3_1_0,vI x0_0_3_1_1,.slice A0_0_3_1_2 l0_0_3_1_2.length c0_0_3_1_2,vI x0_0_3_2_0,vI x0_0_3_2_1,.slice A0_0_3_2_2 l0_0_3_2_2.length c0_0_3_2_2,.slice A0_0_4 l0_0_4.length c0_0_4,.slice A0_0_5 l0_0_5.length c0_0_5,vI x0_1,.slice A0_2 l0_2.length c0_2] 99]:=hS27
      refine hK14 [(1,pP b1 0),(3,pP b2 0),(6,.bool q2),(7,.bool q4)] w9 ?_ a hF
      refine ws fun K15 hK15=>?_
      rcases hq5:punctualref_wrongStatement.p4 x0_0_0 with _ | (q6 | rr8)
      ·rw [hq5] at h; cases h
      ·rw [hq5] at h
       simp only [] at h
       refine kp (punctualref_wrongStatement_p4 K w0 Z x0_0_0 x0_0_1 x0_0_2_0 x0_0_2_1 l0_0_2_2 A0_0_2_2 c0_0_2_2 x0_0_3_0 x0_0_3_1_0 x0_0_3_1_1 l0_0_3_1_2 A0_0_3_1_2 c0_0_3_1_2 x0_0_3_2_0 x0_0_3_2_1 l0_0_3_2_2 A0_0_3_2_2 c0_0_3_2_2 l0_0_4 A0_0_4 c0_0_4 l0_0_5 A0_0_5 c0_0_5 x0_1 l0_2 A0_2 c0_2 hZ hR0_0_2_2 hL0_0_2_2 hR0_0_3_1_2 hL0_0_3_1_2 hR0_0_3_2_2 hL0_0_3_2_2 hR0_0_4 hL0_0_4 hR0_0_5 hL0_0_5 hR0_2 hL0_2 b1 b2 b3 hc3 e1 hx4 b4 e2 hx6 q2 q4 _ hq5 _ hS27 _ ?_)
       rintro _ a w10 ⟨rfl,hS32,hF⟩
       replace hS32:St w0 w10 [bk b2 #[vI x0_0_0,vI x0_0_1,vI x0_0_2_0,vI x0_0_2_1,.slice A0_0_2_2 l0_0_2_2.length c0_0_2_2,vI x0_0_3_0,vI x0_0_3_1_0,vI x0_0_3_1_1,.slice A0_0_3_1_2 l0_0_3_1_2.length c0_0_3_1_2,vI x0_0_3_2_0,vI x0_0_3_2_1,.slice A0_0_3_2_2 l0_0_3_2_2.length c0_0_3_2_2,.slice A0_0_4 l0_0_4.length c0_0_4,.slice A0_0_5 l0_0_5.length c0_0_5] 49,bk b1 #[vI x0_0_0,vI x0_0_1,vI x0_0_2_0,vI x0_0_2_1,.slice A0_0_2_2 l0_0_2_2.length c0_0_2_2,vI x0_0_3_0,vI x0_0_3_1_0,vI x0_0_3_1_1,.slice A0_0_3_1_2 l0_0_3_1_2.length c0_0_3_1_2,vI x0_0_3_2_0,vI x0_0_3_2_1,.slice A0_0_3_2_2 l0_0_3_2_2.length c0_0_3_2_2,.slice A0_0_4 l0_0_4.length c0_0_4,.slice A0_0_5 l0_0_5.length c0_0_5,vI x0_1,.slice A0_2 l0_2.length c0_2] 99]:=hS32
       refine hK15 [(1,pP b1 0),(3,pP b2 0),(6,.bool q2),(7,.bool q4),(8,.bool q6)] w10 ?_ a hF
       refine ws fun K16 hK16=>?_
       rcases hq7:punctualref_wrongStatement.p5 x0_0_2_0 x0_0_2_1 l0_0_2_2 q2 with _ | (_ | rr7)
       ·rw [hq7] at h; cases h
       ·rw [hq7] at h
        simp only [] at h
        refine kp (punctualref_wrongStatement_p5 K w0 Z x0_0_0 x0_0_1 x0_0_2_0 x0_0_2_1 l0_0_2_2 A0_0_2_2 c0_0_2_2 x0_0_3_0 x0_0_3_1_0 x0_0_3_1_1 l0_0_3_1_2 A0_0_3_1_2 c0_0_3_1_2 x0_0_3_2_0 x0_0_3_2_1 l0_0_3_2_2 A0_0_3_2_2 c0_0_3_2_2 l0_0_4 A0_0_4 c0_0_4 l0_0_5 A0_0_5 c0_0_5 x0_1 l0_2 A0_2 c0_2 hZ hR0_0_2_2 hL0_0_2_2 hR0_0_3_1_2 hL0_0_3_1_2 hR0_0_3_2_2 hL0_0_3_2_2 hR0_0_4 hL0_0_4 hR0_0_5 hL0_0_5 hR0_2 hL0_2 b1 b2 b3 hc3 e1 hx4 b4 e2 hx6 q2 q4 q6 _ hq7 _ hS32 _ ?_)
        rintro _ a w12 ⟨rfl,hS40,hF⟩
        replace hS40:St w0 w12 [bk b2 #[vI x0_0_0,vI x0_0_1,vI x0_0_2_0,vI x0_0_2_1,.slice A0_0_2_2 l0_0_2_2.length c0_0_2_2,vI x0_0_3_0,vI x0_0_3_1_0,vI x0_0_3_1_1,.slice A0_0_3_1_2 l0_0_3_1_2.length c0_0_3_1_2,vI x0_0_3_2_0,vI x0_0_3_2_1,.slice A0_0_3_2_2 l0_0_3_2_2.length c0_0_3_2_2,.slice A0_0_4 l0_0_4.length c0_0_4,.slice A0_0_5 l0_0_5.length c0_0_5] 49,bk b1 #[vI x0_0_0,vI x0_0_1,vI x0_0_2_0,vI x0_0_2_1,.slice A0_0_2_2 l0_0_2_2.length c0_0_2_2,vI x0_0_3_0,vI x0_0_3_1_0,vI x0_0_3_1_1,.slice A0_0_3_1_2 l0_0_3_1_2.length c0_0_3_1_2,vI x0_0_3_2_0,vI x0_0_3_2_1,.slice A0_0_3_2_2 l0_0_3_2_2.length c0_0_3_2_2,.slice A0_0_4 l0_0_4.length c0_0_4,.slice A0_0_5 l0_0_5.length c0_0_5,vI x0_1,.slice A0_2 l0_2.length c0_2] 99]:=hS40
        refine hK16 [(1,pP b1 0),(3,pP b2 0),(6,.bool q2),(7,.bool q4),(8,.bool q6)] w12 ?_ a hF
        refine ws fun K19 hK19=>?_
        rcases hq10:punctualref_wrongStatement.p6 x0_0_3_0 x0_0_3_1_0 x0_0_3_1_1 l0_0_3_1_2 x0_0_3_2_0 x0_0_3_2_1 l0_0_3_2_2 q4 with _ | (_ | rr6)
        ·rw [hq10] at h; cases h
        ·rw [hq10] at h
         simp only [] at h
         refine kp (punctualref_wrongStatement_p6 K w0 Z x0_0_0 x0_0_1 x0_0_2_0 x0_0_2_1 l0_0_2_2 A0_0_2_2 c0_0_2_2 x0_0_3_0 x0_0_3_1_0 x0_0_3_1_1 l0_0_3_1_2 A0_0_3_1_2 c0_0_3_1_2 x0_0_3_2_0 x0_0_3_2_1 l0_0_3_2_2 A0_0_3_2_2 c0_0_3_2_2 l0_0_4 A0_0_4 c0_0_4 l0_0_5 A0_0_5 c0_0_5 x0_1 l0_2 A0_2 c0_2 hZ hR0_0_2_2 hL0_0_2_2 hR0_0_3_1_2 hL0_0_3_1_2 hR0_0_3_2_2 hL0_0_3_2_2 hR0_0_4 hL0_0_4 hR0_0_5 hL0_0_5 hR0_2 hL0_2 b1 b2 b3 hc3 e1 hx4 b4 e2 hx6 q2 q4 q6 _ hq10 _ hS40 _ ?_)
         rintro _ a w15 ⟨rfl,hS52,hF⟩
         replace hS52:St w0 w15 [bk b2 #[vI x0_0_0,vI x0_0_1,vI x0_0_2_0,vI x0_0_2_1,.slice A0_0_2_2 l0_0_2_2.length c0_0_2_2,vI x0_0_3_0,vI x0_0_3_1_0,vI x0_0_3_1_1,.slice A0_0_3_1_2 l0_0_3_1_2.length c0_0_3_1_2,vI x0_0_3_2_0,vI x0_0_3_2_1,.slice A0_0_3_2_2 l0_0_3_2_2.length c0_0_3_2_2,.slice A0_0_4 l0_0_4.length c0_0_4,.slice A0_0_5 l0_0_5.length c0_0_5] 49,bk b1 #[vI x0_0_0,vI x0_0_1,vI x0_0_2_0,vI x0_0_2_1,.slice A0_0_2_2 l0_0_2_2.length c0_0_2_2,vI x0_0_3_0,vI x0_0_3_1_0,vI x0_0_3_1_1,.slice A0_0_3_1_2 l0_0_3_1_2.length c0_0_3_1_2,vI x0_0_3_2_0,vI x0_0_3_2_1,.slice A0_0_3_2_2 l0_0_3_2_2.length c0_0_3_2_2,.slice A0_0_4 l0_0_4.length c0_0_4,.slice A0_0_5 l0_0_5.length c0_0_5,vI x0_1,.slice A0_2 l0_2.length c0_2] 99]:=hS52
         refine hK19 [(1,pP b1 0),(3,pP b2 0),(6,.bool q2),(7,.bool q4),(8,.bool q6)] w15 ?_ a hF
         refine ws fun K24 hK24=>?_
         rcases hq11:punctualref_wrongStatement.p7 x0_0_0 l0_0_4 l0_0_5 q6 with _ | (_ | rr5)
         ·rw [hq11] at h; cases h
         ·rw [hq11] at h
          simp only [] at h
          refine kp (punctualref_wrongStatement_p7 K w0 Z x0_0_0 x0_0_1 x0_0_2_0 x0_0_2_1 l0_0_2_2 A0_0_2_2 c0_0_2_2 x0_0_3_0 x0_0_3_1_0 x0_0_3_1_1 l0_0_3_1_2 A0_0_3_1_2 c0_0_3_1_2 x0_0_3_2_0 x0_0_3_2_1 l0_0_3_2_2 A0_0_3_2_2 c0_0_3_2_2 l0_0_4 A0_0_4 c0_0_4 l0_0_5 A0_0_5 c0_0_5 x0_1 l0_2 A0_2 c0_2 hZ hR0_0_2_2 hL0_0_2_2 hR0_0_3_1_2 hL0_0_3_1_2 hR0_0_3_2_2 hL0_0_3_2_2 hR0_0_4 hL0_0_4 hR0_0_5 hL0_0_5 hR0_2 hL0_2 b1 b2 b3 hc3 e1 hx4 b4 e2 hx6 q2 q4 q6 _ hq11 _ hS52 _ ?_)
          rintro _ a w16 ⟨rfl,hS64,hF⟩
          replace hS64:St w0 w16 [bk b2 #[vI x0_0_0,vI x0_0_1,vI x0_0_2_0,vI x0_0_2_1,.slice A0_0_2_2 l0_0_2_2.length c0_0_2_2,vI x0_0_3_0,vI x0_0_3_1_0,vI x0_0_3_1_1,.slice A0_0_3_1_2 l0_0_3_1_2.length c0_0_3_1_2,vI x0_0_3_2_0,vI x0_0_3_2_1,.slice A0_0_3_2_2 l0_0_3_2_2.length c0_0_3_2_2,.slice A0_0_4 l0_0_4.length c0_0_4,.slice A0_0_5 l0_0_5.length c0_0_5] 49,bk b1 #[vI x0_0_0,vI x0_0_1,vI x0_0_2_0,vI x0_0_2_1,.slice A0_0_2_2 l0_0_2_2.length c0_0_2_2,vI x0_0_3_0,vI x0_0_3_1_0,vI x0_0_3_1_1,.slice A0_0_3_1_2 l0_0_3_1_2.length c0_0_3_1_2,vI x0_0_3_2_0,vI x0_0_3_2_1,.slice A0_0_3_2_2 l0_0_3_2_2.length c0_0_3_2_2,.slice A0_0_4 l0_0_4.length c0_0_4,.slice A0_0_5 l0_0_5.length c0_0_5,vI x0_1,.slice A0_2 l0_2.length c0_2] 99]:=hS64
          refine hK24 [(1,pP b1 0),(3,pP b2 0),(6,.bool q2),(7,.bool q4),(8,.bool q6)] w16 ?_ a hF
          refine ws fun K29 hK29=>?_
          rcases hq13:punctualref_wrongStatement.p8 K x0_0_2_0 x0_0_2_1 l0_0_2_2 q2 with _ | (_ | rr4)
          ·rw [hq13] at h; cases h
          ·rw [hq13] at h
           simp only [] at h
           refine kp (punctualref_wrongStatement_p8 K w0 Z x0_0_0 x0_0_1 x0_0_2_0 x0_0_2_1 l0_0_2_2 A0_0_2_2 c0_0_2_2 x0_0_3_0 x0_0_3_1_0 x0_0_3_1_1 l0_0_3_1_2 A0_0_3_1_2 c0_0_3_1_2 x0_0_3_2_0 x0_0_3_2_1 l0_0_3_2_2 A0_0_3_2_2 c0_0_3_2_2 l0_0_4 A0_0_4 c0_0_4 l0_0_5 A0_0_5 c0_0_5 x0_1 l0_2 A0_2 c0_2 hZ hR0_0_2_2 hL0_0_2_2 hR0_0_3_1_2 hL0_0_3_1_2 hR0_0_3_2_2 hL0_0_3_2_2 hR0_0_4 hL0_0_4 hR0_0_5 hL0_0_5 hR0_2 hL0_2 b1 b2 b3 hc3 e1 hx4 b4 e2 hx6 q2 q4 q6 _ hq13 _ hS64 _ ?_)
           rintro _ a w18 ⟨rfl,hS72,hF⟩
           replace hS72:St w0 w18 [bk b2 #[vI x0_0_0,vI x0_0_1,vI x0_0_2_0,vI x0_0_2_1,.slice A0_0_2_2 l0_0_2_2.length c0_0_2_2,vI x0_0_3_0,vI x0_0_3_1_0,vI x0_0_3_1_1,.slice A0_0_3_1_2 l0_0_3_1_2.length c0_0_3_1_2,vI x0_0_3_2_0,vI x0_0_3_2_1,.slice A0_0_3_2_2 l0_0_3_2_2.length c0_0_3_2_2,.slice A0_0_4 l0_0_4.length c0_0_4,.slice A0_0_5 l0_0_5.length c0_0_5] 49,bk b1 #[vI x0_0_0,vI x0_0_1,vI x0_0_2_0,vI x0_0_2_1,.slice A0_0_2_2 l0_0_2_2.length c0_0_2_2,vI x0_0_3_0,vI x0_0_3_1_0,vI x0_0_3_1_1,.slice A0_0_3_1_2 l0_0_3_1_2.length c0_0_3_1_2,vI x0_0_3_2_0,vI x0_0_3_2_1,.slice A0_0_3_2_2 l0_0_3_2_2.length c0_0_3_2_2,.slice A0_0_4 l0_0_4.length c0_0_4,.slice A0_0_5 l0_0_5.length c0_0_5,vI x0_1,.slice A0_2 l0_2.length c0_2] 99]:=hS72
           refine hK29 [(1,pP b1 0),(3,pP b2 0),(7,.bool q4),(8,.bool q6)] w18 ?_ a hF
           refine ws fun K34 hK34=>?_
           rcases hq16:punctualref_wrongStatement.p9 K x0_0_3_0 x0_0_3_1_0 x0_0_3_1_1 l0_0_3_1_2 x0_0_3_2_0 x0_0_3_2_1 l0_0_3_2_2 q4 with _ | (_ | rr3)
           ·rw [hq16] at h; cases h
           ·rw [hq16] at h
            simp only [] at h
            refine kp (punctualref_wrongStatement_p9 K w0 Z x0_0_0 x0_0_1 x0_0_2_0 x0_0_2_1 l0_0_2_2 A0_0_2_2 c0_0_2_2 x0_0_3_0 x0_0_3_1_0 x0_0_3_1_1 l0_0_3_1_2 A0_0_3_1_2 c0_0_3_1_2 x0_0_3_2_0 x0_0_3_2_1 l0_0_3_2_2 A0_0_3_2_2 c0_0_3_2_2 l0_0_4 A0_0_4 c0_0_4 l0_0_5 A0_0_5 c0_0_5 x0_1 l0_2 A0_2 c0_2 hZ hR0_0_2_2 hL0_0_2_2 hR0_0_3_1_2 hL0_0_3_1_2 hR0_0_3_2_2 hL0_0_3_2_2 hR0_0_4 hL0_0_4 hR0_0_5 hL0_0_5 hR0_2 hL0_2 b1 b2 b3 hc3 e1 hx4 b4 e2 hx6 q2 q4 q6 _ hq16 _ hS72 _ ?_)
            rintro _ a w21 ⟨rfl,hS85,hF⟩
            replace hS85:St w0 w21 [bk b2 #[vI x0_0_0,vI x0_0_1,vI x0_0_2_0,vI x0_0_2_1,.slice A0_0_2_2 l0_0_2_2.length c0_0_2_2,vI x0_0_3_0,vI x0_0_3_1_0,vI x0_0_3_1_1,.slice A0_0_3_1_2 l0_0_3_1_2.length c0_0_3_1_2,vI x0_0_3_2_0,vI x0_0_3_2_1,.slice A0_0_3_2_2 l0_0_3_2_2.length c0_0_3_2_2,.slice A0_0_4 l0_0_4.length c0_0_4,.slice A0_0_5 l0_0_5.length c0_0_5] 49,bk b1 #[vI x0_0_0,vI x0_0_1,vI x0_0_2_0,vI x0_0_2_1,.slice A0_0_2_2 l0_0_2_2.length c0_0_2_2,vI x0_0_3_0,vI x0_0_3_1_0,vI x0_0_3_1_1,.slice A0_0_3_1_2 l0_0_3_1_2.length c0_0_3_1_2,vI x0_0_3_2_0,vI x0_0_3_2_1,.slice A0_0_3_2_2 l0_0_3_2_2.length c0_0_3_2_2,.slice A0_0_4 l0_0_4.length c0_0_4,.slice A0_0_5 l0_0_5.length c0_0_5,vI x0_1,.slice A0_2 l0_2.length c0_2] 99]:=hS85
            refine hK34 [(1,pP b1 0),(3,pP b2 0),(8,.bool q6)] w21 ?_ a hF
            refine ws fun K47 hK47=>ws fun K48 hK48=>wr [(0,0),(1,0),(2,0),(3,0),(4,0),(5,0)]<|gb0 [0,1] [(150,.bool q6),(149,.bool q6)] ?_
            by_cases hc28:q6=true
            ·rw [if_pos hc28] at h
             refine gk 150 q6 true hc28<|gb [2,3,4,5] [(154,.bool (decide (x0_1 ≥ 6))),(153,.bool (decide (x0_1 ≥ 6))),(152,vI x0_1),(151,pP b1 14)] [ld b1 14 (vI x0_1)] ⟨hS85.c 1,trivial⟩<|gn hK48 ?_
             by_cases hc29:x0_1 ≥ 6
             ·rw [if_pos hc29] at h
              refine wk 154 (decide (x0_1 ≥ 6)) true (decide_eq_true hc29)<|wt<|ws fun K49 hK49=>wr [(0,0)]<|gb0 [0] [(2,vI 2)]<|gn hK49 ?_
              have hS86:=hS85.takeN 0
              obtain rfl:=si h
              exact we_ret (pr0 [.tmp 2] [vI 2] ⟨rfl,hS86⟩)
             rw [if_neg hc29] at h
             refine wk 154 (decide (x0_1 ≥ 6)) false (decide_eq_false hc29)<|wf<|we_skip fun a hF=>hK47 _ _ ?_ a hF
             refine ws fun K50 hK50=>ws fun K51 hK51=>wr [(0,0),(1,0),(2,0)]<|gb [0,1,2] [(157,.bool (x0_0_0==6)),(156,vI x0_0_0),(155,pP b2 0)] [ld b2 0 (vI x0_0_0)] ⟨hS85.c 0,trivial⟩<|gn hK51 ?_
             by_cases hc30:x0_0_0=6
             ·rw [if_pos hc30] at h
              refine wk 157 (x0_0_0==6) true (beq_iff_eq.2 hc30)<|wt<|ws fun K52 hK52=>wr [(0,0),(1,0),(2,0),(3,0)]<|gb [0,1,2,3] [(161,vI 0),(160,vI (l0_2.length:Int)),(159,.slice A0_2 l0_2.length c0_2),(158,pP b1 15)] [ld b1 15 (.slice A0_2 l0_2.length c0_2)] ⟨hS85.c 1,trivial⟩<|gn hK52<|we_block ?_
              have hS87:=hS85.takeN 1
              rcases hq17:iter (punctualref_wrongStatement.r10 x0_0_1 l0_2) K 0 with _ | (_ | rr1)
              ·rw [hq17] at h; cases h
              ·rw [hq17] at h
               simp only [] at h
               refine we_iter (A:=punctualref_wrongStatement.A10 w0 x0_0_0 x0_0_1 x0_0_2_0 x0_0_2_1 l0_0_2_2 A0_0_2_2 c0_0_2_2 x0_0_3_0 x0_0_3_1_0 x0_0_3_1_1 l0_0_3_1_2 A0_0_3_1_2 c0_0_3_1_2 x0_0_3_2_0 x0_0_3_2_1 l0_0_3_2_2 A0_0_3_2_2 c0_0_3_2_2 l0_0_4 A0_0_4 c0_0_4 l0_0_5 A0_0_5 c0_0_5 l0_2 A0_2 c0_2 b2) (B:=punctualref_wrongStatement.B10 w0) hq17 (fun a hF=>⟨hS87,hF.weaken ea⟩) (fun s o hf a w hA Q hQ=>punctualref_wrongStatement_r10 K w0 Z x0_0_0 x0_0_1 x0_0_2_0 x0_0_2_1 l0_0_2_2 A0_0_2_2 c0_0_2_2 x0_0_3_0 x0_0_3_1_0 x0_0_3_1_1 l0_0_3_1_2 A0_0_3_1_2 c0_0_3_1_2 x0_0_3_2_0 x0_0_3_2_1 l0_0_3_2_2 A0_0_3_2_2 c0_0_3_2_2 l0_0_4 A0_0_4 c0_0_4 l0_0_5 A0_0_5 c0_0_5 x0_1 l0_2 A0_2 c0_2 hZ hR0_0_2_2 hL0_0_2_2 hR0_0_3_1_2 hL0_0_3_1_2 hR0_0_3_2_2 hL0_0_3_2_2 hR0_0_4 hL0_0_4 hR0_0_5 hL0_0_5 hR0_2 hL0_2 b1 b2 b3 hc3 e1 hx4 b4 e2 hx6 q2 q4 q6 hc28 hc29 hc30 s o hf a w hA Q hQ) ?_
               rintro _ a w22 _ ⟨rfl,hS90,hF⟩
               replace hS90:St w0 w22 []:=hS90
               refine hK50 [] w22 ?_ a hF
               refine ws fun K59 hK59=>wr [(0,0)]<|gb0 [0] [(2,vI 0)]<|gn hK59 ?_
               obtain rfl:=si h
               exact we_ret (pr0 [.tmp 2] [vI 0] ⟨rfl,hS90⟩)
              rw [hq17] at h
              simp only [] at h
              refine we_iter (A:=punctualref_wrongStatement.A10 w0 x0_0_0 x0_0_1 x0_0_2_0 x0_0_2_1 l0_0_2_2 A0_0_2_2 c0_0_2_2 x0_0_3_0 x0_0_3_1_0 x0_0_3_1_1 l0_0_3_1_2 A0_0_3_1_2 c0_0_3_1_2 x0_0_3_2_0 x0_0_3_2_1 l0_0_3_2_2 A0_0_3_2_2 c0_0_3_2_2 l0_0_4 A0_0_4 c0_0_4 l0_0_5 A0_0_5 c0_0_5 l0_2 A0_2 c0_2 b2) (B:=punctualref_wrongStatement.B10 w0) hq17 (fun a hF=>⟨hS87,hF.weaken ea⟩) (fun s o hf a w hA Q hQ=>punctualref_wrongStatement_r10 K w0 Z x0_0_0 x0_0_1 x0_0_2_0 x0_0_2_1 l0_0_2_2 A0_0_2_2 c0_0_2_2 x0_0_3_0 x0_0_3_1_0 x0_0_3_1_1 l0_0_3_1_2 A0_0_3_1_2 c0_0_3_1_2 x0_0_3_2_0 x0_0_3_2_1 l0_0_3_2_2 A0_0_3_2_2 c0_0_3_2_2 l0_0_4 A0_0_4 c0_0_4 l0_0_5 A0_0_5 c0_0_5 x0_1 l0_2 A0_2 c0_2 hZ hR0_0_2_2 hL0_0_2_2 hR0_0_3_1_2 hL0_0_3_1_2 hR0_0_3_2_2 hL0_0_3_2_2 hR0_0_4 hL0_0_4 hR0_0_5 hL0_0_5 hR0_2 hL0_2 b1 b2 b3 hc3 e1 hx4 b4 e2 hx6 q2 q4 q6 hc28 hc29 hc30 s o hf a w hA Q hQ) ?_
              rintro _ a w1 _ ⟨rfl,hb⟩
              obtain rfl:=si h
              exact hb
             rw [if_neg hc30] at h
             refine wk 157 (x0_0_0==6) false (beq_eq_false_iff_ne.2 hc30)<|wf<|we_skip fun a hF=>hK50 _ _ ?_ a hF
             refine ws fun K60 hK60=>wr [(0,0)]<|gb0 [0] [(2,vI 0)]<|gn hK60 ?_
             have hS91:=hS85.takeN 0
             obtain rfl:=si h
             exact we_ret (pr0 [.tmp 2] [vI 0] ⟨rfl,hS91⟩)
            rw [if_neg hc28] at h
            refine gk 150 q6 false (Bool.eq_false_iff.2 hc28)<|gb0 [2,3,4,5] [(154,.bool false),(153,undef),(152,undef),(151,undef)]<|gn hK48<|wf<|we_skip fun a hF=>hK47 _ _ ?_ a hF
            refine ws fun K61 hK61=>ws fun K62 hK62=>wr [(0,0),(1,0),(2,0)]<|gb [0,1,2] [(157,.bool (x0_0_0==6)),(156,vI x0_0_0),(155,pP b2 0)] [ld b2 0 (vI x0_0_0)] ⟨hS85.c 0,trivial⟩<|gn hK62 ?_
            by_cases hc33:x0_0_0=6
            ·rw [if_pos hc33] at h
             refine wk 157 (x0_0_0==6) true (beq_iff_eq.2 hc33)<|wt<|ws fun K63 hK63=>wr [(0,0),(1,0),(2,0),(3,0)]<|gb [0,1,2,3] [(161,vI 0),(160,vI (l0_2.length:Int)),(159,.slice A0_2 l0_2.length c0_2),(158,pP b1 15)] [ld b1 15 (.slice A0_2 l0_2.length c0_2)] ⟨hS85.c 1,trivial⟩<|gn hK63<|we_block ?_
             have hS92:=hS85.takeN 1
             rcases hq18:iter (punctualref_wrongStatement.r11 x0_0_1 l0_2) K 0 with _ | (_ | rr2)
             ·rw [hq18] at h; cases h
             ·rw [hq18] at h
              simp only [] at h
              refine we_iter (A:=punctualref_wrongStatement.A11 w0 x0_0_0 x0_0_1 x0_0_2_0 x0_0_2_1 l0_0_2_2 A0_0_2_2 c0_0_2_2 x0_0_3_0 x0_0_3_1_0 x0_0_3_1_1 l0_0_3_1_2 A0_0_3_1_2 c0_0_3_1_2 x0_0_3_2_0 x0_0_3_2_1 l0_0_3_2_2 A0_0_3_2_2 c0_0_3_2_2 l0_0_4 A0_0_4 c0_0_4 l0_0_5 A0_0_5 c0_0_5 l0_2 A0_2 c0_2 b2) (B:=punctualref_wrongStatement.B11 w0) hq18 (fun a hF=>⟨hS92,hF.weaken ea⟩) (fun s o hf a w hA Q hQ=>punctualref_wrongStatement_r11 K w0 Z x0_0_0 x0_0_1 x0_0_2_0 x0_0_2_1 l0_0_2_2 A0_0_2_2 c0_0_2_2 x0_0_3_0 x0_0_3_1_0 x0_0_3_1_1 l0_0_3_1_2 A0_0_3_1_2 c0_0_3_1_2 x0_0_3_2_0 x0_0_3_2_1 l0_0_3_2_2 A0_0_3_2_2 c0_0_3_2_2 l0_0_4 A0_0_4 c0_0_4 l0_0_5 A0_0_5 c0_0_5 x0_1 l0_2 A0_2 c0_2 hZ hR0_0_2_2 hL0_0_2_2 hR0_0_3_1_2 hL0_0_3_1_2 hR0_0_3_2_2 hL0_0_3_2_2 hR0_0_4 hL0_0_4 hR0_0_5 hL0_0_5 hR0_2 hL0_2 b1 b2 b3 hc3 e1 hx4 b4 e2 hx6 q2 q4 q6 hc28 hc33 s o hf a w hA Q hQ) ?_
              rintro _ a w23 _ ⟨rfl,hS95,hF⟩
              replace hS95:St w0 w23 []:=hS95
              refine hK61 [] w23 ?_ a hF
              refine ws fun K70 hK70=>wr [(0,0)]<|gb0 [0] [(2,vI 0)]<|gn hK70 ?_
              obtain rfl:=si h
              exact we_ret (pr0 [.tmp 2] [vI 0] ⟨rfl,hS95⟩)
             rw [hq18] at h
             simp only [] at h
             refine we_iter (A:=punctualref_wrongStatement.A11 w0 x0_0_0 x0_0_1 x0_0_2_0 x0_0_2_1 l0_0_2_2 A0_0_2_2 c0_0_2_2 x0_0_3_0 x0_0_3_1_0 x0_0_3_1_1 l0_0_3_1_2 A0_0_3_1_2 c0_0_3_1_2 x0_0_3_2_0 x0_0_3_2_1 l0_0_3_2_2 A0_0_3_2_2 c0_0_3_2_2 l0_0_4 A0_0_4 c0_0_4 l0_0_5 A0_0_5 c0_0_5 l0_2 A0_2 c0_2 b2) (B:=punctualref_wrongStatement.B11 w0) hq18 (fun a hF=>⟨hS92,hF.weaken ea⟩) (fun s o hf a w hA Q hQ=>punctualref_wrongStatement_r11 K w0 Z x0_0_0 x0_0_1 x0_0_2_0 x0_0_2_1 l0_0_2_2 A0_0_2_2 c0_0_2_2 x0_0_3_0 x0_0_3_1_0 x0_0_3_1_1 l0_0_3_1_2 A0_0_3_1_2 c0_0_3_1_2 x0_0_3_2_0 x0_0_3_2_1 l0_0_3_2_2 A0_0_3_2_2 c0_0_3_2_2 l0_0_4 A0_0_4 c0_0_4 l0_0_5 A0_0_5 c0_0_5 x0_1 l0_2 A0_2 c0_2 hZ hR0_0_2_2 hL0_0_2_2 hR0_0_3_1_2 hL0_0_3_1_2 hR0_0_3_2_2 hL0_0_3_2_2 hR0_0_4 hL0_0_4 hR0_0_5 hL0_0_5 hR0_2 hL0_2 b1 b2 b3 hc3 e1 hx4 b4 e2 hx6 q2 q4 q6 hc28 hc33 s o hf a w hA Q hQ) ?_
             rintro _ a w1 _ ⟨rfl,hb⟩
             obtain rfl:=si h
             exact hb
            rw [if_neg hc33] at h
            refine wk 157 (x0_0_0==6) false (beq_eq_false_iff_ne.2 hc33)<|wf<|we_skip fun a hF=>hK61 _ _ ?_ a hF
            refine ws fun K71 hK71=>wr [(0,0)]<|gb0 [0] [(2,vI 0)]<|gn hK71 ?_
            have hS96:=hS85.takeN 0
            obtain rfl:=si h
            exact we_ret (pr0 [.tmp 2] [vI 0] ⟨rfl,hS96⟩)
           rw [hq16] at h
           simp only [] at h
           refine kp (punctualref_wrongStatement_p9 K w0 Z x0_0_0 x0_0_1 x0_0_2_0 x0_0_2_1 l0_0_2_2 A0_0_2_2 c0_0_2_2 x0_0_3_0 x0_0_3_1_0 x0_0_3_1_1 l0_0_3_1_2 A0_0_3_1_2 c0_0_3_1_2 x0_0_3_2_0 x0_0_3_2_1 l0_0_3_2_2 A0_0_3_2_2 c0_0_3_2_2 l0_0_4 A0_0_4 c0_0_4 l0_0_5 A0_0_5 c0_0_5 x0_1 l0_2 A0_2 c0_2 hZ hR0_0_2_2 hL0_0_2_2 hR0_0_3_1_2 hL0_0_3_1_2 hR0_0_3_2_2 hL0_0_3_2_2 hR0_0_4 hL0_0_4 hR0_0_5 hL0_0_5 hR0_2 hL0_2 b1 b2 b3 hc3 e1 hx4 b4 e2 hx6 q2 q4 q6 _ hq16 _ hS72 _ ?_)
           rintro _ a w1 ⟨_,rfl,hb⟩
           obtain rfl:=si h
           exact hb
          rw [hq13] at h
          simp only [] at h
          refine kp (punctualref_wrongStatement_p8 K w0 Z x0_0_0 x0_0_1 x0_0_2_0 x0_0_2_1 l0_0_2_2 A0_0_2_2 c0_0_2_2 x0_0_3_0 x0_0_3_1_0 x0_0_3_1_1 l0_0_3_1_2 A0_0_3_1_2 c0_0_3_1_2 x0_0_3_2_0 x0_0_3_2_1 l0_0_3_2_2 A0_0_3_2_2 c0_0_3_2_2 l0_0_4 A0_0_4 c0_0_4 l0_0_5 A0_0_5 c0_0_5 x0_1 l0_2 A0_2 c0_2 hZ hR0_0_2_2 hL0_0_2_2 hR0_0_3_1_2 hL0_0_3_1_2 hR0_0_3_2_2 hL0_0_3_2_2 hR0_0_4 hL0_0_4 hR0_0_5 hL0_0_5 hR0_2 hL0_2 b1 b2 b3 hc3 e1 hx4 b4 e2 hx6 q2 q4 q6 _ hq13 _ hS64 _ ?_)
          rintro _ a w1 ⟨_,rfl,hb⟩
          obtain rfl:=si h
          exact hb
         rw [hq11] at h
         simp only [] at h
         refine kp (punctualref_wrongStatement_p7 K w0 Z x0_0_0 x0_0_1 x0_0_2_0 x0_0_2_1 l0_0_2_2 A0_0_2_2 c0_0_2_2 x0_0_3_0 x0_0_3_1_0 x0_0_3_1_1 l0_0_3_1_2 A0_0_3_1_2 c0_0_3_1_2 x0_0_3_2_0 x0_0_3_2_1 l0_0_3_2_2 A0_0_3_2_2 c0_0_3_2_2 l0_0_4 A0_0_4 c0_0_4 l0_0_5 A0_0_5 c0_0_5 x0_1 l0_2 A0_2 c0_2 hZ hR0_0_2_2 hL0_0_2_2 hR0_0_3_1_2 hL0_0_3_1_2 hR0_0_3_2_2 hL0_0_3_2_2 hR0_0_4 hL0_0_4 hR0_0_5 hL0_0_5 hR0_2 hL0_2 b1 b2 b3 hc3 e1 hx4 b4 e2 hx6 q2 q4 q6 _ hq11 _ hS52 _ ?_)
         rintro _ a w1 ⟨_,rfl,hb⟩
         obtain rfl:=si h
         exact hb
        rw [hq10] at h
        simp only [] at h
        refine kp (punctualref_wrongStatement_p6 K w0 Z x0_0_0 x0_0_1 x0_0_2_0 x0_0_2_1 l0_0_2_2 A0_0_2_2 c0_0_2_2 x0_0_3_0 x0_0_3_1_0 x0_0_3_1_1 l0_0_3_1_2 A0_0_3_1_2 c0_0_3_1_2 x0_0_3_2_0 x0_0_3_2_1 l0_0_3_2_2 A0_0_3_2_2 c0_0_3_2_2 l0_0_4 A0_0_4 c0_0_4 l0_0_5 A0_0_5 c0_0_5 x0_1 l0_2 A0_2 c0_2 hZ hR0_0_2_2 hL0_0_2_2 hR0_0_3_1_2 hL0_0_3_1_2 hR0_0_3_2_2 hL0_0_3_2_2 hR0_0_4 hL0_0_4 hR0_0_5 hL0_0_5 hR0_2 hL0_2 b1 b2 b3 hc3 e1 hx4 b4 e2 hx6 q2 q4 q6 _ hq10 _ hS40 _ ?_)
        rintro _ a w1 ⟨_,rfl,hb⟩
        obtain rfl:=si h
        exact hb
       rw [hq7] at h
       simp only [] at h
       refine kp (punctualref_wrongStatement_p5 K w0 Z x0_0_0 x0_0_1 x0_0_2_0 x0_0_2_1 l0_0_2_2 A0_0_2_2 c0_0_2_2 x0_0_3_0 x0_0_3_1_0 x0_0_3_1_1 l0_0_3_1_2 A0_0_3_1_2 c0_0_3_1_2 x0_0_3_2_0 x0_0_3_2_1 l0_0_3_2_2 A0_0_3_2_2 c0_0_3_2_2 l0_0_4 A0_0_4 c0_0_4 l0_0_5 A0_0_5 c0_0_5 x0_1 l0_2 A0_2 c0_2 hZ hR0_0_2_2 hL0_0_2_2 hR0_0_3_1_2 hL0_0_3_1_2 hR0_0_3_2_2 hL0_0_3_2_2 hR0_0_4 hL0_0_4 hR0_0_5 hL0_0_5 hR0_2 hL0_2 b1 b2 b3 hc3 e1 hx4 b4 e2 hx6 q2 q4 q6 _ hq7 _ hS32 _ ?_)
       rintro _ a w1 ⟨_,rfl,hb⟩
       obtain rfl:=si h
       exact hb
      rw [hq5] at h
      simp only [] at h
      refine kp (punctualref_wrongStatement_p4 K w0 Z x0_0_0 x0_0_1 x0_0_2_0 x0_0_2_1 l0_0_2_2 A0_0_2_2 c0_0_2_2 x0_0_3_0 x0_0_3_1_0 x0_0_3_1_1 l0_0_3_1_2 A0_0_3_1_2 c0_0_3_1_2 x0_0_3_2_0 x0_0_3_2_1 l0_0_3_2_2 A0_0_3_2_2 c0_0_3_2_2 l0_0_4 A0_0_4 c0_0_4 l0_0_5 A0_0_5 c0_0_5 x0_1 l0_2 A0_2 c0_2 hZ hR0_0_2_2 hL0_0_2_2 hR0_0_3_1_2 hL0_0_3_1_2 hR0_0_3_2_2 hL0_0_3_2_2 hR0_0_4 hL0_0_4 hR0_0_5 hL0_0_5 hR0_2 hL0_2 b1 b2 b3 hc3 e1 hx4 b4 e2 hx6 q2 q4 _ hq5 _ hS27 _ ?_)
      rintro _ a w1 ⟨_,rfl,hb⟩
      obtain rfl:=si h
      exact hb
     rw [hq4] at h
     simp only [] at h
     refine kp (punctualref_wrongStatement_p3 K w0 Z x0_0_0 x0_0_1 x0_0_2_0 x0_0_2_1 l0_0_2_2 A0_0_2_2 c0_0_2_2 x0_0_3_0 x0_0_3_1_0 x0_0_3_1_1 l0_0_3_1_2 A0_0_3_1_2 c0_0_3_1_2 x0_0_3_2_0 x0_0_3_2_1 l0_0_3_2_2 A0_0_3_2_2 c0_0_3_2_2 l0_0_4 A0_0_4 c0_0_4 l0_0_5 A0_0_5 c0_0_5 x0_1 l0_2 A0_2 c0_2 hZ hR0_0_2_2 hL0_0_2_2 hR0_0_3_1_2 hL0_0_3_1_2 hR0_0_3_2_2 hL0_0_3_2_2 hR0_0_4 hL0_0_4 hR0_0_5 hL0_0_5 hR0_2 hL0_2 b1 b2 b3 hc3 e1 hx4 b4 e2 hx6 q2 _ hq4 _ hS22 _ ?_)
     rintro _ a w1 ⟨_,rfl,hb⟩
     obtain rfl:=si h
     exact hb
    rw [hq3] at h
    simp only [] at h
    refine kp (punctualref_wrongStatement_p2 K w0 Z x0_0_0 x0_0_1 x0_0_2_0 x0_0_2_1 l0_0_2_2 A0_0_2_2 c0_0_2_2 x0_0_3_0 x0_0_3_1_0 x0_0_3_1_1 l0_0_3_1_2 A0_0_3_1_2 c0_0_3_1_2 x0_0_3_2_0 x0_0_3_2_1 l0_0_3_2_2 A0_0_3_2_2 c0_0_3_2_2 l0_0_4 A0_0_4 c0_0_4 l0_0_5 A0_0_5 c0_0_5 x0_1 l0_2 A0_2 c0_2 hZ hR0_0_2_2 hL0_0_2_2 hR0_0_3_1_2 hL0_0_3_1_2 hR0_0_3_2_2 hL0_0_3_2_2 hR0_0_4 hL0_0_4 hR0_0_5 hL0_0_5 hR0_2 hL0_2 b1 b2 b3 hc3 e1 hx4 b4 e2 hx6 _ hq3 _ hS17 _ ?_)
    rintro _ a w1 ⟨_,rfl,hb⟩
    obtain rfl:=si h
    exact hb
   rw [hq2] at h
   simp only [] at h
   refine kp (punctualref_wrongStatement_p1 K w0 Z x0_0_0 x0_0_1 x0_0_2_0 x0_0_2_1 l0_0_2_2 A0_0_2_2 c0_0_2_2 x0_0_3_0 x0_0_3_1_0 x0_0_3_1_1 l0_0_3_1_2 A0_0_3_1_2 c0_0_3_1_2 x0_0_3_2_0 x0_0_3_2_1 l0_0_3_2_2 A0_0_3_2_2 c0_0_3_2_2 l0_0_4 A0_0_4 c0_0_4 l0_0_5 A0_0_5 c0_0_5 x0_1 l0_2 A0_2 c0_2 hZ hR0_0_2_2 hL0_0_2_2 hR0_0_3_1_2 hL0_0_3_1_2 hR0_0_3_2_2 hL0_0_3_2_2 hR0_0_4 hL0_0_4 hR0_0_5 hL0_0_5 hR0_2 hL0_2 b1 b2 b3 hc3 e1 hx4 b4 e2 hx6 _ hq2 _ hS11 _ ?_)
   rintro _ a w1 ⟨_,rfl,hb⟩
   obtain rfl:=si h
   exact hb
  rw [if_neg hc3] at h
  cases h
 rw [hq1] at h
 simp only [] at h
 refine kp (punctualref_wrongStatement_p0 K w0 Z x0_0_0 x0_0_1 x0_0_2_0 x0_0_2_1 l0_0_2_2 A0_0_2_2 c0_0_2_2 x0_0_3_0 x0_0_3_1_0 x0_0_3_1_1 l0_0_3_1_2 A0_0_3_1_2 c0_0_3_1_2 x0_0_3_2_0 x0_0_3_2_1 l0_0_3_2_2 A0_0_3_2_2 c0_0_3_2_2 l0_0_4 A0_0_4 c0_0_4 l0_0_5 A0_0_5 c0_0_5 x0_1 l0_2 A0_2 c0_2 hZ hR0_0_2_2 hL0_0_2_2 hR0_0_3_1_2 hL0_0_3_1_2 hR0_0_3_2_2 hL0_0_3_2_2 hR0_0_4 hL0_0_4 hR0_0_5 hL0_0_5 hR0_2 hL0_2 b1 b2 _ hq1 _ hS4 _ ?_)
 rintro _ a w1 ⟨_,rfl,hb⟩
 obtain rfl:=si h
 exact hb

/-! punctual/punctualref.CheckBody -/
abbrev punctualref_CheckBody.Post (w0:World) (r:SFault) (e:Ending) (w:World):Prop:=e=.returned (.agg #[vI r.Code,vI r.At])∧St w0 w []
def punctualref_CheckBody.r0 (K : Nat) (r2 : List Sstatement) : Nat → Option (Nat ⊕ (Unit ⊕ SFault))
 | i1 =>
  if (i1:Int)<(r2.length:Int) then
   match r2[i1]? with
   | none=>none
   | some e1 =>
    match punctualref_wrongStatement.f K e1.s.Kind e1.s.N e1.s.E.Kind e1.s.E.N e1.s.E.A e1.s.If.Kind e1.s.If.A.Kind e1.s.If.A.N e1.s.If.A.A e1.s.If.B.Kind e1.s.If.B.N e1.s.If.B.A e1.s.Body e1.s.Else e1.deep e1.locks with
    | none=>none
    | some r3 =>
     if r3=0 then
      some (.inl (i1+1))
     else
      some (.inr (.inr (punctualref_F.f r3 (i1:Int))))
  else
   some (.inr (.inl ()))
def punctualref_CheckBody.f (K : Nat) (l0 : List SStmt) : Option SFault :=
 match punctualref_Size.f K l0 with
 | none=>none
 | some r1 =>
  if r1 > 200 then
   some (punctualref_F.f 2 0)
  else
   match punctualref_Flat.f K l0 0 ([]:List Int) 200 with
   | none=>none
   | some r2 =>
    match iter (punctualref_CheckBody.r0 K r2) K 0 with
    | none=>none
    | some (.inl _) =>
     some (⟨0,0⟩:SFault)
    | some (.inr rr1) =>
     some rr1
abbrev punctualref_CheckBody.A0 (w0:World) (b1:Nat) (r2:List Sstatement) (Z1:OA) (cz1:Nat) (wf4:World):Nat→Act→World→Prop:=fun (s:Nat) a w=>∃ (ft5:List Nat) (wf5:World),Sub wf4 wf5∧St w0 w [bk b1 #[vI 0,vI 0] 40,Own.frz ft5 wf5]∧Frm 27 a [(2,pP b1 0),(11,.slice Z1 r2.length cz1),(12,vI (r2.length:Int)),(13,vI (s:Int))]
abbrev punctualref_CheckBody.B0 (w0:World) (b1:Nat) (wf4:World):(Unit ⊕ SFault)→Exit→Act→World→Prop:=Exits 0 (fun (s:Unit) a w=>∃ (ft6:List Nat) (wf6:World),Sub wf4 wf6∧St w0 w [bk b1 #[vI 0,vI 0] 40,Own.frz ft6 wf6]∧Frm 27 a [(2,pP b1 0)]) (Rets Try.prog Try.f26 (punctualref_CheckBody.Post w0))
theorem punctualref_CheckBody_r0 (K:Nat) (w0:World) (Z:Zone) (l0:List SStmt) (A0:OA) (c0:Nat) (hZ:∀ w,Sub w0 w→Z w) (hR0:RdZ Z A0 l0) (hL0:l0.length≤c0) (ft1:List Nat) (wf1:World) (b1:Nat) (r1:Int) (hc1:¬ (r1 > 200)) (r2:List Sstatement) (hds1:List Hstatement) (ft2:List Nat) (wf2:World) (ft3:List Nat) (wf3:World) (hsb1:Sub wf2 wf3) (hsb2:Sub wf1 wf3) (hd1:DRows (Zand Z wf3) hds1 r2) (Z1:OA) (cz1:Nat) (ft4:List Nat) (wf4:World) (hsb3:Sub wf3 wf4) (hRd1:RdZ (Zand Z wf4) Z1 r2) (hLd1:r2.length≤cz1) (s:Nat) (o:Nat ⊕ (Unit ⊕ SFault)) (h:punctualref_CheckBody.r0 K r2 s=some o) (a:Act) (w:World) (hA:punctualref_CheckBody.A0 w0 b1 r2 Z1 cz1 wf4 s a w) (Q:Exit→Act→World→Prop) (hQ:∀ x a w,Outs (punctualref_CheckBody.A0 w0 b1 r2 Z1 cz1 wf4) (punctualref_CheckBody.B0 w0 b1 wf4) o x a w→Q x a w):(subF Try.f26 [1,1,0,1,0,0]).wp Try.prog Q a w:=by
 obtain ⟨i1,hs⟩:∃ z,z=s:=⟨s,rfl⟩
 subst hs
 obtain ⟨ft5,wf5,hsb4,hS,hF⟩:=hA
 replace hS:St w0 w [bk b1 #[vI 0,vI 0] 40,Own.frz ft5 wf5]:=hS
 simp only [punctualref_CheckBody.r0] at h
 refine (?_:WE Try.prog 27 (subF Try.f26 [1,1,0,1,0,0]) Q [(2,pP b1 0),(11,.slice Z1 r2.length cz1),(12,vI (r2.length:Int)),(13,vI (i1:Int))] w) a hF
 clear hF a
 refine ws fun K7 hK7=>wr [(0,0)]<|gb0 [0] [(14,.bool (decide ((i1:Int)<(r2.length:Int))))]<|gn hK7<|ws fun K8 hK8=>?_
 by_cases hc2:(i1:Int)<(r2.length:Int)
 ·rw [if_pos hc2] at h
  refine wk 14 (decide ((i1:Int)<(r2.length:Int))) true (decide_eq_true hc2)<|wt<|we_skip fun a hF=>hK8 _ _ ?_ a hF
  refine ws fun K9 hK9=>we_block<|ws fun K10 hK10=>wr [(0,0),(1,0),(2,0),(3,1),(4,0),(5,2)]<|gb0 [0] [(15,vI (i1:Int))] ?_
  rcases hx2:r2[i1]? with _ | e1
  ·rw [hx2] at h; cases h
  rw [hx2] at h
  simp only [] at h
  obtain ⟨An1,cn1,An2,cn2,An3,cn3,An4,cn4,An5,cn5,An6,cn6,hCs1,hLn1,hRn1,hLn2,hRn2,hLn3,hRn3,hLn4,hRn4,hLn5,hRn5,hLn6,hRn6⟩:=Sstatement.getZ hRd1 hx2
  refine gi 16 0 96 99 16 r2.length cz1 (.tmp 11) (.tmp 13) Z1 .i64 (i1:Int) i1 (hRd1.eqSome ⟨(hZ _ hS.subw),(hsb4.trans (hS.frzSub 1 rfl))⟩ (pos_of_get hx2)) rfl (lt_of_get hx2) ?_
  refine gb [2] [(17,.agg #[vI e1.s.Kind,vI e1.s.N,vI e1.s.E.Kind,vI e1.s.E.N,.slice An1 e1.s.E.A.length cn1,vI e1.s.If.Kind,vI e1.s.If.A.Kind,vI e1.s.If.A.N,.slice An2 e1.s.If.A.A.length cn2,vI e1.s.If.B.Kind,vI e1.s.If.B.N,.slice An3 e1.s.If.B.A.length cn3,.slice An4 e1.s.Body.length cn4,.slice An5 e1.s.Else.length cn5,vI e1.deep,.slice An6 e1.locks.length cn6])] [.loaded ⟨blkOf Z1,offOf Z1+i1*16,none⟩ (vI e1.s.Kind),.loaded ⟨blkOf Z1,offOf Z1+i1*16+1,none⟩ (vI e1.s.N),.loaded ⟨blkOf Z1,offOf Z1+i1*16+2,none⟩ (vI e1.s.E.Kind),.loaded ⟨blkOf Z1,offOf Z1+i1*16+3,none⟩ (vI e1.s.E.N),.loaded ⟨blkOf Z1,offOf Z1+i1*16+4,none⟩ (.slice An1 e1.s.E.A.length cn1),.loaded ⟨blkOf Z1,offOf Z1+i1*16+5,none⟩ (vI e1.s.If.Kind),.loaded ⟨blkOf Z1,offOf Z1+i1*16+6,none⟩ (vI e1.s.If.A.Kind),.loaded ⟨blkOf Z1,offOf Z1+i1*16+7,none⟩ (vI e1.s.If.A.N),.loaded ⟨blkOf Z1,offOf Z1+i1*16+8,none⟩ (.slice An2 e1.s.If.A.A.length cn2),.loaded ⟨blkOf Z1,offOf Z1+i1*16+9,none⟩ (vI e1.s.If.B.Kind),.loaded ⟨blkOf Z1,offOf Z1+i1*16+10,none⟩ (vI e1.s.If.B.N),.loaded ⟨blkOf Z1,offOf Z1+i1*16+11,none⟩ (.slice An3 e1.s.If.B.A.length cn3),.loaded ⟨blkOf Z1,offOf Z1+i1*16+12,none⟩ (.slice An4 e1.s.Body.length cn4),.loaded ⟨blkOf Z1,offOf Z1+i1*16+13,none⟩ (.slice An5 e1.s.Else.length cn5),.loaded ⟨blkOf Z1,offOf Z1+i1*16+14,none⟩ (vI e1.deep),.loaded ⟨blkOf Z1,offOf Z1+i1*16+15,none⟩ (.slice An6 e1.locks.length cn6)] ⟨hCs1 _ ⟨(hZ _ hS.subw),(hsb4.trans (hS.frzSub 1 rfl))⟩ 0 _ rfl,hCs1 _ ⟨(hZ _ hS.subw),(hsb4.trans (hS.frzSub 1 rfl))⟩ 1 _ rfl,hCs1 _ ⟨(hZ _ hS.subw),(hsb4.trans (hS.frzSub 1 rfl))⟩ 2 _ rfl,hCs1 _ ⟨(hZ _ hS.subw),(hsb4.trans (hS.frzSub 1 rfl))⟩ 3 _ rfl,hCs1 _ ⟨(hZ _ hS.subw),(hsb4.trans (hS.frzSub 1 rfl))⟩ 4 _ rfl,hCs1 _ ⟨(hZ _ hS.subw),(hsb4.trans (hS.frzSub 1 rfl))⟩ 5 _ rfl,hCs1 _ ⟨(hZ _ hS.subw),(hsb4.trans (hS.frzSub 1 rfl))⟩ 6 _ rfl,hCs1 _ ⟨(hZ _ hS.subw),(hsb4.trans (hS.frzSub 1 rfl))⟩ 7 _ rfl,hCs1 _ ⟨(hZ _ hS.subw),(hsb4.trans (hS.frzSub 1 rfl))⟩ 8 _ rfl,hCs1 _ ⟨(hZ _ hS.subw),(hsb4.trans (hS.frzSub 1 rfl))⟩ 9 _ rfl,hCs1 _ ⟨(hZ _ hS.subw),(hsb4.trans (hS.frzSub 1 rfl))⟩ 10 _ rfl,hCs1 _ ⟨(hZ _ hS.subw),(hsb4.trans (hS.frzSub 1 rfl))⟩ 11 _ rfl,hCs1 _ ⟨(hZ _ hS.subw),(hsb4.trans (hS.frzSub 1 rfl))⟩ 12 _ rfl,hCs1 _ ⟨(hZ _ hS.subw),(hsb4.trans (hS.frzSub 1 rfl))⟩ 13 _ rfl,hCs1 _ ⟨(hZ _ hS.subw),(hsb4.trans (hS.frzSub 1 rfl))⟩ 14 _ rfl,hCs1 _ ⟨(hZ _ hS.subw),(hsb4.trans (hS.frzSub 1 rfl))⟩ 15 _ rfl,trivial⟩<|gw (some 4) (.cells #[vI 0,vI 0,vI 0,vI 0,.slice none 0 0,vI 0,vI 0,vI 0,.slice none 0 0,vI 0,vI 0,.slice none 0 0,.slice none 0 0,.slice none 0 0,vI 0,.slice none 0 0] 99) (fun b=>pP b 0) hS fun b2 w6 hx3 hS18=>?_
  refine gb0 [4] [(3,vI (i1:Int))]<|gs b2 0 #[vI 0,vI 0,vI 0,vI 0,.slice none 0 0,vI 0,vI 0,vI 0,.slice none 0 0,vI 0,vI 0,.slice none 0 0,.slice none 0 0,.slice none 0 0,vI 0,.slice none 0 0] 99 [vI e1.s.Kind,vI e1.s.N,vI e1.s.E.Kind,vI e1.s.E.N,.slice An1 e1.s.E.A.length cn1,vI e1.s.If.Kind,vI e1.s.If.A.Kind,vI e1.s.If.A.N,.slice An2 e1.s.If.A.A.length cn2,vI e1.s.If.B.Kind,vI e1.s.If.B.N,.slice An3 e1.s.If.B.A.length cn3,.slice An4 e1.s.Body.length cn4,.slice An5 e1.s.Else.length cn5,vI e1.deep,.slice An6 e1.locks.length cn6] hS18 fun w7 hS19=>?_
  have hS20:=hS19.nc #[vI e1.s.Kind,vI e1.s.N,vI e1.s.E.Kind,vI e1.s.E.N,.slice An1 e1.s.E.A.length cn1,vI e1.s.If.Kind,vI e1.s.If.A.Kind,vI e1.s.If.A.N,.slice An2 e1.s.If.A.A.length cn2,vI e1.s.If.B.Kind,vI e1.s.If.B.N,.slice An3 e1.s.If.B.A.length cn3,.slice An4 e1.s.Body.length cn4,.slice An5 e1.s.Else.length cn5,vI e1.deep,.slice An6 e1.locks.length cn6] (by kernel_rfl)
  refine gn hK10<|ws fun K11 hK11=>wr [(0,0),(1,1),(2,0)] ?_
  rcases hq4:punctualref_wrongStatement.f K e1.s.Kind e1.s.N e1.s.E.Kind e1.s.E.N e1.s.E.A e1.s.If.Kind e1.s.If.A.Kind e1.s.If.A.N e1.s.If.A.A e1.s.If.B.Kind e1.s.If.B.N e1.s.If.B.A e1.s.Body e1.s.Else e1.deep e1.locks with _ | r3
  ·rw [hq4] at h; cases h
  rw [hq4] at h
  simp only [] at h
  refine gb [0] [(18,.agg #[vI e1.s.Kind,vI e1.s.N,vI e1.s.E.Kind,vI e1.s.E.N,.slice An1 e1.s.E.A.length cn1,vI e1.s.If.Kind,vI e1.s.If.A.Kind,vI e1.s.If.A.N,.slice An2 e1.s.If.A.A.length cn2,vI e1.s.If.B.Kind,vI e1.s.If.B.N,.slice An3 e1.s.If.B.A.length cn3,.slice An4 e1.s.Body.length cn4,.slice An5 e1.s.Else.length cn5,vI e1.deep,.slice An6 e1.locks.length cn6])] [ld b2 0 (vI e1.s.Kind),ld b2 1 (vI e1.s.N),ld b2 2 (vI e1.s.E.Kind),ld b2 3 (vI e1.s.E.N),ld b2 4 (.slice An1 e1.s.E.A.length cn1),ld b2 5 (vI e1.s.If.Kind),ld b2 6 (vI e1.s.If.A.Kind),ld b2 7 (vI e1.s.If.A.N),ld b2 8 (.slice An2 e1.s.If.A.A.length cn2),ld b2 9 (vI e1.s.If.B.Kind),ld b2 10 (vI e1.s.If.B.N),ld b2 11 (.slice An3 e1.s.If.B.A.length cn3),ld b2 12 (.slice An4 e1.s.Body.length cn4),ld b2 13 (.slice An5 e1.s.Else.length cn5),ld b2 14 (vI e1.deep),ld b2 15 (.slice An6 e1.locks.length cn6)] ⟨hS20.c 0,hS20.c 0,hS20.c 0,hS20.c 0,hS20.c 0,hS20.c 0,hS20.c 0,hS20.c 0,hS20.c 0,hS20.c 0,hS20.c 0,hS20.c 0,hS20.c 0,hS20.c 0,hS20.c 0,hS20.c 0,trivial⟩<|ge_call (d:=some 19) (f:=55) (args:=#[.agg #[vI e1.s.Kind,vI e1.s.N,vI e1.s.E.Kind,vI e1.s.E.N,.slice An1 e1.s.E.A.length cn1,vI e1.s.If.Kind,vI e1.s.If.A.Kind,vI e1.s.If.A.N,.slice An2 e1.s.If.A.A.length cn2,vI e1.s.If.B.Kind,vI e1.s.If.B.N,.slice An3 e1.s.If.B.A.length cn3,.slice An4 e1.s.Body.length cn4,.slice An5 e1.s.Else.length cn5,vI e1.deep,.slice An6 e1.locks.length cn6]]) (by kernel_rfl) (punctualref_wrongStatement_ok K (Zand Z wf5) e1.s.Kind e1.s.N e1.s.E.Kind e1.s.E.N e1.s.E.A An1 cn1 e1.s.If.Kind e1.s.If.A.Kind e1.s.If.A.N e1.s.If.A.A An2 cn2 e1.s.If.B.Kind e1.s.If.B.N e1.s.If.B.A An3 cn3 e1.s.Body An4 cn4 e1.s.Else An5 cn5 e1.deep e1.locks An6 cn6 _ (fun w' k=>⟨(hZ w' (hS20.subw.trans k)),(hS20.frzSub 2 rfl).trans k⟩) (hRn1.up (ZLe.up hsb4)) hLn1 (hRn2.up (ZLe.up hsb4)) hLn2 (hRn3.up (ZLe.up hsb4)) hLn3 (hRn4.up (ZLe.up hsb4)) hLn4 (hRn5.up (ZLe.up hsb4)) hLn5 (hRn6 _ ⟨(hZ _ hS20.subw),(hsb4.trans (hS20.frzSub 2 rfl))⟩) hLn6 _ hq4) ?_
  rintro _ w8 ⟨rfl,hS21⟩
  refine ⟨_,rfl,hS21.below,?_⟩
  have hS22:=hS20.call hS21
  refine gb0 [2] [(5,vI r3)]<|gn hK11<|ws fun K12 hK12=>wr [(0,0),(1,0)]<|gb0 [0,1] [(21,.bool (r3 != 0)),(20,vI r3)]<|gn hK12 ?_
  by_cases hc3:r3=0
  ·rw [if_pos hc3] at h
   refine wk 21 (r3 != 0) false (bne_eq_false_iff_eq.2 hc3)<|wf<|we_skip fun a hF=>hK9 _ _ ?_ a hF
   refine wr [(0,0),(1,0)]<|ge_addn (d:=25) (ty:=3) (x:=(.tmp 13)) (y:=(.const (vI 1))) (t:=3) (t2:=3) (k:=.i64) (m:=i1) (by kernel_rfl) (by kernel_rfl) (by kernel_rfl) (by have h0:=RdZ.small hRd1 ⟨(hZ _ hS22.subw),(hsb4.trans (hS22.frzSub 2 rfl))⟩; omega) ?_
   refine gb0 [1] [(13,vI ((i1+1:Nat):Int))] ?_
   have hS25:=hS22.p [1,2] rfl
   obtain rfl:=si h
   exact ge_nil fun a hF=>hQ _ _ _ (Outs.again ⟨ft5,wf5,hsb4,hS25,hF.weaken ea⟩)
  rw [if_neg hc3] at h
  refine wk 21 (r3 != 0) true (bne_iff_ne.2 hc3)<|wt<|ws fun K13 hK13=>wr [(0,0),(1,0),(2,1),(3,2)]<|gb0 [0,1] [(23,vI (i1:Int)),(22,vI r3)]<|ge_call (d:=some 24) (f:=22) (args:=#[vI r3,vI (i1:Int)]) (by kernel_rfl) (punctualref_F_ok r3 (i1:Int) _ _ rfl) ?_
  rintro _ w9 ⟨rfl,hS26⟩
  refine ⟨_,rfl,hS26.below,?_⟩
  have hS28:=(hS22.call hS26).b 1
  refine gs b1 0 #[vI 0,vI 0] 40 [vI ((punctualref_F.f r3 (i1:Int)).Code),vI ((punctualref_F.f r3 (i1:Int)).At)] hS28 fun w10 hS29=>?_
  have hS30:=hS29.nc #[vI ((punctualref_F.f r3 (i1:Int)).Code),vI ((punctualref_F.f r3 (i1:Int)).At)] (by kernel_rfl)
  refine gn hK13 ?_
  have hS31:=hS30.takeN 0
  obtain rfl:=si h
  exact we_ret fun a hF=>hQ _ _ _ (Outs.out nofun (Exits.on ⟨rfl,(pr [.cell 2 40] [.agg #[vI ((punctualref_F.f r3 (i1:Int)).Code),vI ((punctualref_F.f r3 (i1:Int)).At)]] [ld b1 0 (vI ((punctualref_F.f r3 (i1:Int)).Code)),ld b1 1 (vI ((punctualref_F.f r3 (i1:Int)).At))] ⟨hS30.c 0,hS30.c 0,trivial⟩ ⟨rfl,hS31⟩) a hF⟩))
 rw [if_neg hc2] at h
 refine wk 14 (decide ((i1:Int)<(r2.length:Int))) false (decide_eq_false hc2)<|wf ?_
 have hS33:=(hS.b 1).b 1
 obtain rfl:=si h
 exact we_exit fun a hF=>hQ _ _ _ (Outs.out nofun (Exits.here ⟨ft5,wf5,hsb4,hS33,hF.weaken ea⟩))
theorem punctualref_CheckBody_ok (K:Nat) (Z:Zone) (l0:List SStmt) (A0:OA) (c0:Nat) (w0:World) (hZ:∀ w,Sub w0 w→Z w) (hR0:RdZ Z A0 l0) (hL0:l0.length≤c0) (r:SFault) (h:punctualref_CheckBody.f K l0=some r) :
  Calls Try.prog 26 #[.slice A0 l0.length c0] w0 (punctualref_CheckBody.Post w0 r):=by
 have hS:=St.start w0
 unfold punctualref_CheckBody.f at h
 refine calls_enter (n:=27) (args:=[.slice A0 l0.length c0]) (fn:=Try.f26) rfl rfl rfl rfl ?_
 show WE _ _ _ _ [(0,.slice A0 l0.length c0)] _
 obtain ⟨ft1,wf1,hS1⟩:=hS.frz0
 refine ws fun K1 hK1=>wr [(0,1)]<|gw (some 2) (.cells #[vI 0,vI 0] 40) (fun b=>pP b 0) hS1 fun b1 w1 hx1 hS2=>?_
 refine gn hK1<|ws fun K2 hK2=>ws fun K3 hK3=>wr [(0,0),(1,1),(2,0)] ?_
 rcases hq1:punctualref_Size.f K l0 with _ | r1
 ·rw [hq1] at h; cases h
 rw [hq1] at h
 simp only [] at h
 refine gb0 [0] [(6,.slice A0 l0.length c0)]<|ge_call (d:=some 7) (f:=27) (args:=#[.slice A0 l0.length c0]) (by kernel_rfl) (punctualref_Size_ok K (Zand Z wf1) l0 A0 c0 _ (fun w' k=>⟨(hZ w' (hS2.subw.trans k)),(hS2.frzSub 1 rfl).trans k⟩) (hR0.up (ZLe.in _ _)) hL0 _ hq1) ?_
 rintro _ w2 ⟨rfl,hS3⟩
 refine ⟨_,rfl,hS3.below,?_⟩
 have hS4:=hS2.call hS3
 refine gb0 [2] [(8,.bool (decide (r1 > 200)))]<|gn hK3 ?_
 by_cases hc1:r1 > 200
 ·rw [if_pos hc1] at h
  refine wk 8 (decide (r1 > 200)) true (decide_eq_true hc1)<|wt<|ws fun K4 hK4=>wr [(0,1),(1,2)]<|ge_call (d:=some 9) (f:=22) (args:=#[vI 2,vI 0]) (by kernel_rfl) (punctualref_F_ok 2 0 _ _ rfl) ?_
  rintro _ w3 ⟨rfl,hS5⟩
  refine ⟨_,rfl,hS5.below,?_⟩
  have hS6:=hS4.call hS5
  refine gs b1 0 #[vI 0,vI 0] 40 [vI ((punctualref_F.f 2 0).Code),vI ((punctualref_F.f 2 0).At)] hS6 fun w4 hS7=>?_
  have hS8:=hS7.nc #[vI ((punctualref_F.f 2 0).Code),vI ((punctualref_F.f 2 0).At)] (by kernel_rfl)
  refine gn hK4 ?_
  have hS9:=hS8.takeN 0
  obtain rfl:=si h
  exact we_ret (pr [.cell 2 40] [.agg #[vI ((punctualref_F.f 2 0).Code),vI ((punctualref_F.f 2 0).At)]] [ld b1 0 (vI ((punctualref_F.f 2 0).Code)),ld b1 1 (vI ((punctualref_F.f 2 0).At))] ⟨hS8.c 0,hS8.c 0,trivial⟩ ⟨rfl,hS9⟩)
 rw [if_neg hc1] at h
 refine wk 8 (decide (r1 > 200)) false (decide_eq_false hc1)<|wf<|we_skip fun a hF=>hK2 _ _ ?_ a hF
 refine ws fun K5 hK5=>ws fun K6 hK6=>wr [(0,0),(1,1),(2,0),(3,0)] ?_
 rcases hq3:punctualref_Flat.f K l0 0 ([]:List Int) 200 with _ | r2
 ·rw [hq3] at h; cases h
 rw [hq3] at h
 simp only [] at h
 refine gb0 [0] [(10,.slice A0 l0.length c0)]<|ge_call (d:=some 11) (f:=54) (args:=#[.slice A0 l0.length c0,vI 0,.slice none 0 0,vI 200]) (by kernel_rfl) (punctualref_Flat_ok K (Zand Z wf1) l0 A0 c0 0 ([]:List Int) none 0 200 _ (fun w' k=>⟨(hZ w' (hS4.subw.trans k)),(hS4.frzSub 1 rfl).trans k⟩) (hR0.up (ZLe.in _ _)) hL0 (by first | exact RdL.nil _ | exact RdF.nil _ | exact RdZ.nil _) (Nat.zero_le _) _ hq3) ?_
 rintro _ w5 ⟨v1,hds1,ft2,wf2,rfl,hd1,hS10⟩
 refine ⟨_,rfl,hS10.below,?_⟩
 have hS13:=((hS4.call hS10).b 3).b 2
 obtain ⟨ft3,wf3,hsb1,hsb2,hS14⟩:=hS13.frzMerge
 replace hd1:DRows (Zand Z wf3) hds1 r2:=hd1.up (ZLe.both hsb2 hsb1)
 obtain ⟨Z1,cz1,rfl⟩:=hS14.dopen 1 rfl hd1
 refine gb0 [2,3] [(13,vI 0),(12,vI (r2.length:Int))]<|gn hK6<|we_block ?_
 have hS15:=hS14.b 1
 obtain ⟨ft4,wf4,hsb3,-,hRd1,hLd1,hS16⟩:=hS15.dfrz (Z:=Z) hd1
 have hS17:=hS16.b 1
 rcases hq6:iter (punctualref_CheckBody.r0 K r2) K 0 with _ | (_ | rr1)
 ·rw [hq6] at h; cases h
 ·rw [hq6] at h
  simp only [] at h
  refine we_iter (A:=punctualref_CheckBody.A0 w0 b1 r2 Z1 cz1 wf4) (B:=punctualref_CheckBody.B0 w0 b1 wf4) hq6 (fun a hF=>⟨ft4,wf4,(Sub.refl _),hS17,hF.weaken ea⟩) (fun s o hf a w hA Q hQ=>punctualref_CheckBody_r0 K w0 Z l0 A0 c0 hZ hR0 hL0 ft1 wf1 b1 r1 hc1 r2 hds1 ft2 wf2 ft3 wf3 hsb1 hsb2 hd1 Z1 cz1 ft4 wf4 hsb3 hRd1 hLd1 s o hf a w hA Q hQ) ?_
  rintro _ a w11 _ ⟨rfl,ft7,wf7,hRz1,hS34,hF⟩
  replace hS34:St w0 w11 [bk b1 #[vI 0,vI 0] 40,Own.frz ft7 wf7]:=hS34
  refine hK5 [(2,pP b1 0)] w11 ?_ a hF
  refine ws fun K14 hK14=>wr [(0,0),(1,2)]<|gb0 [0] [(26,.agg #[vI 0,vI 0])]<|gs b1 0 #[vI 0,vI 0] 40 [vI 0,vI 0] hS34 fun w12 hS35=>?_
  have hS36:=hS35.nc #[vI 0,vI 0] (by kernel_rfl)
  refine gn hK14 ?_
  have hS37:=hS36.takeN 0
  obtain rfl:=si h
  exact we_ret (pr [.cell 2 40] [.agg #[vI 0,vI 0]] [ld b1 0 (vI 0),ld b1 1 (vI 0)] ⟨hS36.c 0,hS36.c 0,trivial⟩ ⟨rfl,hS37⟩)
 rw [hq6] at h
 simp only [] at h
 refine we_iter (A:=punctualref_CheckBody.A0 w0 b1 r2 Z1 cz1 wf4) (B:=punctualref_CheckBody.B0 w0 b1 wf4) hq6 (fun a hF=>⟨ft4,wf4,(Sub.refl _),hS17,hF.weaken ea⟩) (fun s o hf a w hA Q hQ=>punctualref_CheckBody_r0 K w0 Z l0 A0 c0 hZ hR0 hL0 ft1 wf1 b1 r1 hc1 r2 hds1 ft2 wf2 ft3 wf3 hsb1 hsb2 hd1 Z1 cz1 ft4 wf4 hsb3 hRd1 hLd1 s o hf a w hA Q hQ) ?_
 rintro _ a w1 _ ⟨rfl,hb⟩
 obtain rfl:=si h
 exact hb

/-! punctual/punctualref.moved -/
abbrev punctualref_moved.Post (w0:World) (r:List SIns) (e:Ending) (w:World):Prop:=∃ (v0:Value),e=.returned (v0)∧St w0 w [Own.of v0 29 r]
def punctualref_moved.r0 (l0 : List SIns) (x1 : Int) : (List SIns) × Nat → Option (((List SIns) × Nat) ⊕ ((List SIns) ⊕ (List SIns)))
 | (m1,i1) =>
  if (i1:Int)<(l0.length:Int) then
   match l0[i1]? with
   | none=>none
   | some e1 =>
    if e1.Op=11 then
     if m1.length<5864062014805 then
      some (.inl ((m1++[(⟨e1.Op,IntKind.i64.wrap (e1.A+x1),e1.B⟩:SIns)]),(i1+1)))
     else
      none
    else
     if e1.Op=12 then
      if m1.length<5864062014805 then
       some (.inl ((m1++[(⟨e1.Op,IntKind.i64.wrap (e1.A+x1),e1.B⟩:SIns)]),(i1+1)))
      else
       none
     else
      if e1.Op=14 then
       if m1.length<5864062014805 then
        some (.inl ((m1++[(⟨e1.Op,e1.A,IntKind.i64.wrap (e1.B+x1)⟩:SIns)]),(i1+1)))
       else
        none
      else
       if m1.length<5864062014805 then
        some (.inl ((m1++[e1]),(i1+1)))
       else
        none
  else
   some (.inr (.inl m1))
def punctualref_moved.f (K : Nat) (l0 : List SIns) (x1 : Int) : Option (List SIns) :=
 match iter (punctualref_moved.r0 l0 x1) K (([]:List SIns),0) with
 | none=>none
 | some (.inl m3) =>
  some m3
 | some (.inr rr1) =>
  some rr1
abbrev punctualref_moved.A0 (w0:World) (l0:List SIns) (A0:OA) (c0:Nat) (x1:Int):((List SIns)×Nat)→Act→World→Prop:=fun (s:(List SIns)×Nat) a w=>∃ (v1:Value),St w0 w [Own.of v1 29 s.1]∧Frm 37 a [(1,vI x1),(5,v1),(8,.slice A0 l0.length c0),(9,vI (l0.length:Int)),(10,vI (s.2:Int))]
abbrev punctualref_moved.B0 (w0:World):((List SIns) ⊕ (List SIns))→Exit→Act→World→Prop:=Exits 0 (fun (s:(List SIns)) a w=>∃ (v2:Value),St w0 w [Own.of v2 29 s]∧Frm 37 a [(5,v2)]) (Rets Try.prog Try.f115 (punctualref_moved.Post w0))
theorem punctualref_moved_r0 (K:Nat) (w0:World) (l0:List SIns) (A0:OA) (c0:Nat) (x1:Int) (hR0:RdL w0 A0 l0) (hL0:l0.length≤c0) (s:(List SIns)×Nat) (o:((List SIns)×Nat) ⊕ ((List SIns) ⊕ (List SIns))) (h:punctualref_moved.r0 l0 x1 s=some o) (a:Act) (w:World) (hA:punctualref_moved.A0 w0 l0 A0 c0 x1 s a w) (Q:Exit→Act→World→Prop) (hQ:∀ x a w,Outs (punctualref_moved.A0 w0 l0 A0 c0 x1) (punctualref_moved.B0 w0) o x a w→Q x a w):(subF Try.f115 [1,1,0,1,0,0]).wp Try.prog Q a w:=by
 obtain ⟨m1,i1⟩:=s
 obtain ⟨v1,hS,hF⟩:=hA
 replace hS:St w0 w [Own.of v1 29 m1]:=hS
 simp only [punctualref_moved.r0] at h
 refine (?_:WE Try.prog 37 (subF Try.f115 [1,1,0,1,0,0]) Q [(1,vI x1),(5,v1),(8,.slice A0 l0.length c0),(9,vI (l0.length:Int)),(10,vI (i1:Int))] w) a hF
 clear hF a
 refine ws fun K5 hK5=>wr [(0,0)]<|gb0 [0] [(11,.bool (decide ((i1:Int)<(l0.length:Int))))]<|gn hK5<|ws fun K6 hK6=>?_
 by_cases hc1:(i1:Int)<(l0.length:Int)
 ·rw [if_pos hc1] at h
  refine wk 11 (decide ((i1:Int)<(l0.length:Int))) true (decide_eq_true hc1)<|wt<|we_skip fun a hF=>hK6 _ _ ?_ a hF
  refine ws fun K7 hK7=>we_block<|ws fun K8 hK8=>wr [(0,0),(1,0),(2,1),(3,2)] ?_
  rcases hx1:l0[i1]? with _ | e1
  ·rw [hx1] at h; cases h
  rw [hx1] at h
  simp only [] at h
  refine gi 12 0 68 29 3 l0.length c0 (.tmp 8) (.tmp 10) A0 .i64 (i1:Int) i1 ((hS.rd hR0).eqSome (pos_of_get hx1)) rfl (lt_of_get hx1) ?_
  refine gb [1] [(13,.agg #[vI e1.Op,vI e1.A,vI e1.B])] [.loaded ⟨blkOf A0,offOf A0+i1*3,none⟩ (vI e1.Op),.loaded ⟨blkOf A0,offOf A0+i1*3+1,none⟩ (vI e1.A),.loaded ⟨blkOf A0,offOf A0+i1*3+2,none⟩ (vI e1.B)] ⟨RdL.cell (j:=0) (hS.rd hR0) hx1 rfl,RdL.cell (j:=1) (hS.rd hR0) hx1 rfl,RdL.cell (j:=2) (hS.rd hR0) hx1 rfl,trivial⟩<|gw (some 7) (.cells #[vI 0,vI 0,vI 0] 29) (fun b=>pP b 0) hS fun b1 w1 hx2 hS2=>?_
  refine gs b1 0 #[vI 0,vI 0,vI 0] 29 [vI e1.Op,vI e1.A,vI e1.B] hS2 fun w2 hS3=>?_
  have hS4:=hS3.nc #[vI e1.Op,vI e1.A,vI e1.B] (by kernel_rfl)
  refine gn hK8<|ws fun K9 hK9=>ws fun K10 hK10=>wr [(0,0),(1,0)]<|gb [0,1] [(15,vI e1.Op),(14,pP b1 0)] [ld b1 0 (vI e1.Op)] ⟨hS4.c 0,trivial⟩<|gn hK10<|we_block<|ws fun K11 hK11=>ws fun K12 hK12=>wr [(0,0),(1,0)]<|gb0 [0,1] [(16,.bool (e1.Op==11)),(17,.bool (e1.Op==11))]<|gn hK12 ?_
  by_cases hc2:e1.Op=11
  ·rw [if_pos hc2] at h
   refine wk 16 (e1.Op==11) true (beq_iff_eq.2 hc2)<|wt<|we_skip fun a hF=>hK11 _ _ ?_ a hF
   refine wt<|wr [(0,0),(1,0),(2,0),(3,0),(4,0),(5,2)]<|gb [0,1,2,3,4] [(23,pP b1 1),(22,vI (IntKind.i64.wrap (e1.A+x1))),(21,vI x1),(20,vI e1.A),(19,pP b1 1)] [ld b1 1 (vI e1.A)] ⟨hS4.c 0,trivial⟩<|gs b1 1 #[vI e1.Op,vI e1.A,vI e1.B] 29 [vI (IntKind.i64.wrap (e1.A+x1))] hS4 fun w3 hS5=>?_
   have hS6:=hS5.nc #[vI e1.Op,vI (IntKind.i64.wrap (e1.A+x1)),vI e1.B] (by kernel_rfl)
   refine gn hK9<|wr [(0,0),(1,0),(2,1),(3,2),(4,0)]<|gb [0,1] [(32,.agg #[vI e1.Op,vI (IntKind.i64.wrap (e1.A+x1)),vI e1.B]),(31,v1)] [ld b1 0 (vI e1.Op),ld b1 1 (vI (IntKind.i64.wrap (e1.A+x1))),ld b1 2 (vI e1.B)] ⟨hS6.c 0,hS6.c 0,hS6.c 0,trivial⟩<|gw (some 33) (.cells #[vI e1.Op,vI (IntKind.i64.wrap (e1.A+x1)),vI e1.B] 29) (fun b=>.slice (some ⟨b,0,none⟩) 1 1) hS6 fun b2 w4 hx3 hS7=>?_
   have hS8:=hS7.b 2
   by_cases hc3:m1.length<5864062014805
   ·rw [if_pos hc3] at h
    refine ge_append (α:=SIns) (m:=0) (d:=34) (t:=68) (el:=29) (bytes:=24) (c1:=1) (b1:=b2) (x:=(.tmp 31)) (y:=(.tmp 33)) (ty:=68) (v:=v1) (z:=.agg #[vI 0,vI 0,vI 0]) (l:=m1) (u:=(⟨e1.Op,IntKind.i64.wrap (e1.A+x1),e1.B⟩:SIns)) (by kernel_rfl) (by kernel_rfl) (by kernel_rfl) (by kernel_rfl) (by kernel_rfl) rfl hS8 rfl (by omega) fun v3 w5 hS9=>?_
    refine gb0 [4] [(5,v3)]<|gn hK7<|wr [(0,0),(1,0)]<|ge_addn (d:=35) (ty:=3) (x:=(.tmp 10)) (y:=(.const (vI 1))) (t:=3) (t2:=3) (k:=.i64) (m:=i1) (by kernel_rfl) (by kernel_rfl) (by kernel_rfl) (by have h0:=hR0.small; omega) ?_
    refine gb0 [1] [(10,vI ((i1+1:Nat):Int))] ?_
    have hS10:=hS9.takeN 1
    obtain rfl:=si h
    exact ge_nil fun a hF=>hQ _ _ _ (Outs.again ⟨v3,hS10,hF.weaken ea⟩)
   rw [if_neg hc3] at h
   cases h
  rw [if_neg hc2] at h
  refine wk 16 (e1.Op==11) false (beq_eq_false_iff_ne.2 hc2)<|wf<|wr [(0,0),(1,0)]<|gb0 [0,1] [(16,.bool (e1.Op==12)),(18,.bool (e1.Op==12))]<|gn hK11 ?_
  by_cases hc4:e1.Op=12
  ·rw [if_pos hc4] at h
   refine wk 16 (e1.Op==12) true (beq_iff_eq.2 hc4)<|wt<|wr [(0,0),(1,0),(2,0),(3,0),(4,0),(5,2)]<|gb [0,1,2,3,4] [(23,pP b1 1),(22,vI (IntKind.i64.wrap (e1.A+x1))),(21,vI x1),(20,vI e1.A),(19,pP b1 1)] [ld b1 1 (vI e1.A)] ⟨hS4.c 0,trivial⟩<|gs b1 1 #[vI e1.Op,vI e1.A,vI e1.B] 29 [vI (IntKind.i64.wrap (e1.A+x1))] hS4 fun w6 hS11=>?_
   have hS12:=hS11.nc #[vI e1.Op,vI (IntKind.i64.wrap (e1.A+x1)),vI e1.B] (by kernel_rfl)
   refine gn hK9<|wr [(0,0),(1,0),(2,1),(3,2),(4,0)]<|gb [0,1] [(32,.agg #[vI e1.Op,vI (IntKind.i64.wrap (e1.A+x1)),vI e1.B]),(31,v1)] [ld b1 0 (vI e1.Op),ld b1 1 (vI (IntKind.i64.wrap (e1.A+x1))),ld b1 2 (vI e1.B)] ⟨hS12.c 0,hS12.c 0,hS12.c 0,trivial⟩<|gw (some 33) (.cells #[vI e1.Op,vI (IntKind.i64.wrap (e1.A+x1)),vI e1.B] 29) (fun b=>.slice (some ⟨b,0,none⟩) 1 1) hS12 fun b3 w7 hx4 hS13=>?_
   have hS14:=hS13.b 2
   by_cases hc5:m1.length<5864062014805
   ·rw [if_pos hc5] at h
    refine ge_append (α:=SIns) (m:=0) (d:=34) (t:=68) (el:=29) (bytes:=24) (c1:=1) (b1:=b3) (x:=(.tmp 31)) (y:=(.tmp 33)) (ty:=68) (v:=v1) (z:=.agg #[vI 0,vI 0,vI 0]) (l:=m1) (u:=(⟨e1.Op,IntKind.i64.wrap (e1.A+x1),e1.B⟩:SIns)) (by kernel_rfl) (by kernel_rfl) (by kernel_rfl) (by kernel_rfl) (by kernel_rfl) rfl hS14 rfl (by omega) fun v4 w8 hS15=>?_
    refine gb0 [4] [(5,v4)]<|gn hK7<|wr [(0,0),(1,0)]<|ge_addn (d:=35) (ty:=3) (x:=(.tmp 10)) (y:=(.const (vI 1))) (t:=3) (t2:=3) (k:=.i64) (m:=i1) (by kernel_rfl) (by kernel_rfl) (by kernel_rfl) (by have h0:=hR0.small; omega) ?_
    refine gb0 [1] [(10,vI ((i1+1:Nat):Int))] ?_
    have hS16:=hS15.takeN 1
    obtain rfl:=si h
    exact ge_nil fun a hF=>hQ _ _ _ (Outs.again ⟨v4,hS16,hF.weaken ea⟩)
   rw [if_neg hc5] at h
   cases h
  rw [if_neg hc4] at h
  refine wk 16 (e1.Op==12) false (beq_eq_false_iff_ne.2 hc4)<|wf<|ws fun K13 hK13=>wr [(0,0),(1,0)]<|gb0 [0,1] [(24,.bool (e1.Op==14)),(25,.bool (e1.Op==14))]<|gn hK13 ?_
  by_cases hc6:e1.Op=14
  ·rw [if_pos hc6] at h
   refine wk 24 (e1.Op==14) true (beq_iff_eq.2 hc6)<|wt<|wr [(0,0),(1,0),(2,0),(3,0),(4,0),(5,2)]<|gb [0,1,2,3,4] [(30,pP b1 2),(29,vI (IntKind.i64.wrap (e1.B+x1))),(28,vI x1),(27,vI e1.B),(26,pP b1 2)] [ld b1 2 (vI e1.B)] ⟨hS4.c 0,trivial⟩<|gs b1 2 #[vI e1.Op,vI e1.A,vI e1.B] 29 [vI (IntKind.i64.wrap (e1.B+x1))] hS4 fun w9 hS17=>?_
   have hS18:=hS17.nc #[vI e1.Op,vI e1.A,vI (IntKind.i64.wrap (e1.B+x1))] (by kernel_rfl)
   refine gn hK9<|wr [(0,0),(1,0),(2,1),(3,2),(4,0)]<|gb [0,1] [(32,.agg #[vI e1.Op,vI e1.A,vI (IntKind.i64.wrap (e1.B+x1))]),(31,v1)] [ld b1 0 (vI e1.Op),ld b1 1 (vI e1.A),ld b1 2 (vI (IntKind.i64.wrap (e1.B+x1)))] ⟨hS18.c 0,hS18.c 0,hS18.c 0,trivial⟩<|gw (some 33) (.cells #[vI e1.Op,vI e1.A,vI (IntKind.i64.wrap (e1.B+x1))] 29) (fun b=>.slice (some ⟨b,0,none⟩) 1 1) hS18 fun b4 w10 hx5 hS19=>?_
   have hS20:=hS19.b 2
   by_cases hc7:m1.length<5864062014805
   ·rw [if_pos hc7] at h
    refine ge_append (α:=SIns) (m:=0) (d:=34) (t:=68) (el:=29) (bytes:=24) (c1:=1) (b1:=b4) (x:=(.tmp 31)) (y:=(.tmp 33)) (ty:=68) (v:=v1) (z:=.agg #[vI 0,vI 0,vI 0]) (l:=m1) (u:=(⟨e1.Op,e1.A,IntKind.i64.wrap (e1.B+x1)⟩:SIns)) (by kernel_rfl) (by kernel_rfl) (by kernel_rfl) (by kernel_rfl) (by kernel_rfl) rfl hS20 rfl (by omega) fun v5 w11 hS21=>?_
    refine gb0 [4] [(5,v5)]<|gn hK7<|wr [(0,0),(1,0)]<|ge_addn (d:=35) (ty:=3) (x:=(.tmp 10)) (y:=(.const (vI 1))) (t:=3) (t2:=3) (k:=.i64) (m:=i1) (by kernel_rfl) (by kernel_rfl) (by kernel_rfl) (by have h0:=hR0.small; omega) ?_
    refine gb0 [1] [(10,vI ((i1+1:Nat):Int))] ?_
    have hS22:=hS21.takeN 1
    obtain rfl:=si h
    exact ge_nil fun a hF=>hQ _ _ _ (Outs.again ⟨v5,hS22,hF.weaken ea⟩)
   rw [if_neg hc7] at h
   cases h
  rw [if_neg hc6] at h
  refine wk 24 (e1.Op==14) false (beq_eq_false_iff_ne.2 hc6)<|wf<|we_skip fun a hF=>hK9 _ _ ?_ a hF
  refine wr [(0,0),(1,0),(2,1),(3,2),(4,0)]<|gb [0,1] [(32,.agg #[vI e1.Op,vI e1.A,vI e1.B]),(31,v1)] [ld b1 0 (vI e1.Op),ld b1 1 (vI e1.A),ld b1 2 (vI e1.B)] ⟨hS4.c 0,hS4.c 0,hS4.c 0,trivial⟩<|gw (some 33) (.cells #[vI e1.Op,vI e1.A,vI e1.B] 29) (fun b=>.slice (some ⟨b,0,none⟩) 1 1) hS4 fun b5 w12 hx6 hS23=>?_
  have hS24:=hS23.b 2
  by_cases hc8:m1.length<5864062014805
  ·rw [if_pos hc8] at h
   refine ge_append (α:=SIns) (m:=0) (d:=34) (t:=68) (el:=29) (bytes:=24) (c1:=1) (b1:=b5) (x:=(.tmp 31)) (y:=(.tmp 33)) (ty:=68) (v:=v1) (z:=.agg #[vI 0,vI 0,vI 0]) (l:=m1) (u:=e1) (by kernel_rfl) (by kernel_rfl) (by kernel_rfl) (by kernel_rfl) (by kernel_rfl) rfl hS24 rfl (by omega) fun v6 w13 hS25=>?_
   refine gb0 [4] [(5,v6)]<|gn hK7<|wr [(0,0),(1,0)]<|ge_addn (d:=35) (ty:=3) (x:=(.tmp 10)) (y:=(.const (vI 1))) (t:=3) (t2:=3) (k:=.i64) (m:=i1) (by kernel_rfl) (by kernel_rfl) (by kernel_rfl) (by have h0:=hR0.small; omega) ?_
   refine gb0 [1] [(10,vI ((i1+1:Nat):Int))] ?_
   have hS26:=hS25.takeN 1
   obtain rfl:=si h
   exact ge_nil fun a hF=>hQ _ _ _ (Outs.again ⟨v6,hS26,hF.weaken ea⟩)
  rw [if_neg hc8] at h
  cases h
 rw [if_neg hc1] at h
 refine wk 11 (decide ((i1:Int)<(l0.length:Int))) false (decide_eq_false hc1)<|wf ?_
 obtain rfl:=si h
 exact we_exit fun a hF=>hQ _ _ _ (Outs.out nofun (Exits.here ⟨v1,hS,hF.weaken ea⟩))
theorem punctualref_moved_ok (K:Nat) (l0:List SIns) (A0:OA) (c0:Nat) (x1:Int) (w0:World) (hR0:RdL w0 A0 l0) (hL0:l0.length≤c0) (r:List SIns) (h:punctualref_moved.f K l0 x1=some r) :
  Calls Try.prog 115 #[.slice A0 l0.length c0,vI x1] w0 (punctualref_moved.Post w0 r):=by
 have hS:=St.start w0
 unfold punctualref_moved.f at h
 refine calls_enter (n:=37) (args:=[.slice A0 l0.length c0,vI x1]) (fn:=Try.f115) rfl rfl rfl rfl ?_
 show WE _ _ _ _ [(0,.slice A0 l0.length c0),(1,vI x1)] _
 refine ws fun K1 hK1=>wr [(0,0)]<|gb0 [0] [(4,.slice none 0 0)]<|gn hK1<|ws fun K2 hK2=>wr [(0,0)]<|gb0 [0] [(5,.slice none 0 0)]<|gn hK2<|ws fun K3 hK3=>ws fun K4 hK4=>wr [(0,0),(1,0),(2,0)]<|gb0 [0,1,2] [(10,vI 0),(9,vI (l0.length:Int)),(8,.slice A0 l0.length c0)]<|gn hK4<|we_block ?_
 have hS1:=hS.nil (α:=SIns) 29
 rcases hq1:iter (punctualref_moved.r0 l0 x1) K (([]:List SIns),0) with _ | (m3 | rr1)
 ·rw [hq1] at h; cases h
 ·rw [hq1] at h
  simp only [] at h
  refine we_iter (A:=punctualref_moved.A0 w0 l0 A0 c0 x1) (B:=punctualref_moved.B0 w0) hq1 (fun a hF=>⟨(.slice none 0 0),hS1,hF.weaken ea⟩) (fun s o hf a w hA Q hQ=>punctualref_moved_r0 K w0 l0 A0 c0 x1 hR0 hL0 s o hf a w hA Q hQ) ?_
  rintro _ a w14 _ ⟨rfl,v7,hS27,hF⟩
  replace hS27:St w0 w14 [Own.of v7 29 m3]:=hS27
  refine hK3 [(5,v7)] w14 ?_ a hF
  refine ws fun K14 hK14=>wr [(0,0),(1,0)]<|gb0 [0,1] [(4,v7),(36,v7)]<|gn hK14 ?_
  obtain rfl:=si h
  exact we_ret (pr0 [.tmp 4] [v7] ⟨v7,rfl,hS27⟩)
 rw [hq1] at h
 simp only [] at h
 refine we_iter (A:=punctualref_moved.A0 w0 l0 A0 c0 x1) (B:=punctualref_moved.B0 w0) hq1 (fun a hF=>⟨(.slice none 0 0),hS1,hF.weaken ea⟩) (fun s o hf a w hA Q hQ=>punctualref_moved_r0 K w0 l0 A0 c0 x1 hR0 hL0 s o hf a w hA Q hQ) ?_
 rintro _ a w1 _ ⟨rfl,hb⟩
 obtain rfl:=si h
 exact hb

/-! punctual/punctualref.join -/
abbrev punctualref_join.Post (w0:World) (r:List SIns) (e:Ending) (w:World):Prop:=∃ (v0:Value),e=.returned (v0)∧St w0 w [Own.of v0 29 r]
def punctualref_join.f (K : Nat) (l0 : List SIns) (l1 : List SIns) : Option (List SIns) :=
 if 0+l0.length≤5864062014805 then
  match punctualref_moved.f K l1 (l0.length:Int) with
  | none=>none
  | some r1 =>
   if l0.length+r1.length≤5864062014805 then
    some (l0++r1)
   else
    none
 else
  none
theorem punctualref_join_ok (K:Nat) (l0:List SIns) (A0:OA) (c0:Nat) (l1:List SIns) (A1:OA) (c1:Nat) (w0:World) (hR0:RdL w0 A0 l0) (hL0:l0.length≤c0) (hR1:RdL w0 A1 l1) (hL1:l1.length≤c1) (r:List SIns) (h:punctualref_join.f K l0 l1=some r) :
  Calls Try.prog 89 #[.slice A0 l0.length c0,.slice A1 l1.length c1] w0 (punctualref_join.Post w0 r):=by
 have hS:=St.start w0
 unfold punctualref_join.f at h
 refine calls_enter (n:=13) (args:=[.slice A0 l0.length c0,.slice A1 l1.length c1]) (fn:=Try.f89) rfl rfl rfl rfl ?_
 show WE _ _ _ _ [(0,.slice A0 l0.length c0),(1,.slice A1 l1.length c1)] _
 refine ws fun K1 hK1=>wr [(0,0)]<|gb0 [0] [(4,.slice none 0 0)]<|gn hK1<|ws fun K2 hK2=>wr [(0,1),(1,0),(2,2),(3,0),(4,0),(5,0),(6,1),(7,2),(8,0)]<|gw (some 5) (.cells #[] 29) (fun b=>.slice (some ⟨b,0,none⟩) 0 0) hS fun b1 w1 hx1 hS1=>?_
 refine gb0 [1] [(6,.slice A0 l0.length c0)] ?_
 have hS2:=hS1.asRow (α:=SIns) (c:=0) ([]:List SIns) (Nat.le_refl _) (by decide) rfl rfl
 by_cases hc1:0+l0.length≤5864062014805
 ·rw [if_pos hc1] at h
  refine ge_appendL (α:=SIns) (m:=0) (d:=7) (t:=68) (el:=29) (bytes:=24) (c1:=c0) (A1:=A0) (x:=(.tmp 5)) (y:=(.tmp 6)) (ty:=68) (v:=(.slice (some ⟨b1,0,none⟩) 0 0)) (z:=.agg #[vI 0,vI 0,vI 0]) (l:=([]:List SIns)) (us:=l0) (by kernel_rfl) (by kernel_rfl) (by kernel_rfl) (by kernel_rfl) (by kernel_rfl) rfl hS2 (hS2.rd hR0) rfl (Nat.mul_le_of_le_div _ _ _ hc1) fun v1 w2 hS3=>?_
  have hS4:St w0 w2 [Own.of v1 29 l0]:=hS3
  rcases hq1:punctualref_moved.f K l1 (l0.length:Int) with _ | r1
  ·rw [hq1] at h; cases h
  rw [hq1] at h
  simp only [] at h
  refine gb0 [3,4,5] [(10,vI (l0.length:Int)),(9,.slice A0 l0.length c0),(8,.slice A1 l1.length c1)]<|ge_call (d:=some 11) (f:=115) (args:=#[.slice A1 l1.length c1,vI (l0.length:Int)]) (by kernel_rfl) (punctualref_moved_ok K l1 A1 c1 (l0.length:Int) _ (hS4.rd hR1) hL1 _ hq1) ?_
  rintro _ w3 ⟨v2,rfl,hS5⟩
  refine ⟨_,rfl,hS5.below,?_⟩
  have hS6:=hS4.call hS5
  obtain ⟨Z1,cz1,rfl⟩:=hS6.open 0 rfl
  have hS7:=hS6.b 1
  by_cases hc2:l0.length+r1.length≤5864062014805
  ·rw [if_pos hc2] at h
   refine ge_appendL (α:=SIns) (m:=0) (d:=12) (t:=68) (el:=29) (bytes:=24) (c1:=cz1) (A1:=Z1) (x:=(.tmp 7)) (y:=(.tmp 11)) (ty:=68) (v:=v1) (z:=.agg #[vI 0,vI 0,vI 0]) (l:=l0) (us:=r1) (by kernel_rfl) (by kernel_rfl) (by kernel_rfl) (by kernel_rfl) (by kernel_rfl) rfl hS7 (hS7.rdAt 1 rfl) rfl (Nat.mul_le_of_le_div _ _ _ hc2) fun v3 w4 hS8=>?_
   have hS9:St w0 w4 [Own.of v3 29 (l0++r1),ro Z1 cz1 29 r1]:=hS8
   refine gb0 [8] [(4,v3)]<|gn hK2 ?_
   have hS10:=hS9.takeN 1
   obtain rfl:=si h
   exact we_ret (pr0 [.tmp 4] [v3] ⟨v3,rfl,hS10⟩)
  rw [if_neg hc2] at h
  cases h
 rw [if_neg hc1] at h
 cases h

/-! punctual/punctualref.exprPiece -/
abbrev punctualref_exprPiece.Post (w0:World) (r:List SIns) (e:Ending) (w:World):Prop:=∃ (v0:Value),e=.returned (v0)∧St w0 w [Own.of v0 29 r]
abbrev punctualref_exprPiece.Rec (rec_punctualref_exprPiece:Int→Int→(List SExpr)→Option (List SIns)):Prop:=∀ (Z:Zone) (x0_0:Int) (x0_1:Int) (l0_2:List SExpr) (A0_2:OA) (c0_2:Nat) (w0:World) (hZ:∀ w,Sub w0 w→Z w) (hR0_2:RdZ Z A0_2 l0_2) (hL0_2:l0_2.length≤c0_2) (r:List SIns) (h:rec_punctualref_exprPiece x0_0 x0_1 l0_2=some r),Calls Try.prog 116 #[.agg #[vI x0_0,vI x0_1,.slice A0_2 l0_2.length c0_2]] w0 (punctualref_exprPiece.Post w0 r)
def punctualref_exprPiece.r0 (l0_2 : List SExpr) (rec_punctualref_exprPiece : Int → Int → (List SExpr) → Option (List SIns)) : (List SIns) × Nat → Option (((List SIns) × Nat) ⊕ ((List SIns) ⊕ (List SIns)))
 | (m1,i1) =>
  if (i1:Int)<(l0_2.length:Int) then
   match l0_2[i1]? with
   | none=>none
   | some e1 =>
    match rec_punctualref_exprPiece e1.Kind e1.N e1.A with
    | none=>none
    | some r1 =>
     if m1.length+r1.length≤5864062014805 then
      some (.inl ((m1++r1),(i1+1)))
     else
      none
  else
   some (.inr (.inl m1))
def punctualref_exprPiece.b (K : Nat) (rec_punctualref_exprPiece : Int → Int → (List SExpr) → Option (List SIns)) (x0_0 : Int) (x0_1 : Int) (l0_2 : List SExpr) : Option (List SIns) :=
 match iter (punctualref_exprPiece.r0 l0_2 rec_punctualref_exprPiece) K (([]:List SIns),0) with
 | none=>none
 | some (.inl m3) =>
  if x0_0=1 then
   some ([(⟨x0_0,x0_1,0⟩:SIns)]:List SIns)
  else
   if x0_0=2 then
    some ([(⟨x0_0,x0_1,0⟩:SIns)]:List SIns)
   else
    if x0_0=3 then
     some ([(⟨9,x0_1,0⟩:SIns)]:List SIns)
    else
     if x0_0=4 then
      if m3.length+4≤5864062014805 then
       some (m3++([(⟨1,0,0⟩:SIns),(⟨1,1,0⟩:SIns),(⟨5,0,0⟩:SIns),(⟨6,0,0⟩:SIns)]:List SIns))
      else
       none
     else
      if m3.length<5864062014805 then
       some (m3++[(⟨IntKind.i64.wrap (x0_0-1),0,0⟩:SIns)])
      else
       none
 | some (.inr rr1) =>
  some rr1
abbrev punctualref_exprPiece.A0 (w0:World) (x0_0 x0_1:Int) (l0_2:List SExpr) (A0_2:OA) (c0_2 b1:Nat):((List SIns)×Nat)→Act→World→Prop:=fun (s:(List SIns)×Nat) a w=>∃ (v1:Value),St w0 w [bk b1 #[vI x0_0,vI x0_1,.slice A0_2 l0_2.length c0_2] 45,Own.of v1 29 s.1]∧Frm 51 a [(1,pP b1 0),(3,v1),(7,.slice A0_2 l0_2.length c0_2),(8,vI (l0_2.length:Int)),(9,vI (s.2:Int))]
abbrev punctualref_exprPiece.B0 (w0:World) (x0_0 x0_1:Int) (l0_2:List SExpr) (A0_2:OA) (c0_2 b1:Nat):((List SIns) ⊕ (List SIns))→Exit→Act→World→Prop:=Exits 0 (fun (s:(List SIns)) a w=>∃ (v2:Value),St w0 w [bk b1 #[vI x0_0,vI x0_1,.slice A0_2 l0_2.length c0_2] 45,Own.of v2 29 s]∧Frm 51 a [(1,pP b1 0),(3,v2)]) (Rets Try.prog Try.f116 (punctualref_exprPiece.Post w0))
theorem punctualref_exprPiece_r0 (K:Nat) (w0:World) (Z:Zone) (x0_0 x0_1:Int) (l0_2:List SExpr) (A0_2:OA) (c0_2:Nat) (hZ:∀ w,Sub w0 w→Z w) (hR0_2:RdZ Z A0_2 l0_2) (hL0_2:l0_2.length≤c0_2) (rec_punctualref_exprPiece:Int→Int→(List SExpr)→Option (List SIns)) (hr_punctualref_exprPiece:punctualref_exprPiece.Rec rec_punctualref_exprPiece) (b1:Nat) (s:(List SIns)×Nat) (o:((List SIns)×Nat) ⊕ ((List SIns) ⊕ (List SIns))) (h:punctualref_exprPiece.r0 l0_2 rec_punctualref_exprPiece s=some o) (a:Act) (w:World) (hA:punctualref_exprPiece.A0 w0 x0_0 x0_1 l0_2 A0_2 c0_2 b1 s a w) (Q:Exit→Act→World→Prop) (hQ:∀ x a w,Outs (punctualref_exprPiece.A0 w0 x0_0 x0_1 l0_2 A0_2 c0_2 b1) (punctualref_exprPiece.B0 w0 x0_0 x0_1 l0_2 A0_2 c0_2 b1) o x a w→Q x a w):(subF Try.f116 [1,1,0,1,0,0]).wp Try.prog Q a w:=by
 obtain ⟨m1,i1⟩:=s
 obtain ⟨v1,hS,hF⟩:=hA
 replace hS:St w0 w [bk b1 #[vI x0_0,vI x0_1,.slice A0_2 l0_2.length c0_2] 45,Own.of v1 29 m1]:=hS
 simp only [punctualref_exprPiece.r0] at h
 refine (?_:WE Try.prog 51 (subF Try.f116 [1,1,0,1,0,0]) Q [(1,pP b1 0),(3,v1),(7,.slice A0_2 l0_2.length c0_2),(8,vI (l0_2.length:Int)),(9,vI (i1:Int))] w) a hF
 clear hF a
 refine ws fun K5 hK5=>wr [(0,0)]<|gb0 [0] [(10,.bool (decide ((i1:Int)<(l0_2.length:Int))))]<|gn hK5<|ws fun K6 hK6=>?_
 by_cases hc1:(i1:Int)<(l0_2.length:Int)
 ·rw [if_pos hc1] at h
  refine wk 10 (decide ((i1:Int)<(l0_2.length:Int))) true (decide_eq_true hc1)<|wt<|we_skip fun a hF=>hK6 _ _ ?_ a hF
  refine ws fun K7 hK7=>we_block<|ws fun K8 hK8=>wr [(0,0),(1,0),(2,1),(3,2)] ?_
  rcases hx2:l0_2[i1]? with _ | e1
  ·rw [hx2] at h; cases h
  rw [hx2] at h
  simp only [] at h
  obtain ⟨An1,cn1,hCs1,hLn1,hRn1⟩:=SExpr.getZ hR0_2 hx2
  refine gi 11 0 43 45 3 l0_2.length c0_2 (.tmp 7) (.tmp 9) A0_2 .i64 (i1:Int) i1 (hR0_2.eqSome (hZ _ hS.subw) (pos_of_get hx2)) rfl (lt_of_get hx2) ?_
  refine gb [1] [(12,.agg #[vI e1.Kind,vI e1.N,.slice An1 e1.A.length cn1])] [.loaded ⟨blkOf A0_2,offOf A0_2+i1*3,none⟩ (vI e1.Kind),.loaded ⟨blkOf A0_2,offOf A0_2+i1*3+1,none⟩ (vI e1.N),.loaded ⟨blkOf A0_2,offOf A0_2+i1*3+2,none⟩ (.slice An1 e1.A.length cn1)] ⟨hCs1 _ (hZ _ hS.subw) 0 _ rfl,hCs1 _ (hZ _ hS.subw) 1 _ rfl,hCs1 _ (hZ _ hS.subw) 2 _ rfl,trivial⟩<|gw (some 5) (.cells #[vI 0,vI 0,.slice none 0 0] 45) (fun b=>pP b 0) hS fun b2 w2 hx3 hS4=>?_
  refine gs b2 0 #[vI 0,vI 0,.slice none 0 0] 45 [vI e1.Kind,vI e1.N,.slice An1 e1.A.length cn1] hS4 fun w3 hS5=>?_
  have hS6:=hS5.nc #[vI e1.Kind,vI e1.N,.slice An1 e1.A.length cn1] (by kernel_rfl)
  refine gn hK8<|wr [(0,0),(1,0),(2,1),(3,2),(4,0)] ?_
  rcases hq1:rec_punctualref_exprPiece e1.Kind e1.N e1.A with _ | r1
  ·rw [hq1] at h; cases h
  rw [hq1] at h
  simp only [] at h
  refine gb [0,1] [(14,.agg #[vI e1.Kind,vI e1.N,.slice An1 e1.A.length cn1]),(13,v1)] [ld b2 0 (vI e1.Kind),ld b2 1 (vI e1.N),ld b2 2 (.slice An1 e1.A.length cn1)] ⟨hS6.c 0,hS6.c 0,hS6.c 0,trivial⟩<|ge_call (d:=some 15) (f:=116) (args:=#[.agg #[vI e1.Kind,vI e1.N,.slice An1 e1.A.length cn1]]) (by kernel_rfl) (hr_punctualref_exprPiece Z e1.Kind e1.N e1.A An1 cn1 _ (fun w' k=>(hZ w' (hS6.subw.trans k))) hRn1 hLn1 _ hq1) ?_
  rintro _ w4 ⟨v3,rfl,hS7⟩
  refine ⟨_,rfl,hS7.below,?_⟩
  have hS8:=hS6.call hS7
  obtain ⟨Z1,cz1,rfl⟩:=hS8.open 0 rfl
  have hS9:=hS8.b 3
  by_cases hc2:m1.length+r1.length≤5864062014805
  ·rw [if_pos hc2] at h
   refine ge_appendL (α:=SIns) (m:=0) (d:=16) (t:=68) (el:=29) (bytes:=24) (c1:=cz1) (A1:=Z1) (x:=(.tmp 13)) (y:=(.tmp 15)) (ty:=68) (v:=v1) (z:=.agg #[vI 0,vI 0,vI 0]) (l:=m1) (us:=r1) (by kernel_rfl) (by kernel_rfl) (by kernel_rfl) (by kernel_rfl) (by kernel_rfl) rfl hS9 (hS9.rdAt 1 rfl) rfl (Nat.mul_le_of_le_div _ _ _ hc2) fun v4 w5 hS10=>?_
   have hS11:St w0 w5 [Own.of v4 29 (m1++r1),ro Z1 cz1 29 r1,bk b2 #[vI e1.Kind,vI e1.N,.slice An1 e1.A.length cn1] 45,bk b1 #[vI x0_0,vI x0_1,.slice A0_2 l0_2.length c0_2] 45]:=hS10
   refine gb0 [4] [(3,v4)]<|gn hK7<|wr [(0,0),(1,0)]<|ge_addn (d:=17) (ty:=3) (x:=(.tmp 9)) (y:=(.const (vI 1))) (t:=3) (t2:=3) (k:=.i64) (m:=i1) (by kernel_rfl) (by kernel_rfl) (by kernel_rfl) (by have h0:=RdZ.small hR0_2 (hZ _ hS11.subw); omega) ?_
   refine gb0 [1] [(9,vI ((i1+1:Nat):Int))] ?_
   have hS13:=hS11.p [3,0] rfl
   obtain rfl:=si h
   exact ge_nil fun a hF=>hQ _ _ _ (Outs.again ⟨v4,hS13,hF.weaken ea⟩)
  rw [if_neg hc2] at h
  cases h
 rw [if_neg hc1] at h
 refine wk 10 (decide ((i1:Int)<(l0_2.length:Int))) false (decide_eq_false hc1)<|wf ?_
 have hS15:=(hS.b 1).b 1
 obtain rfl:=si h
 exact we_exit fun a hF=>hQ _ _ _ (Outs.out nofun (Exits.here ⟨v1,hS15,hF.weaken ea⟩))
theorem punctualref_exprPiece_step (K:Nat) (rec_punctualref_exprPiece:Int→Int→(List SExpr)→Option (List SIns)) (hr_punctualref_exprPiece:punctualref_exprPiece.Rec rec_punctualref_exprPiece) (Z:Zone) (x0_0 x0_1:Int) (l0_2:List SExpr) (A0_2:OA) (c0_2:Nat) (w0:World) (hZ:∀ w,Sub w0 w→Z w) (hR0_2:RdZ Z A0_2 l0_2) (hL0_2:l0_2.length≤c0_2) (r:List SIns) (h:punctualref_exprPiece.b K rec_punctualref_exprPiece x0_0 x0_1 l0_2=some r) :
  Calls Try.prog 116 #[.agg #[vI x0_0,vI x0_1,.slice A0_2 l0_2.length c0_2]] w0 (punctualref_exprPiece.Post w0 r):=by
 have hS:=St.start w0
 unfold punctualref_exprPiece.b at h
 refine calls_enter (n:=51) (args:=[.agg #[vI x0_0,vI x0_1,.slice A0_2 l0_2.length c0_2]]) (fn:=Try.f116) rfl rfl rfl rfl ?_
 show WE _ _ _ _ [(0,.agg #[vI x0_0,vI x0_1,.slice A0_2 l0_2.length c0_2])] _
 refine ws fun K1 hK1=>wr [(0,1),(1,0)]<|gw (some 1) (.cells #[vI x0_0,vI x0_1,.slice A0_2 l0_2.length c0_2] 45) (fun b=>pP b 0) hS fun b1 w1 hx1 hS1=>?_
 refine gb0 [1] [(2,.slice none 0 0)]<|gn hK1<|ws fun K2 hK2=>wr [(0,0)]<|gb0 [0] [(3,.slice none 0 0)]<|gn hK2<|ws fun K3 hK3=>ws fun K4 hK4=>wr [(0,0),(1,0),(2,0),(3,0)]<|gb [0,1,2,3] [(9,vI 0),(8,vI (l0_2.length:Int)),(7,.slice A0_2 l0_2.length c0_2),(6,pP b1 2)] [ld b1 2 (.slice A0_2 l0_2.length c0_2)] ⟨hS1.c 0,trivial⟩<|gn hK4<|we_block ?_
 have hS3:=(hS1.nil (α:=SIns) 29).b 1
 rcases hq2:iter (punctualref_exprPiece.r0 l0_2 rec_punctualref_exprPiece) K (([]:List SIns),0) with _ | (m3 | rr1)
 ·rw [hq2] at h; cases h
 ·rw [hq2] at h
  simp only [] at h
  refine we_iter (A:=punctualref_exprPiece.A0 w0 x0_0 x0_1 l0_2 A0_2 c0_2 b1) (B:=punctualref_exprPiece.B0 w0 x0_0 x0_1 l0_2 A0_2 c0_2 b1) hq2 (fun a hF=>⟨(.slice none 0 0),hS3,hF.weaken ea⟩) (fun s o hf a w hA Q hQ=>punctualref_exprPiece_r0 K w0 Z x0_0 x0_1 l0_2 A0_2 c0_2 hZ hR0_2 hL0_2 rec_punctualref_exprPiece hr_punctualref_exprPiece b1 s o hf a w hA Q hQ) ?_
  rintro _ a w6 _ ⟨rfl,v5,hS16,hF⟩
  replace hS16:St w0 w6 [bk b1 #[vI x0_0,vI x0_1,.slice A0_2 l0_2.length c0_2] 45,Own.of v5 29 m3]:=hS16
  refine hK3 [(1,pP b1 0),(3,v5)] w6 ?_ a hF
  refine ws fun K9 hK9=>ws fun K10 hK10=>wr [(0,0),(1,0)]<|gb [0,1] [(19,vI x0_0),(18,pP b1 0)] [ld b1 0 (vI x0_0)] ⟨hS16.c 0,trivial⟩<|gn hK10<|we_block<|ws fun K11 hK11=>ws fun K12 hK12=>wr [(0,0),(1,0)]<|gb0 [0,1] [(20,.bool (x0_0==1)),(21,.bool (x0_0==1))]<|gn hK12 ?_
  by_cases hc3:x0_0=1
  ·rw [if_pos hc3] at h
   refine wk 20 (x0_0==1) true (beq_iff_eq.2 hc3)<|wt<|we_skip fun a hF=>hK11 _ _ ?_ a hF
   refine wt<|ws fun K13 hK13=>wr [(0,0),(1,0),(2,0),(3,0),(4,0),(5,1),(6,0)]<|gb [0,1,2,3,4] [(27,.agg #[vI x0_0,vI x0_1,vI 0]),(26,vI x0_1),(25,pP b1 1),(24,vI x0_0),(23,pP b1 0)] [ld b1 0 (vI x0_0),ld b1 1 (vI x0_1)] ⟨hS16.c 0,hS16.c 0,trivial⟩<|gw (some 28) (.cells #[vI x0_0,vI x0_1,vI 0] 29) (fun b=>.slice (some ⟨b,0,none⟩) 1 1) hS16 fun b3 w7 hx4 hS17=>?_
   refine gb0 [6] [(2,.slice (some ⟨b3,0,none⟩) 1 1)]<|gn hK13 ?_
   have hS19:=(hS17.asRow (α:=SIns) (c:=1) ([(⟨x0_0,x0_1,0⟩:SIns)]:List SIns) (Nat.le_refl _) (by decide) rfl rfl).takeN 1
   obtain rfl:=si h
   exact we_ret (pr0 [.tmp 2] [(.slice (some ⟨b3,0,none⟩) 1 1)] ⟨(.slice (some ⟨b3,0,none⟩) 1 1),rfl,hS19⟩)
  rw [if_neg hc3] at h
  refine wk 20 (x0_0==1) false (beq_eq_false_iff_ne.2 hc3)<|wf<|wr [(0,0),(1,0)]<|gb0 [0,1] [(20,.bool (x0_0==2)),(22,.bool (x0_0==2))]<|gn hK11 ?_
  by_cases hc4:x0_0=2
  ·rw [if_pos hc4] at h
   refine wk 20 (x0_0==2) true (beq_iff_eq.2 hc4)<|wt<|ws fun K14 hK14=>wr [(0,0),(1,0),(2,0),(3,0),(4,0),(5,1),(6,0)]<|gb [0,1,2,3,4] [(27,.agg #[vI x0_0,vI x0_1,vI 0]),(26,vI x0_1),(25,pP b1 1),(24,vI x0_0),(23,pP b1 0)] [ld b1 0 (vI x0_0),ld b1 1 (vI x0_1)] ⟨hS16.c 0,hS16.c 0,trivial⟩<|gw (some 28) (.cells #[vI x0_0,vI x0_1,vI 0] 29) (fun b=>.slice (some ⟨b,0,none⟩) 1 1) hS16 fun b4 w8 hx5 hS20=>?_
   refine gb0 [6] [(2,.slice (some ⟨b4,0,none⟩) 1 1)]<|gn hK14 ?_
   have hS22:=(hS20.asRow (α:=SIns) (c:=1) ([(⟨x0_0,x0_1,0⟩:SIns)]:List SIns) (Nat.le_refl _) (by decide) rfl rfl).takeN 1
   obtain rfl:=si h
   exact we_ret (pr0 [.tmp 2] [(.slice (some ⟨b4,0,none⟩) 1 1)] ⟨(.slice (some ⟨b4,0,none⟩) 1 1),rfl,hS22⟩)
  rw [if_neg hc4] at h
  refine wk 20 (x0_0==2) false (beq_eq_false_iff_ne.2 hc4)<|wf<|ws fun K15 hK15=>wr [(0,0),(1,0)]<|gb0 [0,1] [(29,.bool (x0_0==3)),(30,.bool (x0_0==3))]<|gn hK15 ?_
  by_cases hc5:x0_0=3
  ·rw [if_pos hc5] at h
   refine wk 29 (x0_0==3) true (beq_iff_eq.2 hc5)<|wt<|ws fun K16 hK16=>wr [(0,0),(1,0),(2,0),(3,1),(4,0)]<|gb [0,1,2] [(33,.agg #[vI 9,vI x0_1,vI 0]),(32,vI x0_1),(31,pP b1 1)] [ld b1 1 (vI x0_1)] ⟨hS16.c 0,trivial⟩<|gw (some 34) (.cells #[vI 9,vI x0_1,vI 0] 29) (fun b=>.slice (some ⟨b,0,none⟩) 1 1) hS16 fun b5 w9 hx6 hS23=>?_
   refine gb0 [4] [(2,.slice (some ⟨b5,0,none⟩) 1 1)]<|gn hK16 ?_
   have hS25:=(hS23.asRow (α:=SIns) (c:=1) ([(⟨9,x0_1,0⟩:SIns)]:List SIns) (Nat.le_refl _) (by decide) rfl rfl).takeN 1
   obtain rfl:=si h
   exact we_ret (pr0 [.tmp 2] [(.slice (some ⟨b5,0,none⟩) 1 1)] ⟨(.slice (some ⟨b5,0,none⟩) 1 1),rfl,hS25⟩)
  rw [if_neg hc5] at h
  refine wk 29 (x0_0==3) false (beq_eq_false_iff_ne.2 hc5)<|wf<|ws fun K17 hK17=>wr [(0,0),(1,0)]<|gb0 [0,1] [(35,.bool (x0_0==4)),(36,.bool (x0_0==4))]<|gn hK17 ?_
  by_cases hc6:x0_0=4
  ·rw [if_pos hc6] at h
   refine wk 35 (x0_0==4) true (beq_iff_eq.2 hc6)<|wt<|ws fun K18 hK18=>wr [(0,0),(1,0),(2,0),(3,0),(4,0),(5,1),(6,2),(7,0)]<|gb0 [0,1,2,3,4] [(41,.agg #[vI 6,vI 0,vI 0]),(40,.agg #[vI 5,vI 0,vI 0]),(39,.agg #[vI 1,vI 1,vI 0]),(38,.agg #[vI 1,vI 0,vI 0]),(37,v5)]<|gw (some 42) (.cells #[vI 1,vI 0,vI 0,vI 1,vI 1,vI 0,vI 5,vI 0,vI 0,vI 6,vI 0,vI 0] 29) (fun b=>.slice (some ⟨b,0,none⟩) 4 4) hS16 fun b6 w10 hx7 hS26=>?_
   have hS27:=hS26.b 2
   by_cases hc7:m3.length+4≤5864062014805
   ·rw [if_pos hc7] at h
    refine ge_appendL (α:=SIns) (m:=0) (d:=43) (t:=68) (el:=29) (bytes:=24) (c1:=4) (A1:=(some ⟨b6,0,none⟩)) (x:=(.tmp 37)) (y:=(.tmp 42)) (ty:=68) (v:=v5) (z:=.agg #[vI 0,vI 0,vI 0]) (l:=m3) (us:=([(⟨1,0,0⟩:SIns),(⟨1,1,0⟩:SIns),(⟨5,0,0⟩:SIns),(⟨6,0,0⟩:SIns)]:List SIns)) (by kernel_rfl) (by kernel_rfl) (by kernel_rfl) (by kernel_rfl) (by kernel_rfl) rfl hS27 (hS27.rdBlk 1 ([(⟨1,0,0⟩:SIns),(⟨1,1,0⟩:SIns),(⟨5,0,0⟩:SIns),(⟨6,0,0⟩:SIns)]:List SIns) rfl rfl rfl) rfl (Nat.mul_le_of_le_div _ _ _ hc7) fun v6 w11 hS28=>?_
    have hS29:St w0 w11 [Own.of v6 29 (m3++([(⟨1,0,0⟩:SIns),(⟨1,1,0⟩:SIns),(⟨5,0,0⟩:SIns),(⟨6,0,0⟩:SIns)]:List SIns)),bk b6 #[vI 1,vI 0,vI 0,vI 1,vI 1,vI 0,vI 5,vI 0,vI 0,vI 6,vI 0,vI 0] 29,bk b1 #[vI x0_0,vI x0_1,.slice A0_2 l0_2.length c0_2] 45]:=hS28
    refine gb0 [7] [(2,v6)]<|gn hK18 ?_
    have hS30:=hS29.takeN 1
    obtain rfl:=si h
    exact we_ret (pr0 [.tmp 2] [v6] ⟨v6,rfl,hS30⟩)
   rw [if_neg hc7] at h
   cases h
  rw [if_neg hc6] at h
  refine wk 35 (x0_0==4) false (beq_eq_false_iff_ne.2 hc6)<|wf<|we_skip fun a hF=>hK9 _ _ ?_ a hF
  refine ws fun K19 hK19=>wr [(0,0),(1,0),(2,0),(3,0),(4,0),(5,1),(6,2),(7,0)]<|gb [0,1,2,3,4] [(48,.agg #[vI (IntKind.i64.wrap (x0_0-1)),vI 0,vI 0]),(47,vI (IntKind.i64.wrap (x0_0-1))),(46,vI x0_0),(45,pP b1 0),(44,v5)] [ld b1 0 (vI x0_0)] ⟨hS16.c 0,trivial⟩<|gw (some 49) (.cells #[vI (IntKind.i64.wrap (x0_0-1)),vI 0,vI 0] 29) (fun b=>.slice (some ⟨b,0,none⟩) 1 1) hS16 fun b7 w12 hx8 hS31=>?_
  have hS32:=hS31.b 2
  by_cases hc8:m3.length<5864062014805
  ·rw [if_pos hc8] at h
   refine ge_append (α:=SIns) (m:=0) (d:=50) (t:=68) (el:=29) (bytes:=24) (c1:=1) (b1:=b7) (x:=(.tmp 44)) (y:=(.tmp 49)) (ty:=68) (v:=v5) (z:=.agg #[vI 0,vI 0,vI 0]) (l:=m3) (u:=(⟨IntKind.i64.wrap (x0_0-1),0,0⟩:SIns)) (by kernel_rfl) (by kernel_rfl) (by kernel_rfl) (by kernel_rfl) (by kernel_rfl) rfl hS32 rfl (by omega) fun v7 w13 hS33=>?_
   refine gb0 [7] [(2,v7)]<|gn hK19 ?_
   have hS34:=hS33.takeN 1
   obtain rfl:=si h
   exact we_ret (pr0 [.tmp 2] [v7] ⟨v7,rfl,hS34⟩)
  rw [if_neg hc8] at h
  cases h
 rw [hq2] at h
 simp only [] at h
 refine we_iter (A:=punctualref_exprPiece.A0 w0 x0_0 x0_1 l0_2 A0_2 c0_2 b1) (B:=punctualref_exprPiece.B0 w0 x0_0 x0_1 l0_2 A0_2 c0_2 b1) hq2 (fun a hF=>⟨(.slice none 0 0),hS3,hF.weaken ea⟩) (fun s o hf a w hA Q hQ=>punctualref_exprPiece_r0 K w0 Z x0_0 x0_1 l0_2 A0_2 c0_2 hZ hR0_2 hL0_2 rec_punctualref_exprPiece hr_punctualref_exprPiece b1 s o hf a w hA Q hQ) ?_
 rintro _ a w1 _ ⟨rfl,hb⟩
 obtain rfl:=si h
 exact hb
def punctualref_exprPiece.recs (K : Nat) : Nat → (Int → Int → (List SExpr) → Option (List SIns))
 | 0=>fun _ _ _=>none
 | n+1=>punctualref_exprPiece.b K (punctualref_exprPiece.recs K n)
theorem punctualref_exprPiece_all (K n:Nat):punctualref_exprPiece.Rec (punctualref_exprPiece.recs K n):=by
 induction n with
 | zero=>exact (by unfold punctualref_exprPiece.Rec; intros; rename_i h; cases (show none=some _ from h))
 | succ n ih=>exact punctualref_exprPiece_step K _ ih
def punctualref_exprPiece.f (K : Nat) (x0_0 : Int) (x0_1 : Int) (l0_2 : List SExpr) : Option (List SIns) := (punctualref_exprPiece.recs K K) x0_0 x0_1 l0_2
theorem punctualref_exprPiece_ok (K:Nat) (Z:Zone) (x0_0 x0_1:Int) (l0_2:List SExpr) (A0_2:OA) (c0_2:Nat) (w0:World) (hZ:∀ w,Sub w0 w→Z w) (hR0_2:RdZ Z A0_2 l0_2) (hL0_2:l0_2.length≤c0_2) (r:List SIns) (h:punctualref_exprPiece.f K x0_0 x0_1 l0_2=some r):Calls Try.prog 116 #[.agg #[vI x0_0,vI x0_1,.slice A0_2 l0_2.length c0_2]] w0 (punctualref_exprPiece.Post w0 r):=(punctualref_exprPiece_all K K) Z x0_0 x0_1 l0_2 A0_2 c0_2 w0 hZ hR0_2 hL0_2 r h

/-! punctual/punctualref.condPiece -/
abbrev punctualref_condPiece.Post (w0:World) (r:List SIns) (e:Ending) (w:World):Prop:=∃ (v0:Value),e=.returned (v0)∧St w0 w [Own.of v0 29 r]
def punctualref_condPiece.p0 (K : Nat) (x0_1_0 : Int) (x0_1_1 : Int) (l0_1_2 : List SExpr) (x0_2_0 : Int) (x0_2_1 : Int) (l0_2_2 : List SExpr) : Option ((List SIns) ⊕ (List SIns)) :=
  match punctualref_exprPiece.f K x0_1_0 x0_1_1 l0_1_2 with
  | none=>none
  | some r1 =>
   match punctualref_exprPiece.f K x0_2_0 x0_2_1 l0_2_2 with
   | none=>none
   | some r2 =>
    if r1.length+r2.length≤5864062014805 then
     some (.inl (r1++r2))
    else
     none
def punctualref_condPiece.f (K : Nat) (x0_0 : Int) (x0_1_0 : Int) (x0_1_1 : Int) (l0_1_2 : List SExpr) (x0_2_0 : Int) (x0_2_1 : Int) (l0_2_2 : List SExpr) : Option (List SIns) :=
 match punctualref_condPiece.p0 K x0_1_0 x0_1_1 l0_1_2 x0_2_0 x0_2_1 l0_2_2 with
 | none=>none
 | some (.inl m2) =>
  if x0_0=2 then
   if m2.length<5864062014805 then
    if x0_0 ≥ 3 then
     if (m2++[(⟨8,0,0⟩:SIns)]).length+2≤5864062014805 then
      some ((m2++[(⟨8,0,0⟩:SIns)])++([(⟨1,0,0⟩:SIns),(⟨8,0,0⟩:SIns)]:List SIns))
     else
      none
    else
     some (m2++[(⟨8,0,0⟩:SIns)])
   else
    none
  else
   if x0_0=3 then
    if m2.length<5864062014805 then
     if x0_0 ≥ 3 then
      if (m2++[(⟨8,0,0⟩:SIns)]).length+2≤5864062014805 then
       some ((m2++[(⟨8,0,0⟩:SIns)])++([(⟨1,0,0⟩:SIns),(⟨8,0,0⟩:SIns)]:List SIns))
      else
       none
     else
      some (m2++[(⟨8,0,0⟩:SIns)])
    else
     none
   else
    if m2.length<5864062014805 then
     if x0_0 ≥ 3 then
      if (m2++[(⟨7,0,0⟩:SIns)]).length+2≤5864062014805 then
       some ((m2++[(⟨7,0,0⟩:SIns)])++([(⟨1,0,0⟩:SIns),(⟨8,0,0⟩:SIns)]:List SIns))
      else
       none
     else
      some (m2++[(⟨7,0,0⟩:SIns)])
    else
     none
 | some (.inr rr1) =>
  some rr1
abbrev punctualref_condPiece.A0 (w0:World) (x0_0 x0_1_0 x0_1_1:Int) (l0_1_2:List SExpr) (A0_1_2:OA) (c0_1_2:Nat) (x0_2_0 x0_2_1:Int) (l0_2_2:List SExpr) (A0_2_2:OA) (c0_2_2 b1:Nat):(List SIns)→Act→World→Prop:=fun (s:(List SIns)) a w=>∃ (v1:Value),St w0 w [bk b1 #[vI x0_0,vI x0_1_0,vI x0_1_1,.slice A0_1_2 l0_1_2.length c0_1_2,vI x0_2_0,vI x0_2_1,.slice A0_2_2 l0_2_2.length c0_2_2] 47,Own.of v1 29 s]∧Frm 34 a [(1,pP b1 0),(3,v1)]
abbrev punctualref_condPiece.B0 (w0:World):(List SIns)→Exit→Act→World→Prop:=Rets Try.prog Try.f117 (punctualref_condPiece.Post w0)
theorem punctualref_condPiece_p0 (K:Nat) (w0:World) (Z:Zone) (x0_0 x0_1_0 x0_1_1:Int) (l0_1_2:List SExpr) (A0_1_2:OA) (c0_1_2:Nat) (x0_2_0 x0_2_1:Int) (l0_2_2:List SExpr) (A0_2_2:OA) (c0_2_2:Nat) (hZ:∀ w,Sub w0 w→Z w) (hR0_1_2:RdZ Z A0_1_2 l0_1_2) (hL0_1_2:l0_1_2.length≤c0_1_2) (hR0_2_2:RdZ Z A0_2_2 l0_2_2) (hL0_2_2:l0_2_2.length≤c0_2_2) (b1:Nat) (o:(List SIns) ⊕ (List SIns)) (h:punctualref_condPiece.p0 K x0_1_0 x0_1_1 l0_1_2 x0_2_0 x0_2_1 l0_2_2=some o) (w:World) (hS:St w0 w [bk b1 #[vI x0_0,vI x0_1_0,vI x0_1_1,.slice A0_1_2 l0_1_2.length c0_1_2,vI x0_2_0,vI x0_2_1,.slice A0_2_2 l0_2_2.length c0_2_2] 47]) (Q:Exit→Act→World→Prop) (hQ:∀ x a w,Outs (punctualref_condPiece.A0 w0 x0_0 x0_1_0 x0_1_1 l0_1_2 A0_1_2 c0_1_2 x0_2_0 x0_2_1 l0_2_2 A0_2_2 c0_2_2 b1) (punctualref_condPiece.B0 w0) o x a w→Q x a w):WE Try.prog 34 (subF Try.f117 [1,0]) Q [(0,.agg #[vI x0_0,vI x0_1_0,vI x0_1_1,.slice A0_1_2 l0_1_2.length c0_1_2,vI x0_2_0,vI x0_2_1,.slice A0_2_2 l0_2_2.length c0_2_2]),(1,pP b1 0),(2,.slice none 0 0)] w:=by
 simp only [punctualref_condPiece.p0] at h
 refine we_orders3 (by kernel_rfl) [(1,[⟨b1,1,none⟩,⟨b1,2,none⟩,⟨b1,3,none⟩],[2,5,6],[]),(4,[⟨b1,4,none⟩,⟨b1,5,none⟩,⟨b1,6,none⟩],[5,6],[])] (.vals [0] (.vals [1] (.vals [3] (.vals [4] (.alt 2 1 (.alt 5 1 (.alt 6 2 (.vals [7] .fin) .nomore) .nomore) .nomore))))) (by kernel_rfl) (by kernel_rfl) ?_
 have hS2:=hS.drew
 refine g30 [0] [(5,pP b1 1)]<|g3 1 [(6,.agg #[vI x0_1_0,vI x0_1_1,.slice A0_1_2 l0_1_2.length c0_1_2])] [ld b1 1 (vI x0_1_0),ld b1 2 (vI x0_1_1),ld b1 3 (.slice A0_1_2 l0_1_2.length c0_1_2)] ⟨hS2.c 0,hS2.c 0,hS2.c 0,trivial⟩<|g30 [3] [(8,pP b1 4)]<|g3 4 [(9,.agg #[vI x0_2_0,vI x0_2_1,.slice A0_2_2 l0_2_2.length c0_2_2])] [ld b1 4 (vI x0_2_0),ld b1 5 (vI x0_2_1),ld b1 6 (.slice A0_2_2 l0_2_2.length c0_2_2)] ⟨hS2.c 0,hS2.c 0,hS2.c 0,trivial⟩<|go_alt3 (fun KK hKK=>?_) ?_
 ·refine ge_one2 ?_
  rcases hq1:punctualref_exprPiece.f K x0_1_0 x0_1_1 l0_1_2 with _ | r1
  ·rw [hq1] at h; cases h
  rw [hq1] at h
  simp only [] at h
  refine ge_call (d:=some 7) (f:=116) (args:=#[.agg #[vI x0_1_0,vI x0_1_1,.slice A0_1_2 l0_1_2.length c0_1_2]]) (by kernel_rfl) (punctualref_exprPiece_ok K Z x0_1_0 x0_1_1 l0_1_2 A0_1_2 c0_1_2 _ (fun w' k=>(hZ w' (hS2.subw.trans k))) hR0_1_2 hL0_1_2 _ hq1) ?_
  rintro _ w2 ⟨v2,rfl,hS3⟩
  refine ⟨_,rfl,hS3.below,?_⟩
  have hS4:=hS2.call hS3
  refine ge_nil fun a hF=>hKK _ _ (RS.of2 (l:=[ld b1 4 (vI x0_2_0),ld b1 5 (vI x0_2_1),ld b1 6 (.slice A0_2_2 l0_2_2.length c0_2_2)]) (by kernel_rfl) ⟨hS2.c 0,hS2.c 0,hS2.c 0,trivial⟩ ⟨hS4.c 1,hS4.c 1,hS4.c 1,trivial⟩) ?_ a hF
  refine go_alt3 (fun KK hKK=>?_) ?_
  ·refine ge_one2 ?_
   rcases hq2:punctualref_exprPiece.f K x0_2_0 x0_2_1 l0_2_2 with _ | r2
   ·rw [hq2] at h; cases h
   rw [hq2] at h
   simp only [] at h
   refine ge_call (d:=some 10) (f:=116) (args:=#[.agg #[vI x0_2_0,vI x0_2_1,.slice A0_2_2 l0_2_2.length c0_2_2]]) (by kernel_rfl) (punctualref_exprPiece_ok K Z x0_2_0 x0_2_1 l0_2_2 A0_2_2 c0_2_2 _ (fun w' k=>(hZ w' (hS4.subw.trans k))) hR0_2_2 hL0_2_2 _ hq2) ?_
   rintro _ w3 ⟨v3,rfl,hS5⟩
   refine ⟨_,rfl,hS5.below,?_⟩
   have hS6:=hS4.call hS5
   refine g2 hKK<|go_alt3 (fun KK hKK=>?_) ?_
   ·obtain ⟨Z1,cz1,rfl⟩:=hS6.open 0 rfl
    have hS7:=hS6.b 1
    by_cases hc1:r1.length+r2.length≤5864062014805
    ·rw [if_pos hc1] at h
     refine ge_appendL (α:=SIns) (m:=0) (d:=11) (t:=68) (el:=29) (bytes:=24) (c1:=cz1) (A1:=Z1) (x:=(.tmp 7)) (y:=(.tmp 10)) (ty:=68) (v:=v2) (z:=.agg #[vI 0,vI 0,vI 0]) (l:=r1) (us:=r2) (by kernel_rfl) (by kernel_rfl) (by kernel_rfl) (by kernel_rfl) (by kernel_rfl) rfl hS7 (hS7.rdAt 1 rfl) rfl (Nat.mul_le_of_le_div _ _ _ hc1) fun v4 w4 hS8=>?_
     have hS9:St w0 w4 [Own.of v4 29 (r1++r2),ro Z1 cz1 29 r2,bk b1 #[vI x0_0,vI x0_1_0,vI x0_1_1,.slice A0_1_2 l0_1_2.length c0_1_2,vI x0_2_0,vI x0_2_1,.slice A0_2_2 l0_2_2.length c0_2_2] 47]:=hS8
     refine g2 hKK<|g30 [7] [(3,v4)] ?_
     have hS11:=hS9.p [2,0] rfl
     obtain rfl:=si h
     exact go_fin3 fun a hF=>hQ _ _ _ (Outs.again ⟨v4,hS11,hF.weaken ea⟩)
    rw [if_neg hc1] at h
    cases h
   exact go_nomore3
  exact go_nomore3
 exact go_nomore3
theorem punctualref_condPiece_ok (K:Nat) (Z:Zone) (x0_0 x0_1_0 x0_1_1:Int) (l0_1_2:List SExpr) (A0_1_2:OA) (c0_1_2:Nat) (x0_2_0 x0_2_1:Int) (l0_2_2:List SExpr) (A0_2_2:OA) (c0_2_2:Nat) (w0:World) (hZ:∀ w,Sub w0 w→Z w) (hR0_1_2:RdZ Z A0_1_2 l0_1_2) (hL0_1_2:l0_1_2.length≤c0_1_2) (hR0_2_2:RdZ Z A0_2_2 l0_2_2) (hL0_2_2:l0_2_2.length≤c0_2_2) (r:List SIns) (h:punctualref_condPiece.f K x0_0 x0_1_0 x0_1_1 l0_1_2 x0_2_0 x0_2_1 l0_2_2=some r) :
  Calls Try.prog 117 #[.agg #[vI x0_0,vI x0_1_0,vI x0_1_1,.slice A0_1_2 l0_1_2.length c0_1_2,vI x0_2_0,vI x0_2_1,.slice A0_2_2 l0_2_2.length c0_2_2]] w0 (punctualref_condPiece.Post w0 r):=by
 have hS:=St.start w0
 unfold punctualref_condPiece.f at h
 refine calls_enter (n:=34) (args:=[.agg #[vI x0_0,vI x0_1_0,vI x0_1_1,.slice A0_1_2 l0_1_2.length c0_1_2,vI x0_2_0,vI x0_2_1,.slice A0_2_2 l0_2_2.length c0_2_2]]) (fn:=Try.f117) rfl rfl rfl rfl ?_
 show WE _ _ _ _ [(0,.agg #[vI x0_0,vI x0_1_0,vI x0_1_1,.slice A0_1_2 l0_1_2.length c0_1_2,vI x0_2_0,vI x0_2_1,.slice A0_2_2 l0_2_2.length c0_2_2])] _
 refine ws fun K1 hK1=>wr [(0,1),(1,0)]<|gw (some 1) (.cells #[vI x0_0,vI x0_1_0,vI x0_1_1,.slice A0_1_2 l0_1_2.length c0_1_2,vI x0_2_0,vI x0_2_1,.slice A0_2_2 l0_2_2.length c0_2_2] 47) (fun b=>pP b 0) hS fun b1 w1 hx1 hS1=>?_
 refine gb0 [1] [(2,.slice none 0 0)]<|gn hK1<|ws fun K2 hK2=>?_
 rcases hq3:punctualref_condPiece.p0 K x0_1_0 x0_1_1 l0_1_2 x0_2_0 x0_2_1 l0_2_2 with _ | (m2 | rr1)
 ·rw [hq3] at h; cases h
 ·rw [hq3] at h
  simp only [] at h
  refine kp (punctualref_condPiece_p0 K w0 Z x0_0 x0_1_0 x0_1_1 l0_1_2 A0_1_2 c0_1_2 x0_2_0 x0_2_1 l0_2_2 A0_2_2 c0_2_2 hZ hR0_1_2 hL0_1_2 hR0_2_2 hL0_2_2 b1 _ hq3 _ hS1 _ ?_)
  rintro _ a w5 ⟨rfl,v5,hS12,hF⟩
  replace hS12:St w0 w5 [bk b1 #[vI x0_0,vI x0_1_0,vI x0_1_1,.slice A0_1_2 l0_1_2.length c0_1_2,vI x0_2_0,vI x0_2_1,.slice A0_2_2 l0_2_2.length c0_2_2] 47,Own.of v5 29 m2]:=hS12
  refine hK2 [(1,pP b1 0),(3,v5)] w5 ?_ a hF
  refine ws fun K3 hK3=>wr [(0,0)]<|gb0 [0] [(4,vI 7)]<|gn hK3<|ws fun K4 hK4=>ws fun K5 hK5=>wr [(0,0),(1,0),(2,0),(3,0),(4,0),(5,0),(6,0),(7,0)]<|gb [0,1,2,3] [(15,.bool (x0_0==2)),(14,.bool (x0_0==2)),(13,vI x0_0),(12,pP b1 0)] [ld b1 0 (vI x0_0)] ⟨hS12.c 0,trivial⟩ ?_
  by_cases hc2:x0_0=2
  ·rw [if_pos hc2] at h
   refine gk 15 (x0_0==2) true (beq_iff_eq.2 hc2)<|gb0 [4,5,6,7] [(19,.bool true),(18,undef),(17,undef),(16,undef)]<|gn hK5<|wt<|wr [(0,0)]<|gb0 [0] [(4,vI 8)]<|gn hK4<|ws fun K6 hK6=>wr [(0,0),(1,0),(2,0),(3,1),(4,2),(5,0)]<|gb0 [0,1,2] [(22,.agg #[vI 8,vI 0,vI 0]),(21,vI 8),(20,v5)]<|gw (some 23) (.cells #[vI 8,vI 0,vI 0] 29) (fun b=>.slice (some ⟨b,0,none⟩) 1 1) hS12 fun b2 w6 hx2 hS13=>?_
   have hS14:=hS13.b 2
   by_cases hc3:m2.length<5864062014805
   ·rw [if_pos hc3] at h
    refine ge_append (α:=SIns) (m:=0) (d:=24) (t:=68) (el:=29) (bytes:=24) (c1:=1) (b1:=b2) (x:=(.tmp 20)) (y:=(.tmp 23)) (ty:=68) (v:=v5) (z:=.agg #[vI 0,vI 0,vI 0]) (l:=m2) (u:=(⟨8,0,0⟩:SIns)) (by kernel_rfl) (by kernel_rfl) (by kernel_rfl) (by kernel_rfl) (by kernel_rfl) rfl hS14 rfl (by omega) fun v6 w7 hS15=>?_
    refine gb0 [5] [(3,v6)]<|gn hK6<|ws fun K7 hK7=>ws fun K8 hK8=>wr [(0,0),(1,0),(2,0)]<|gb [0,1,2] [(27,.bool (decide (x0_0 ≥ 3))),(26,vI x0_0),(25,pP b1 0)] [ld b1 0 (vI x0_0)] ⟨hS15.c 1,trivial⟩<|gn hK8 ?_
    by_cases hc4:x0_0 ≥ 3
    ·rw [if_pos hc4] at h
     refine wk 27 (decide (x0_0 ≥ 3)) true (decide_eq_true hc4)<|wt<|wr [(0,0),(1,0),(2,0),(3,1),(4,2),(5,0)]<|gb0 [0,1,2] [(30,.agg #[vI 8,vI 0,vI 0]),(29,.agg #[vI 1,vI 0,vI 0]),(28,v6)]<|gw (some 31) (.cells #[vI 1,vI 0,vI 0,vI 8,vI 0,vI 0] 29) (fun b=>.slice (some ⟨b,0,none⟩) 2 2) hS15 fun b3 w8 hx3 hS16=>?_
     have hS17:=hS16.b 1
     by_cases hc5:(m2++[(⟨8,0,0⟩:SIns)]).length+2≤5864062014805
     ·rw [if_pos hc5] at h
      refine ge_appendL (α:=SIns) (m:=0) (d:=32) (t:=68) (el:=29) (bytes:=24) (c1:=2) (A1:=(some ⟨b3,0,none⟩)) (x:=(.tmp 28)) (y:=(.tmp 31)) (ty:=68) (v:=v6) (z:=.agg #[vI 0,vI 0,vI 0]) (l:=(m2++[(⟨8,0,0⟩:SIns)])) (us:=([(⟨1,0,0⟩:SIns),(⟨8,0,0⟩:SIns)]:List SIns)) (by kernel_rfl) (by kernel_rfl) (by kernel_rfl) (by kernel_rfl) (by kernel_rfl) rfl hS17 (hS17.rdBlk 1 ([(⟨1,0,0⟩:SIns),(⟨8,0,0⟩:SIns)]:List SIns) rfl rfl rfl) rfl (Nat.mul_le_of_le_div _ _ _ hc5) fun v7 w9 hS18=>?_
      have hS19:St w0 w9 [Own.of v7 29 ((m2++[(⟨8,0,0⟩:SIns)])++([(⟨1,0,0⟩:SIns),(⟨8,0,0⟩:SIns)]:List SIns)),bk b3 #[vI 1,vI 0,vI 0,vI 8,vI 0,vI 0] 29,bk b1 #[vI x0_0,vI x0_1_0,vI x0_1_1,.slice A0_1_2 l0_1_2.length c0_1_2,vI x0_2_0,vI x0_2_1,.slice A0_2_2 l0_2_2.length c0_2_2] 47]:=hS18
      refine gb0 [5] [(3,v7)]<|gn hK7<|ws fun K9 hK9=>wr [(0,0),(1,0)]<|gb0 [0,1] [(2,v7),(33,v7)]<|gn hK9 ?_
      have hS20:=hS19.takeN 1
      obtain rfl:=si h
      exact we_ret (pr0 [.tmp 2] [v7] ⟨v7,rfl,hS20⟩)
     rw [if_neg hc5] at h
     cases h
    rw [if_neg hc4] at h
    refine wk 27 (decide (x0_0 ≥ 3)) false (decide_eq_false hc4)<|wf<|we_skip fun a hF=>hK7 _ _ ?_ a hF
    refine ws fun K10 hK10=>wr [(0,0),(1,0)]<|gb0 [0,1] [(2,v6),(33,v6)]<|gn hK10 ?_
    have hS21:=hS15.takeN 1
    obtain rfl:=si h
    exact we_ret (pr0 [.tmp 2] [v6] ⟨v6,rfl,hS21⟩)
   rw [if_neg hc3] at h
   cases h
  rw [if_neg hc2] at h
  refine gk 15 (x0_0==2) false (beq_eq_false_iff_ne.2 hc2)<|gb [4,5,6,7] [(19,.bool (x0_0==3)),(18,.bool (x0_0==3)),(17,vI x0_0),(16,pP b1 0)] [ld b1 0 (vI x0_0)] ⟨hS12.c 0,trivial⟩<|gn hK5 ?_
  by_cases hc6:x0_0=3
  ·rw [if_pos hc6] at h
   refine wk 19 (x0_0==3) true (beq_iff_eq.2 hc6)<|wt<|wr [(0,0)]<|gb0 [0] [(4,vI 8)]<|gn hK4<|ws fun K11 hK11=>wr [(0,0),(1,0),(2,0),(3,1),(4,2),(5,0)]<|gb0 [0,1,2] [(22,.agg #[vI 8,vI 0,vI 0]),(21,vI 8),(20,v5)]<|gw (some 23) (.cells #[vI 8,vI 0,vI 0] 29) (fun b=>.slice (some ⟨b,0,none⟩) 1 1) hS12 fun b4 w10 hx4 hS22=>?_
   have hS23:=hS22.b 2
   by_cases hc7:m2.length<5864062014805
   ·rw [if_pos hc7] at h
    refine ge_append (α:=SIns) (m:=0) (d:=24) (t:=68) (el:=29) (bytes:=24) (c1:=1) (b1:=b4) (x:=(.tmp 20)) (y:=(.tmp 23)) (ty:=68) (v:=v5) (z:=.agg #[vI 0,vI 0,vI 0]) (l:=m2) (u:=(⟨8,0,0⟩:SIns)) (by kernel_rfl) (by kernel_rfl) (by kernel_rfl) (by kernel_rfl) (by kernel_rfl) rfl hS23 rfl (by omega) fun v8 w11 hS24=>?_
    refine gb0 [5] [(3,v8)]<|gn hK11<|ws fun K12 hK12=>ws fun K13 hK13=>wr [(0,0),(1,0),(2,0)]<|gb [0,1,2] [(27,.bool (decide (x0_0 ≥ 3))),(26,vI x0_0),(25,pP b1 0)] [ld b1 0 (vI x0_0)] ⟨hS24.c 1,trivial⟩<|gn hK13 ?_
    by_cases hc8:x0_0 ≥ 3
    ·rw [if_pos hc8] at h
     refine wk 27 (decide (x0_0 ≥ 3)) true (decide_eq_true hc8)<|wt<|wr [(0,0),(1,0),(2,0),(3,1),(4,2),(5,0)]<|gb0 [0,1,2] [(30,.agg #[vI 8,vI 0,vI 0]),(29,.agg #[vI 1,vI 0,vI 0]),(28,v8)]<|gw (some 31) (.cells #[vI 1,vI 0,vI 0,vI 8,vI 0,vI 0] 29) (fun b=>.slice (some ⟨b,0,none⟩) 2 2) hS24 fun b5 w12 hx5 hS25=>?_
     have hS26:=hS25.b 1
     by_cases hc9:(m2++[(⟨8,0,0⟩:SIns)]).length+2≤5864062014805
     ·rw [if_pos hc9] at h
      refine ge_appendL (α:=SIns) (m:=0) (d:=32) (t:=68) (el:=29) (bytes:=24) (c1:=2) (A1:=(some ⟨b5,0,none⟩)) (x:=(.tmp 28)) (y:=(.tmp 31)) (ty:=68) (v:=v8) (z:=.agg #[vI 0,vI 0,vI 0]) (l:=(m2++[(⟨8,0,0⟩:SIns)])) (us:=([(⟨1,0,0⟩:SIns),(⟨8,0,0⟩:SIns)]:List SIns)) (by kernel_rfl) (by kernel_rfl) (by kernel_rfl) (by kernel_rfl) (by kernel_rfl) rfl hS26 (hS26.rdBlk 1 ([(⟨1,0,0⟩:SIns),(⟨8,0,0⟩:SIns)]:List SIns) rfl rfl rfl) rfl (Nat.mul_le_of_le_div _ _ _ hc9) fun v9 w13 hS27=>?_
      have hS28:St w0 w13 [Own.of v9 29 ((m2++[(⟨8,0,0⟩:SIns)])++([(⟨1,0,0⟩:SIns),(⟨8,0,0⟩:SIns)]:List SIns)),bk b5 #[vI 1,vI 0,vI 0,vI 8,vI 0,vI 0] 29,bk b1 #[vI x0_0,vI x0_1_0,vI x0_1_1,.slice A0_1_2 l0_1_2.length c0_1_2,vI x0_2_0,vI x0_2_1,.slice A0_2_2 l0_2_2.length c0_2_2] 47]:=hS27
      refine gb0 [5] [(3,v9)]<|gn hK12<|ws fun K14 hK14=>wr [(0,0),(1,0)]<|gb0 [0,1] [(2,v9),(33,v9)]<|gn hK14 ?_
      have hS29:=hS28.takeN 1
      obtain rfl:=si h
      exact we_ret (pr0 [.tmp 2] [v9] ⟨v9,rfl,hS29⟩)
     rw [if_neg hc9] at h
     cases h
    rw [if_neg hc8] at h
    refine wk 27 (decide (x0_0 ≥ 3)) false (decide_eq_false hc8)<|wf<|we_skip fun a hF=>hK12 _ _ ?_ a hF
    refine ws fun K15 hK15=>wr [(0,0),(1,0)]<|gb0 [0,1] [(2,v8),(33,v8)]<|gn hK15 ?_
    have hS30:=hS24.takeN 1
    obtain rfl:=si h
    exact we_ret (pr0 [.tmp 2] [v8] ⟨v8,rfl,hS30⟩)
   rw [if_neg hc7] at h
   cases h
  rw [if_neg hc6] at h
  refine wk 19 (x0_0==3) false (beq_eq_false_iff_ne.2 hc6)<|wf<|we_skip fun a hF=>hK4 _ _ ?_ a hF
  refine ws fun K16 hK16=>wr [(0,0),(1,0),(2,0),(3,1),(4,2),(5,0)]<|gb0 [0,1,2] [(22,.agg #[vI 7,vI 0,vI 0]),(21,vI 7),(20,v5)]<|gw (some 23) (.cells #[vI 7,vI 0,vI 0] 29) (fun b=>.slice (some ⟨b,0,none⟩) 1 1) hS12 fun b6 w14 hx6 hS31=>?_
  have hS32:=hS31.b 2
  by_cases hc10:m2.length<5864062014805
  ·rw [if_pos hc10] at h
   refine ge_append (α:=SIns) (m:=0) (d:=24) (t:=68) (el:=29) (bytes:=24) (c1:=1) (b1:=b6) (x:=(.tmp 20)) (y:=(.tmp 23)) (ty:=68) (v:=v5) (z:=.agg #[vI 0,vI 0,vI 0]) (l:=m2) (u:=(⟨7,0,0⟩:SIns)) (by kernel_rfl) (by kernel_rfl) (by kernel_rfl) (by kernel_rfl) (by kernel_rfl) rfl hS32 rfl (by omega) fun v10 w15 hS33=>?_
   refine gb0 [5] [(3,v10)]<|gn hK16<|ws fun K17 hK17=>ws fun K18 hK18=>wr [(0,0),(1,0),(2,0)]<|gb [0,1,2] [(27,.bool (decide (x0_0 ≥ 3))),(26,vI x0_0),(25,pP b1 0)] [ld b1 0 (vI x0_0)] ⟨hS33.c 1,trivial⟩<|gn hK18 ?_
   by_cases hc11:x0_0 ≥ 3
   ·rw [if_pos hc11] at h
    refine wk 27 (decide (x0_0 ≥ 3)) true (decide_eq_true hc11)<|wt<|wr [(0,0),(1,0),(2,0),(3,1),(4,2),(5,0)]<|gb0 [0,1,2] [(30,.agg #[vI 8,vI 0,vI 0]),(29,.agg #[vI 1,vI 0,vI 0]),(28,v10)]<|gw (some 31) (.cells #[vI 1,vI 0,vI 0,vI 8,vI 0,vI 0] 29) (fun b=>.slice (some ⟨b,0,none⟩) 2 2) hS33 fun b7 w16 hx7 hS34=>?_
    have hS35:=hS34.b 1
    by_cases hc12:(m2++[(⟨7,0,0⟩:SIns)]).length+2≤5864062014805
    ·rw [if_pos hc12] at h
     refine ge_appendL (α:=SIns) (m:=0) (d:=32) (t:=68) (el:=29) (bytes:=24) (c1:=2) (A1:=(some ⟨b7,0,none⟩)) (x:=(.tmp 28)) (y:=(.tmp 31)) (ty:=68) (v:=v10) (z:=.agg #[vI 0,vI 0,vI 0]) (l:=(m2++[(⟨7,0,0⟩:SIns)])) (us:=([(⟨1,0,0⟩:SIns),(⟨8,0,0⟩:SIns)]:List SIns)) (by kernel_rfl) (by kernel_rfl) (by kernel_rfl) (by kernel_rfl) (by kernel_rfl) rfl hS35 (hS35.rdBlk 1 ([(⟨1,0,0⟩:SIns),(⟨8,0,0⟩:SIns)]:List SIns) rfl rfl rfl) rfl (Nat.mul_le_of_le_div _ _ _ hc12) fun v11 w17 hS36=>?_
     have hS37:St w0 w17 [Own.of v11 29 ((m2++[(⟨7,0,0⟩:SIns)])++([(⟨1,0,0⟩:SIns),(⟨8,0,0⟩:SIns)]:List SIns)),bk b7 #[vI 1,vI 0,vI 0,vI 8,vI 0,vI 0] 29,bk b1 #[vI x0_0,vI x0_1_0,vI x0_1_1,.slice A0_1_2 l0_1_2.length c0_1_2,vI x0_2_0,vI x0_2_1,.slice A0_2_2 l0_2_2.length c0_2_2] 47]:=hS36
     refine gb0 [5] [(3,v11)]<|gn hK17<|ws fun K19 hK19=>wr [(0,0),(1,0)]<|gb0 [0,1] [(2,v11),(33,v11)]<|gn hK19 ?_
     have hS38:=hS37.takeN 1
     obtain rfl:=si h
     exact we_ret (pr0 [.tmp 2] [v11] ⟨v11,rfl,hS38⟩)
    rw [if_neg hc12] at h
    cases h
   rw [if_neg hc11] at h
   refine wk 27 (decide (x0_0 ≥ 3)) false (decide_eq_false hc11)<|wf<|we_skip fun a hF=>hK17 _ _ ?_ a hF
   refine ws fun K20 hK20=>wr [(0,0),(1,0)]<|gb0 [0,1] [(2,v10),(33,v10)]<|gn hK20 ?_
   have hS39:=hS33.takeN 1
   obtain rfl:=si h
   exact we_ret (pr0 [.tmp 2] [v10] ⟨v10,rfl,hS39⟩)
  rw [if_neg hc10] at h
  cases h
 rw [hq3] at h
 simp only [] at h
 refine kp (punctualref_condPiece_p0 K w0 Z x0_0 x0_1_0 x0_1_1 l0_1_2 A0_1_2 c0_1_2 x0_2_0 x0_2_1 l0_2_2 A0_2_2 c0_2_2 hZ hR0_1_2 hL0_1_2 hR0_2_2 hL0_2_2 b1 _ hq3 _ hS1 _ ?_)
 rintro _ a w1 ⟨_,rfl,hb⟩
 obtain rfl:=si h
 exact hb
end Go.Proofs.Ytnckikjcjgmdlaa.GV
