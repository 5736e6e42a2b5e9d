/- Walks of single functions, written by a program of this work. -/
import Derived.Test.YtcjphfmmmlgcbaaGWMeaningRuns5
namespace Go.Proofs.Ytcjphfmmmlgcbaa.GV
open Go Go.RowKit
set_option linter.unusedVariables false
set_option linter.unusedSimpArgs false
set_option maxRecDepth 100000

/-! punctual/punctualsame.Bodies -/
abbrev ps_Bodies.Post (w0:World) (r:Bool) (e:Ending) (w:World):Prop:=e=.returned (.bool r)∧St w0 w []
abbrev ps_Bodies.Rec (rec_ps_Bodies:(List SStmt)→(List SStmt)→Option Bool):Prop:=∀ (Z:Zone) (l0:List SStmt) (A0:OA) (c0:Nat) (l1:List SStmt) (A1:OA) (c1:Nat) (w0:World) (hZ:∀ w,Sub w0 w→Z w) (hR0:RdZ Z A0 l0) (hL0:l0.length≤c0) (hR1:RdZ Z A1 l1) (hL1:l1.length≤c1) (r:Bool) (h:rec_ps_Bodies l0 l1=some r),Calls Try.prog 13 #[.slice A0 l0.length c0,.slice A1 l1.length c1] w0 (ps_Bodies.Post w0 r)
def ps_Bodies.r0 (K : Nat) (l0 : List SStmt) (l1 : List SStmt) (rec_ps_Bodies : (List SStmt) → (List SStmt) → Option Bool) : Nat → Option (Nat ⊕ (Unit ⊕ Bool))
 | i1 =>
  if (i1:Int)<(l0.length:Int) then
   match l0[i1]? with
   | none=>none
   | some e1 =>
    match l1[i1]? with
    | none=>none
    | some e2 =>
     if e1.Kind=e2.Kind then
      if e1.N=e2.N then
       if e1.If.Kind=e2.If.Kind then
        match ps_Exprs.f K e1.E.Kind e1.E.N e1.E.A e2.E.Kind e2.E.N e2.E.A with
        | none=>none
        | some r1 =>
         if r1=true then
          match ps_Exprs.f K e1.If.A.Kind e1.If.A.N e1.If.A.A e2.If.A.Kind e2.If.A.N e2.If.A.A with
          | none=>none
          | some r2 =>
           if r2=true then
            match ps_Exprs.f K e1.If.B.Kind e1.If.B.N e1.If.B.A e2.If.B.Kind e2.If.B.N e2.If.B.A with
            | none=>none
            | some r3 =>
             if r3=true then
              match rec_ps_Bodies e1.Body e2.Body with
              | none=>none
              | some r4 =>
               if r4=true then
                match rec_ps_Bodies e1.Else e2.Else with
                | none=>none
                | some r5 =>
                 if r5=true then
                  some (.inl (i1+1))
                 else
                  some (.inr (.inr false))
               else
                some (.inr (.inr false))
             else
              some (.inr (.inr false))
           else
            some (.inr (.inr false))
         else
          some (.inr (.inr false))
       else
        some (.inr (.inr false))
      else
       some (.inr (.inr false))
     else
      some (.inr (.inr false))
  else
   some (.inr (.inl ()))
def ps_Bodies.b (K : Nat) (rec_ps_Bodies : (List SStmt) → (List SStmt) → Option Bool) (l0 : List SStmt) (l1 : List SStmt) : Option Bool :=
 if (l0.length:Int)=(l1.length:Int) then
  match iter (ps_Bodies.r0 K l0 l1 rec_ps_Bodies) K 0 with
  | none=>none
  | some (.inl _) =>
   some true
  | some (.inr rr1) =>
   some rr1
 else
  some false
abbrev ps_Bodies.A0 (w0:World) (l0:List SStmt) (A0:OA) (c0:Nat) (l1:List SStmt) (A1:OA) (c1:Nat):Nat→Act→World→Prop:=fun (s:Nat) a w=>St w0 w []∧Frm 90 a [(1,.slice A1 l1.length c1),(13,.slice A0 l0.length c0),(14,vI (l0.length:Int)),(15,vI (s:Int))]
abbrev ps_Bodies.B0 (w0:World):(Unit ⊕ Bool)→Exit→Act→World→Prop:=Exits 0 (fun (s:Unit) a w=>St w0 w []∧Frm 90 a []) (Rets Try.prog Try.f13 (ps_Bodies.Post w0))
theorem ps_Bodies_r0 (K:Nat) (w0:World) (Z:Zone) (l0:List SStmt) (A0:OA) (c0:Nat) (l1:List SStmt) (A1:OA) (c1:Nat) (hZ:∀ w,Sub w0 w→Z w) (hR0:RdZ Z A0 l0) (hL0:l0.length≤c0) (hR1:RdZ Z A1 l1) (hL1:l1.length≤c1) (rec_ps_Bodies:(List SStmt)→(List SStmt)→Option Bool) (hr_ps_Bodies:ps_Bodies.Rec rec_ps_Bodies) (hc1:(l0.length:Int)=(l1.length:Int)) (s:Nat) (o:Nat ⊕ (Unit ⊕ Bool)) (h:ps_Bodies.r0 K l0 l1 rec_ps_Bodies s=some o) (a:Act) (w:World) (hA:ps_Bodies.A0 w0 l0 A0 c0 l1 A1 c1 s a w) (Q:Exit→Act→World→Prop) (hQ:∀ x a w,Outs (ps_Bodies.A0 w0 l0 A0 c0 l1 A1 c1) (ps_Bodies.B0 w0) o x a w→Q x a w):(subF Try.f13 [1,1,0,1,0,0]).wp Try.prog Q a w:=by
 obtain ⟨i1,hs⟩:∃ z,z=s:=⟨s,rfl⟩
 subst hs
 obtain ⟨hS,hF⟩:=hA
 replace hS:St w0 w []:=hS
 simp only [ps_Bodies.r0] at h
 refine (?_:WE Try.prog 90 (subF Try.f13 [1,1,0,1,0,0]) Q [(1,.slice A1 l1.length c1),(13,.slice A0 l0.length c0),(14,vI (l0.length:Int)),(15,vI (i1:Int))] w) a hF
 clear hF a
 refine ws fun K6 hK6=>wr [(0,0)]<|gb0 [0] [(16,.bool (decide ((i1:Int)<(l0.length:Int))))]<|gn hK6<|ws fun K7 hK7=>?_
 by_cases hc2:(i1:Int)<(l0.length:Int)
 ·rw [if_pos hc2] at h
  refine wk 16 (decide ((i1:Int)<(l0.length:Int))) true (decide_eq_true hc2)<|wt<|we_skip fun a hF=>hK7 _ _ ?_ a hF
  refine ws fun K8 hK8=>we_block<|ws fun K9 hK9=>wr [(0,0),(1,0),(2,0),(3,1),(4,0),(5,2)]<|gb0 [0] [(17,vI (i1:Int))] ?_
  rcases hx1:l0[i1]? with _ | e1
  ·rw [hx1] at h; cases h
  rw [hx1] at h
  simp only [] at h
  obtain ⟨An1,cn1,An2,cn2,An3,cn3,An4,cn4,An5,cn5,hCs1,hLn1,hRn1,hLn2,hRn2,hLn3,hRn3,hLn4,hRn4,hLn5,hRn5⟩:=SStmt.getZ hR0 hx1
  refine gi 18 0 22 70 14 l0.length c0 (.tmp 13) (.tmp 15) A0 .i64 (i1:Int) i1 (hR0.eqSome (hZ _ hS.subw) (pos_of_get hx1)) rfl (lt_of_get hx1) ?_
  refine gb [2] [(19,.agg #[vI e1.Kind,vI e1.N,vI e1.E.Kind,vI e1.E.N,.slice An1 e1.E.A.length cn1,vI e1.If.Kind,vI e1.If.A.Kind,vI e1.If.A.N,.slice An2 e1.If.A.A.length cn2,vI e1.If.B.Kind,vI e1.If.B.N,.slice An3 e1.If.B.A.length cn3,.slice An4 e1.Body.length cn4,.slice An5 e1.Else.length cn5])] [.loaded ⟨blkOf A0,offOf A0+i1*14,none⟩ (vI e1.Kind),.loaded ⟨blkOf A0,offOf A0+i1*14+1,none⟩ (vI e1.N),.loaded ⟨blkOf A0,offOf A0+i1*14+2,none⟩ (vI e1.E.Kind),.loaded ⟨blkOf A0,offOf A0+i1*14+3,none⟩ (vI e1.E.N),.loaded ⟨blkOf A0,offOf A0+i1*14+4,none⟩ (.slice An1 e1.E.A.length cn1),.loaded ⟨blkOf A0,offOf A0+i1*14+5,none⟩ (vI e1.If.Kind),.loaded ⟨blkOf A0,offOf A0+i1*14+6,none⟩ (vI e1.If.A.Kind),.loaded ⟨blkOf A0,offOf A0+i1*14+7,none⟩ (vI e1.If.A.N),.loaded ⟨blkOf A0,offOf A0+i1*14+8,none⟩ (.slice An2 e1.If.A.A.length cn2),.loaded ⟨blkOf A0,offOf A0+i1*14+9,none⟩ (vI e1.If.B.Kind),.loaded ⟨blkOf A0,offOf A0+i1*14+10,none⟩ (vI e1.If.B.N),.loaded ⟨blkOf A0,offOf A0+i1*14+11,none⟩ (.slice An3 e1.If.B.A.length cn3),.loaded ⟨blkOf A0,offOf A0+i1*14+12,none⟩ (.slice An4 e1.Body.length cn4),.loaded ⟨blkOf A0,offOf A0+i1*14+13,none⟩ (.slice An5 e1.Else.length cn5)] ⟨hCs1 _ (hZ _ hS.subw) 0 _ rfl,hCs1 _ (hZ _ hS.subw) 1 _ rfl,hCs1 _ (hZ _ hS.subw) 2 _ rfl,hCs1 _ (hZ _ hS.subw) 3 _ rfl,hCs1 _ (hZ _ hS.subw) 4 _ rfl,hCs1 _ (hZ _ hS.subw) 5 _ rfl,hCs1 _ (hZ _ hS.subw) 6 _ rfl,hCs1 _ (hZ _ hS.subw) 7 _ rfl,hCs1 _ (hZ _ hS.subw) 8 _ rfl,hCs1 _ (hZ _ hS.subw) 9 _ rfl,hCs1 _ (hZ _ hS.subw) 10 _ rfl,hCs1 _ (hZ _ hS.subw) 11 _ rfl,hCs1 _ (hZ _ hS.subw) 12 _ rfl,hCs1 _ (hZ _ hS.subw) 13 _ rfl,trivial⟩<|gw (some 6) (.cells #[vI 0,vI 0,vI 0,vI 0,.slice none 0 0,vI 0,vI 0,vI 0,.slice none 0 0,vI 0,vI 0,.slice none 0 0,.slice none 0 0,.slice none 0 0] 70) (fun b=>pP b 0) hS fun b1 w1 hx2 hS1=>?_
  refine gb0 [4] [(5,vI (i1:Int))]<|gs b1 0 #[vI 0,vI 0,vI 0,vI 0,.slice none 0 0,vI 0,vI 0,vI 0,.slice none 0 0,vI 0,vI 0,.slice none 0 0,.slice none 0 0,.slice none 0 0] 70 [vI e1.Kind,vI e1.N,vI e1.E.Kind,vI e1.E.N,.slice An1 e1.E.A.length cn1,vI e1.If.Kind,vI e1.If.A.Kind,vI e1.If.A.N,.slice An2 e1.If.A.A.length cn2,vI e1.If.B.Kind,vI e1.If.B.N,.slice An3 e1.If.B.A.length cn3,.slice An4 e1.Body.length cn4,.slice An5 e1.Else.length cn5] hS1 fun w2 hS2=>?_
  have hS3:=hS2.nc #[vI e1.Kind,vI e1.N,vI e1.E.Kind,vI e1.E.N,.slice An1 e1.E.A.length cn1,vI e1.If.Kind,vI e1.If.A.Kind,vI e1.If.A.N,.slice An2 e1.If.A.A.length cn2,vI e1.If.B.Kind,vI e1.If.B.N,.slice An3 e1.If.B.A.length cn3,.slice An4 e1.Body.length cn4,.slice An5 e1.Else.length cn5] (by kernel_rfl)
  refine gn hK9<|ws fun K10 hK10=>wr [(0,0),(1,0),(2,0),(3,0),(4,1),(5,2)]<|gb0 [0,1] [(21,vI (i1:Int)),(20,.slice A1 l1.length c1)] ?_
  rcases hx3:l1[i1]? with _ | e2
  ·rw [hx3] at h; cases h
  rw [hx3] at h
  simp only [] at h
  obtain ⟨An6,cn6,An7,cn7,An8,cn8,An9,cn9,An10,cn10,hCs2,hLn6,hRn6,hLn7,hRn7,hLn8,hRn8,hLn9,hRn9,hLn10,hRn10⟩:=SStmt.getZ hR1 hx3
  refine gi 22 0 22 70 14 l1.length c1 (.tmp 20) (.tmp 21) A1 .i64 (i1:Int) i1 (hR1.eqSome (hZ _ hS3.subw) (pos_of_get hx3)) rfl (lt_of_get hx3) ?_
  refine gb [3] [(23,.agg #[vI e2.Kind,vI e2.N,vI e2.E.Kind,vI e2.E.N,.slice An6 e2.E.A.length cn6,vI e2.If.Kind,vI e2.If.A.Kind,vI e2.If.A.N,.slice An7 e2.If.A.A.length cn7,vI e2.If.B.Kind,vI e2.If.B.N,.slice An8 e2.If.B.A.length cn8,.slice An9 e2.Body.length cn9,.slice An10 e2.Else.length cn10])] [.loaded ⟨blkOf A1,offOf A1+i1*14,none⟩ (vI e2.Kind),.loaded ⟨blkOf A1,offOf A1+i1*14+1,none⟩ (vI e2.N),.loaded ⟨blkOf A1,offOf A1+i1*14+2,none⟩ (vI e2.E.Kind),.loaded ⟨blkOf A1,offOf A1+i1*14+3,none⟩ (vI e2.E.N),.loaded ⟨blkOf A1,offOf A1+i1*14+4,none⟩ (.slice An6 e2.E.A.length cn6),.loaded ⟨blkOf A1,offOf A1+i1*14+5,none⟩ (vI e2.If.Kind),.loaded ⟨blkOf A1,offOf A1+i1*14+6,none⟩ (vI e2.If.A.Kind),.loaded ⟨blkOf A1,offOf A1+i1*14+7,none⟩ (vI e2.If.A.N),.loaded ⟨blkOf A1,offOf A1+i1*14+8,none⟩ (.slice An7 e2.If.A.A.length cn7),.loaded ⟨blkOf A1,offOf A1+i1*14+9,none⟩ (vI e2.If.B.Kind),.loaded ⟨blkOf A1,offOf A1+i1*14+10,none⟩ (vI e2.If.B.N),.loaded ⟨blkOf A1,offOf A1+i1*14+11,none⟩ (.slice An8 e2.If.B.A.length cn8),.loaded ⟨blkOf A1,offOf A1+i1*14+12,none⟩ (.slice An9 e2.Body.length cn9),.loaded ⟨blkOf A1,offOf A1+i1*14+13,none⟩ (.slice An10 e2.Else.length cn10)] ⟨hCs2 _ (hZ _ hS3.subw) 0 _ rfl,hCs2 _ (hZ _ hS3.subw) 1 _ rfl,hCs2 _ (hZ _ hS3.subw) 2 _ rfl,hCs2 _ (hZ _ hS3.subw) 3 _ rfl,hCs2 _ (hZ _ hS3.subw) 4 _ rfl,hCs2 _ (hZ _ hS3.subw) 5 _ rfl,hCs2 _ (hZ _ hS3.subw) 6 _ rfl,hCs2 _ (hZ _ hS3.subw) 7 _ rfl,hCs2 _ (hZ _ hS3.subw) 8 _ rfl,hCs2 _ (hZ _ hS3.subw) 9 _ rfl,hCs2 _ (hZ _ hS3.subw) 10 _ rfl,hCs2 _ (hZ _ hS3.subw) 11 _ rfl,hCs2 _ (hZ _ hS3.subw) 12 _ rfl,hCs2 _ (hZ _ hS3.subw) 13 _ rfl,trivial⟩<|gw (some 7) (.cells #[vI 0,vI 0,vI 0,vI 0,.slice none 0 0,vI 0,vI 0,vI 0,.slice none 0 0,vI 0,vI 0,.slice none 0 0,.slice none 0 0,.slice none 0 0] 70) (fun b=>pP b 0) hS3 fun b2 w3 hx4 hS4=>?_
  refine gs b2 0 #[vI 0,vI 0,vI 0,vI 0,.slice none 0 0,vI 0,vI 0,vI 0,.slice none 0 0,vI 0,vI 0,.slice none 0 0,.slice none 0 0,.slice none 0 0] 70 [vI e2.Kind,vI e2.N,vI e2.E.Kind,vI e2.E.N,.slice An6 e2.E.A.length cn6,vI e2.If.Kind,vI e2.If.A.Kind,vI e2.If.A.N,.slice An7 e2.If.A.A.length cn7,vI e2.If.B.Kind,vI e2.If.B.N,.slice An8 e2.If.B.A.length cn8,.slice An9 e2.Body.length cn9,.slice An10 e2.Else.length cn10] hS4 fun w4 hS5=>?_
  have hS6:=hS5.nc #[vI e2.Kind,vI e2.N,vI e2.E.Kind,vI e2.E.N,.slice An6 e2.E.A.length cn6,vI e2.If.Kind,vI e2.If.A.Kind,vI e2.If.A.N,.slice An7 e2.If.A.A.length cn7,vI e2.If.B.Kind,vI e2.If.B.N,.slice An8 e2.If.B.A.length cn8,.slice An9 e2.Body.length cn9,.slice An10 e2.Else.length cn10] (by kernel_rfl)
  refine gn hK10<|ws fun K11 hK11=>wr [(0,0),(1,0),(2,0),(3,0),(4,0),(5,0),(6,0),(7,0),(8,0),(9,0),(10,0),(11,0),(12,0),(13,0),(14,0),(15,0),(16,0),(17,0),(18,0),(19,0),(20,0),(21,0),(22,0),(23,0),(24,0),(25,0),(26,1),(27,0),(28,0),(29,0),(30,0),(31,0),(32,0),(33,0),(34,0),(35,0),(36,1),(37,0),(38,0),(39,0),(40,0),(41,0),(42,0),(43,0),(44,0),(45,0),(46,1),(47,0),(48,0),(49,0),(50,0),(51,0),(52,0),(53,0),(54,1),(55,0),(56,0),(57,0),(58,0),(59,0),(60,0),(61,0),(62,1),(63,0),(64,0)]<|gb [0,1,2,3,4,5] [(29,.bool (e1.Kind != e2.Kind)),(28,.bool (e1.Kind != e2.Kind)),(27,vI e2.Kind),(26,pP b2 0),(25,vI e1.Kind),(24,pP b1 0)] [ld b1 0 (vI e1.Kind),ld b2 0 (vI e2.Kind)] ⟨hS6.c 1,hS6.c 0,trivial⟩ ?_
  by_cases hc3:e1.Kind=e2.Kind
  ·rw [if_pos hc3] at h
   refine gk 29 (e1.Kind != e2.Kind) false (bne_eq_false_iff_eq.2 hc3)<|gb [6,7,8,9,10,11,12] [(36,.bool (e1.N != e2.N)),(35,.bool (e1.N != e2.N)),(34,.bool (e1.N != e2.N)),(33,vI e2.N),(32,pP b2 1),(31,vI e1.N),(30,pP b1 1)] [ld b1 1 (vI e1.N),ld b2 1 (vI e2.N)] ⟨hS6.c 1,hS6.c 0,trivial⟩ ?_
   by_cases hc4:e1.N=e2.N
   ·rw [if_pos hc4] at h
    refine gk 36 (e1.N != e2.N) false (bne_eq_false_iff_eq.2 hc4)<|gb [13,14,15,16,17,18,19,20,21] [(45,.bool (e1.If.Kind != e2.If.Kind)),(44,.bool (e1.If.Kind != e2.If.Kind)),(43,.bool (e1.If.Kind != e2.If.Kind)),(42,vI e2.If.Kind),(41,pP b2 5),(40,pP b2 5),(39,vI e1.If.Kind),(38,pP b1 5),(37,pP b1 5)] [ld b1 5 (vI e1.If.Kind),ld b2 5 (vI e2.If.Kind)] ⟨hS6.c 1,hS6.c 0,trivial⟩ ?_
    by_cases hc5:e1.If.Kind=e2.If.Kind
    ·rw [if_pos hc5] at h
     refine gk 45 (e1.If.Kind != e2.If.Kind) false (bne_eq_false_iff_eq.2 hc5) ?_
     rcases hq1:ps_Exprs.f K e1.E.Kind e1.E.N e1.E.A e2.E.Kind e2.E.N e2.E.A with _ | r1
     ·rw [hq1] at h; cases h
     rw [hq1] at h
     simp only [] at h
     refine gb [22,23,24,25] [(49,.agg #[vI e2.E.Kind,vI e2.E.N,.slice An6 e2.E.A.length cn6]),(48,pP b2 2),(47,.agg #[vI e1.E.Kind,vI e1.E.N,.slice An1 e1.E.A.length cn1]),(46,pP b1 2)] [ld b1 2 (vI e1.E.Kind),ld b1 3 (vI e1.E.N),ld b1 4 (.slice An1 e1.E.A.length cn1),ld b2 2 (vI e2.E.Kind),ld b2 3 (vI e2.E.N),ld b2 4 (.slice An6 e2.E.A.length cn6)] ⟨hS6.c 1,hS6.c 1,hS6.c 1,hS6.c 0,hS6.c 0,hS6.c 0,trivial⟩<|ge_call (d:=some 50) (f:=37) (args:=#[.agg #[vI e1.E.Kind,vI e1.E.N,.slice An1 e1.E.A.length cn1],.agg #[vI e2.E.Kind,vI e2.E.N,.slice An6 e2.E.A.length cn6]]) (by kernel_rfl) (ps_Exprs_ok K Z e1.E.Kind e1.E.N e1.E.A An1 cn1 e2.E.Kind e2.E.N e2.E.A An6 cn6 _ (fun w' k=>(hZ w' (hS6.subw.trans k))) hRn1 hLn1 hRn6 hLn6 _ hq1) ?_
     rintro _ w5 ⟨rfl,hS7⟩
     refine ⟨_,rfl,hS7.below,?_⟩
     have hS8:=hS6.call hS7
     refine gb0 [27,28,29] [(53,.bool (!r1)),(52,.bool (!r1)),(51,.bool (!r1))] ?_
     by_cases hc6:r1=true
     ·rw [if_pos hc6] at h
      refine gk 53 (!r1) false (congrArg (fun z=>!z) hc6) ?_
      rcases hq2:ps_Exprs.f K e1.If.A.Kind e1.If.A.N e1.If.A.A e2.If.A.Kind e2.If.A.N e2.If.A.A with _ | r2
      ·rw [hq2] at h; cases h
      rw [hq2] at h
      simp only [] at h
      refine gb [30,31,32,33,34,35] [(59,.agg #[vI e2.If.A.Kind,vI e2.If.A.N,.slice An7 e2.If.A.A.length cn7]),(58,pP b2 6),(57,pP b2 5),(56,.agg #[vI e1.If.A.Kind,vI e1.If.A.N,.slice An2 e1.If.A.A.length cn2]),(55,pP b1 6),(54,pP b1 5)] [ld b1 6 (vI e1.If.A.Kind),ld b1 7 (vI e1.If.A.N),ld b1 8 (.slice An2 e1.If.A.A.length cn2),ld b2 6 (vI e2.If.A.Kind),ld b2 7 (vI e2.If.A.N),ld b2 8 (.slice An7 e2.If.A.A.length cn7)] ⟨hS8.c 1,hS8.c 1,hS8.c 1,hS8.c 0,hS8.c 0,hS8.c 0,trivial⟩<|ge_call (d:=some 60) (f:=37) (args:=#[.agg #[vI e1.If.A.Kind,vI e1.If.A.N,.slice An2 e1.If.A.A.length cn2],.agg #[vI e2.If.A.Kind,vI e2.If.A.N,.slice An7 e2.If.A.A.length cn7]]) (by kernel_rfl) (ps_Exprs_ok K Z e1.If.A.Kind e1.If.A.N e1.If.A.A An2 cn2 e2.If.A.Kind e2.If.A.N e2.If.A.A An7 cn7 _ (fun w' k=>(hZ w' (hS8.subw.trans k))) hRn2 hLn2 hRn7 hLn7 _ hq2) ?_
      rintro _ w6 ⟨rfl,hS9⟩
      refine ⟨_,rfl,hS9.below,?_⟩
      have hS10:=hS8.call hS9
      refine gb0 [37,38,39] [(63,.bool (!r2)),(62,.bool (!r2)),(61,.bool (!r2))] ?_
      by_cases hc7:r2=true
      ·rw [if_pos hc7] at h
       refine gk 63 (!r2) false (congrArg (fun z=>!z) hc7) ?_
       rcases hq3:ps_Exprs.f K e1.If.B.Kind e1.If.B.N e1.If.B.A e2.If.B.Kind e2.If.B.N e2.If.B.A with _ | r3
       ·rw [hq3] at h; cases h
       rw [hq3] at h
       simp only [] at h
       refine gb [40,41,42,43,44,45] [(69,.agg #[vI e2.If.B.Kind,vI e2.If.B.N,.slice An8 e2.If.B.A.length cn8]),(68,pP b2 9),(67,pP b2 5),(66,.agg #[vI e1.If.B.Kind,vI e1.If.B.N,.slice An3 e1.If.B.A.length cn3]),(65,pP b1 9),(64,pP b1 5)] [ld b1 9 (vI e1.If.B.Kind),ld b1 10 (vI e1.If.B.N),ld b1 11 (.slice An3 e1.If.B.A.length cn3),ld b2 9 (vI e2.If.B.Kind),ld b2 10 (vI e2.If.B.N),ld b2 11 (.slice An8 e2.If.B.A.length cn8)] ⟨hS10.c 1,hS10.c 1,hS10.c 1,hS10.c 0,hS10.c 0,hS10.c 0,trivial⟩<|ge_call (d:=some 70) (f:=37) (args:=#[.agg #[vI e1.If.B.Kind,vI e1.If.B.N,.slice An3 e1.If.B.A.length cn3],.agg #[vI e2.If.B.Kind,vI e2.If.B.N,.slice An8 e2.If.B.A.length cn8]]) (by kernel_rfl) (ps_Exprs_ok K Z e1.If.B.Kind e1.If.B.N e1.If.B.A An3 cn3 e2.If.B.Kind e2.If.B.N e2.If.B.A An8 cn8 _ (fun w' k=>(hZ w' (hS10.subw.trans k))) hRn3 hLn3 hRn8 hLn8 _ hq3) ?_
       rintro _ w7 ⟨rfl,hS11⟩
       refine ⟨_,rfl,hS11.below,?_⟩
       have hS12:=hS10.call hS11
       refine gb0 [47,48,49] [(73,.bool (!r3)),(72,.bool (!r3)),(71,.bool (!r3))] ?_
       by_cases hc8:r3=true
       ·rw [if_pos hc8] at h
        refine gk 73 (!r3) false (congrArg (fun z=>!z) hc8) ?_
        rcases hq4:rec_ps_Bodies e1.Body e2.Body with _ | r4
        ·rw [hq4] at h; cases h
        rw [hq4] at h
        simp only [] at h
        refine gb [50,51,52,53] [(77,.slice An9 e2.Body.length cn9),(76,pP b2 12),(75,.slice An4 e1.Body.length cn4),(74,pP b1 12)] [ld b1 12 (.slice An4 e1.Body.length cn4),ld b2 12 (.slice An9 e2.Body.length cn9)] ⟨hS12.c 1,hS12.c 0,trivial⟩<|ge_call (d:=some 78) (f:=13) (args:=#[.slice An4 e1.Body.length cn4,.slice An9 e2.Body.length cn9]) (by kernel_rfl) (hr_ps_Bodies Z e1.Body An4 cn4 e2.Body An9 cn9 _ (fun w' k=>(hZ w' (hS12.subw.trans k))) hRn4 hLn4 hRn9 hLn9 _ hq4) ?_
        rintro _ w8 ⟨rfl,hS13⟩
        refine ⟨_,rfl,hS13.below,?_⟩
        have hS14:=hS12.call hS13
        refine gb0 [55,56,57] [(81,.bool (!r4)),(80,.bool (!r4)),(79,.bool (!r4))] ?_
        by_cases hc9:r4=true
        ·rw [if_pos hc9] at h
         refine gk 81 (!r4) false (congrArg (fun z=>!z) hc9) ?_
         rcases hq5:rec_ps_Bodies e1.Else e2.Else with _ | r5
         ·rw [hq5] at h; cases h
         rw [hq5] at h
         simp only [] at h
         refine gb [58,59,60,61] [(85,.slice An10 e2.Else.length cn10),(84,pP b2 13),(83,.slice An5 e1.Else.length cn5),(82,pP b1 13)] [ld b1 13 (.slice An5 e1.Else.length cn5),ld b2 13 (.slice An10 e2.Else.length cn10)] ⟨hS14.c 1,hS14.c 0,trivial⟩<|ge_call (d:=some 86) (f:=13) (args:=#[.slice An5 e1.Else.length cn5,.slice An10 e2.Else.length cn10]) (by kernel_rfl) (hr_ps_Bodies Z e1.Else An5 cn5 e2.Else An10 cn10 _ (fun w' k=>(hZ w' (hS14.subw.trans k))) hRn5 hLn5 hRn10 hLn10 _ hq5) ?_
         rintro _ w9 ⟨rfl,hS15⟩
         refine ⟨_,rfl,hS15.below,?_⟩
         have hS16:=hS14.call hS15
         refine gb0 [63,64] [(88,.bool (!r5)),(87,.bool (!r5))]<|gn hK11 ?_
         by_cases hc10:r5=true
         ·rw [if_pos hc10] at h
          refine wk 88 (!r5) false (congrArg (fun z=>!z) hc10)<|wf<|we_skip fun a hF=>hK8 _ _ ?_ a hF
          refine wr [(0,0),(1,0)]<|ge_addn (d:=89) (ty:=3) (x:=(.tmp 15)) (y:=(.const (vI 1))) (t:=3) (t2:=3) (k:=.i64) (m:=i1) (by kernel_rfl) (by kernel_rfl) (by kernel_rfl) (by have h0:=RdZ.small hR0 (hZ _ hS16.subw); omega) ?_
          refine gb0 [1] [(15,vI ((i1+1:Nat):Int))] ?_
          have hS17:=hS16.takeN 0
          obtain rfl:=si h
          exact ge_nil fun a hF=>hQ _ _ _ (Outs.again ⟨hS17,hF.weaken ea⟩)
         rw [if_neg hc10] at h
         refine wk 88 (!r5) true (congrArg (fun z=>!z) (Bool.eq_false_iff.2 hc10))<|wt<|ws fun K12 hK12=>wr [(0,0)]<|gb0 [0] [(4,.bool false)]<|gn hK12 ?_
         have hS18:=hS16.takeN 0
         obtain rfl:=si h
         exact we_ret fun a hF=>hQ _ _ _ (Outs.out nofun (Exits.on ⟨rfl,(pr0 [.tmp 4] [.bool false] ⟨rfl,hS18⟩) a hF⟩))
        rw [if_neg hc9] at h
        refine gk 81 (!r4) true (congrArg (fun z=>!z) (Bool.eq_false_iff.2 hc9))<|gb0 [58,59,60,61] [(85,undef),(84,undef),(83,undef),(82,undef)]<|ge_off rfl rfl rfl (by kernel_rfl) ?_
        refine gb0 [63,64] [(88,.bool true),(87,undef)]<|gn hK11<|wt<|ws fun K13 hK13=>wr [(0,0)]<|gb0 [0] [(4,.bool false)]<|gn hK13 ?_
        have hS19:=hS14.takeN 0
        obtain rfl:=si h
        exact we_ret fun a hF=>hQ _ _ _ (Outs.out nofun (Exits.on ⟨rfl,(pr0 [.tmp 4] [.bool false] ⟨rfl,hS19⟩) a hF⟩))
       rw [if_neg hc8] at h
       refine gk 73 (!r3) true (congrArg (fun z=>!z) (Bool.eq_false_iff.2 hc8))<|gb0 [50,51,52,53] [(77,undef),(76,undef),(75,undef),(74,undef)]<|ge_off rfl rfl rfl (by kernel_rfl) ?_
       refine gb0 [55,56,57,58,59,60,61] [(85,undef),(84,undef),(83,undef),(82,undef),(81,.bool true),(80,.bool true),(79,undef)]<|ge_off rfl rfl rfl (by kernel_rfl) ?_
       refine gb0 [63,64] [(88,.bool true),(87,undef)]<|gn hK11<|wt<|ws fun K14 hK14=>wr [(0,0)]<|gb0 [0] [(4,.bool false)]<|gn hK14 ?_
       have hS20:=hS12.takeN 0
       obtain rfl:=si h
       exact we_ret fun a hF=>hQ _ _ _ (Outs.out nofun (Exits.on ⟨rfl,(pr0 [.tmp 4] [.bool false] ⟨rfl,hS20⟩) a hF⟩))
      rw [if_neg hc7] at h
      refine gk 63 (!r2) true (congrArg (fun z=>!z) (Bool.eq_false_iff.2 hc7))<|gb0 [40,41,42,43,44,45] [(69,undef),(68,undef),(67,undef),(66,undef),(65,undef),(64,undef)]<|ge_off rfl rfl rfl (by kernel_rfl) ?_
      refine gb0 [47,48,49,50,51,52,53] [(77,undef),(76,undef),(75,undef),(74,undef),(73,.bool true),(72,.bool true),(71,undef)]<|ge_off rfl rfl rfl (by kernel_rfl) ?_
      refine gb0 [55,56,57,58,59,60,61] [(85,undef),(84,undef),(83,undef),(82,undef),(81,.bool true),(80,.bool true),(79,undef)]<|ge_off rfl rfl rfl (by kernel_rfl) ?_
      refine gb0 [63,64] [(88,.bool true),(87,undef)]<|gn hK11<|wt<|ws fun K15 hK15=>wr [(0,0)]<|gb0 [0] [(4,.bool false)]<|gn hK15 ?_
      have hS21:=hS10.takeN 0
      obtain rfl:=si h
      exact we_ret fun a hF=>hQ _ _ _ (Outs.out nofun (Exits.on ⟨rfl,(pr0 [.tmp 4] [.bool false] ⟨rfl,hS21⟩) a hF⟩))
     rw [if_neg hc6] at h
     refine gk 53 (!r1) true (congrArg (fun z=>!z) (Bool.eq_false_iff.2 hc6))<|gb0 [30,31,32,33,34,35] [(59,undef),(58,undef),(57,undef),(56,undef),(55,undef),(54,undef)]<|ge_off rfl rfl rfl (by kernel_rfl) ?_
     refine gb0 [37,38,39,40,41,42,43,44,45] [(69,undef),(68,undef),(67,undef),(66,undef),(65,undef),(64,undef),(63,.bool true),(62,.bool true),(61,undef)]<|ge_off rfl rfl rfl (by kernel_rfl) ?_
     refine gb0 [47,48,49,50,51,52,53] [(77,undef),(76,undef),(75,undef),(74,undef),(73,.bool true),(72,.bool true),(71,undef)]<|ge_off rfl rfl rfl (by kernel_rfl) ?_
     refine gb0 [55,56,57,58,59,60,61] [(85,undef),(84,undef),(83,undef),(82,undef),(81,.bool true),(80,.bool true),(79,undef)]<|ge_off rfl rfl rfl (by kernel_rfl) ?_
     refine gb0 [63,64] [(88,.bool true),(87,undef)]<|gn hK11<|wt<|ws fun K16 hK16=>wr [(0,0)]<|gb0 [0] [(4,.bool false)]<|gn hK16 ?_
     have hS22:=hS8.takeN 0
     obtain rfl:=si h
     exact we_ret fun a hF=>hQ _ _ _ (Outs.out nofun (Exits.on ⟨rfl,(pr0 [.tmp 4] [.bool false] ⟨rfl,hS22⟩) a hF⟩))
    rw [if_neg hc5] at h
    refine gk 45 (e1.If.Kind != e2.If.Kind) true (bne_iff_ne.2 hc5)<|gb0 [22,23,24,25] [(49,undef),(48,undef),(47,undef),(46,undef)]<|ge_off rfl rfl rfl (by kernel_rfl) ?_
    refine gb0 [27,28,29,30,31,32,33,34,35] [(59,undef),(58,undef),(57,undef),(56,undef),(55,undef),(54,undef),(53,.bool true),(52,.bool true),(51,undef)]<|ge_off rfl rfl rfl (by kernel_rfl) ?_
    refine gb0 [37,38,39,40,41,42,43,44,45] [(69,undef),(68,undef),(67,undef),(66,undef),(65,undef),(64,undef),(63,.bool true),(62,.bool true),(61,undef)]<|ge_off rfl rfl rfl (by kernel_rfl) ?_
    refine gb0 [47,48,49,50,51,52,53] [(77,undef),(76,undef),(75,undef),(74,undef),(73,.bool true),(72,.bool true),(71,undef)]<|ge_off rfl rfl rfl (by kernel_rfl) ?_
    refine gb0 [55,56,57,58,59,60,61] [(85,undef),(84,undef),(83,undef),(82,undef),(81,.bool true),(80,.bool true),(79,undef)]<|ge_off rfl rfl rfl (by kernel_rfl) ?_
    refine gb0 [63,64] [(88,.bool true),(87,undef)]<|gn hK11<|wt<|ws fun K17 hK17=>wr [(0,0)]<|gb0 [0] [(4,.bool false)]<|gn hK17 ?_
    have hS23:=hS6.takeN 0
    obtain rfl:=si h
    exact we_ret fun a hF=>hQ _ _ _ (Outs.out nofun (Exits.on ⟨rfl,(pr0 [.tmp 4] [.bool false] ⟨rfl,hS23⟩) a hF⟩))
   rw [if_neg hc4] at h
   refine gk 36 (e1.N != e2.N) true (bne_iff_ne.2 hc4)<|gb0 [13,14,15,16,17,18,19,20,21,22,23,24,25] [(49,undef),(48,undef),(47,undef),(46,undef),(45,.bool true),(44,.bool true),(43,undef),(42,undef),(41,undef),(40,undef),(39,undef),(38,undef),(37,undef)]<|ge_off rfl rfl rfl (by kernel_rfl) ?_
   refine gb0 [27,28,29,30,31,32,33,34,35] [(59,undef),(58,undef),(57,undef),(56,undef),(55,undef),(54,undef),(53,.bool true),(52,.bool true),(51,undef)]<|ge_off rfl rfl rfl (by kernel_rfl) ?_
   refine gb0 [37,38,39,40,41,42,43,44,45] [(69,undef),(68,undef),(67,undef),(66,undef),(65,undef),(64,undef),(63,.bool true),(62,.bool true),(61,undef)]<|ge_off rfl rfl rfl (by kernel_rfl) ?_
   refine gb0 [47,48,49,50,51,52,53] [(77,undef),(76,undef),(75,undef),(74,undef),(73,.bool true),(72,.bool true),(71,undef)]<|ge_off rfl rfl rfl (by kernel_rfl) ?_
   refine gb0 [55,56,57,58,59,60,61] [(85,undef),(84,undef),(83,undef),(82,undef),(81,.bool true),(80,.bool true),(79,undef)]<|ge_off rfl rfl rfl (by kernel_rfl) ?_
   refine gb0 [63,64] [(88,.bool true),(87,undef)]<|gn hK11<|wt<|ws fun K18 hK18=>wr [(0,0)]<|gb0 [0] [(4,.bool false)]<|gn hK18 ?_
   have hS24:=hS6.takeN 0
   obtain rfl:=si h
   exact we_ret fun a hF=>hQ _ _ _ (Outs.out nofun (Exits.on ⟨rfl,(pr0 [.tmp 4] [.bool false] ⟨rfl,hS24⟩) a hF⟩))
  rw [if_neg hc3] at h
  refine gk 29 (e1.Kind != e2.Kind) true (bne_iff_ne.2 hc3)<|gb0 [6,7,8,9,10,11,12,13,14,15,16,17,18,19,20,21,22,23,24,25] [(49,undef),(48,undef),(47,undef),(46,undef),(45,.bool true),(44,.bool true),(43,undef),(42,undef),(41,undef),(40,undef),(39,undef),(38,undef),(37,undef),(36,.bool true),(35,.bool true),(34,undef),(33,undef),(32,undef),(31,undef),(30,undef)]<|ge_off rfl rfl rfl (by kernel_rfl) ?_
  refine gb0 [27,28,29,30,31,32,33,34,35] [(59,undef),(58,undef),(57,undef),(56,undef),(55,undef),(54,undef),(53,.bool true),(52,.bool true),(51,undef)]<|ge_off rfl rfl rfl (by kernel_rfl) ?_
  refine gb0 [37,38,39,40,41,42,43,44,45] [(69,undef),(68,undef),(67,undef),(66,undef),(65,undef),(64,undef),(63,.bool true),(62,.bool true),(61,undef)]<|ge_off rfl rfl rfl (by kernel_rfl) ?_
  refine gb0 [47,48,49,50,51,52,53] [(77,undef),(76,undef),(75,undef),(74,undef),(73,.bool true),(72,.bool true),(71,undef)]<|ge_off rfl rfl rfl (by kernel_rfl) ?_
  refine gb0 [55,56,57,58,59,60,61] [(85,undef),(84,undef),(83,undef),(82,undef),(81,.bool true),(80,.bool true),(79,undef)]<|ge_off rfl rfl rfl (by kernel_rfl) ?_
  refine gb0 [63,64] [(88,.bool true),(87,undef)]<|gn hK11<|wt<|ws fun K19 hK19=>wr [(0,0)]<|gb0 [0] [(4,.bool false)]<|gn hK19 ?_
  have hS25:=hS6.takeN 0
  obtain rfl:=si h
  exact we_ret fun a hF=>hQ _ _ _ (Outs.out nofun (Exits.on ⟨rfl,(pr0 [.tmp 4] [.bool false] ⟨rfl,hS25⟩) a hF⟩))
 rw [if_neg hc2] at h
 refine wk 16 (decide ((i1:Int)<(l0.length:Int))) false (decide_eq_false hc2)<|wf ?_
 obtain rfl:=si h
 exact we_exit fun a hF=>hQ _ _ _ (Outs.out nofun (Exits.here ⟨hS,hF.weaken trivial⟩))
theorem ps_Bodies_step (K:Nat) (rec_ps_Bodies:(List SStmt)→(List SStmt)→Option Bool) (hr_ps_Bodies:ps_Bodies.Rec rec_ps_Bodies) (Z:Zone) (l0:List SStmt) (A0:OA) (c0:Nat) (l1:List SStmt) (A1:OA) (c1:Nat) (w0:World) (hZ:∀ w,Sub w0 w→Z w) (hR0:RdZ Z A0 l0) (hL0:l0.length≤c0) (hR1:RdZ Z A1 l1) (hL1:l1.length≤c1) (r:Bool) (h:ps_Bodies.b K rec_ps_Bodies l0 l1=some r) :
  Calls Try.prog 13 #[.slice A0 l0.length c0,.slice A1 l1.length c1] w0 (ps_Bodies.Post w0 r):=by
 have hS:=St.start w0
 unfold ps_Bodies.b at h
 refine calls_enter (n:=90) (args:=[.slice A0 l0.length c0,.slice A1 l1.length c1]) (fn:=Try.f13) rfl rfl rfl rfl ?_
 show WE _ _ _ _ [(0,.slice A0 l0.length c0),(1,.slice A1 l1.length c1)] _
 refine ws fun K1 hK1=>wr [(0,0)]<|gb0 [0] [(4,.bool false)]<|gn hK1<|ws fun K2 hK2=>ws fun K3 hK3=>wr [(0,0),(1,0),(2,0),(3,0),(4,0)]<|gb0 [0,1,2,3,4] [(12,.bool ((l0.length:Int) != (l1.length:Int))),(11,vI (l1.length:Int)),(10,.slice A1 l1.length c1),(9,vI (l0.length:Int)),(8,.slice A0 l0.length c0)]<|gn hK3 ?_
 by_cases hc1:(l0.length:Int)=(l1.length:Int)
 ·rw [if_pos hc1] at h
  refine wk 12 ((l0.length:Int) != (l1.length:Int)) false (bne_eq_false_iff_eq.2 hc1)<|wf<|we_skip fun a hF=>hK2 _ _ ?_ a hF
  refine ws fun K4 hK4=>ws fun K5 hK5=>wr [(0,0),(1,0),(2,0)]<|gb0 [0,1,2] [(15,vI 0),(14,vI (l0.length:Int)),(13,.slice A0 l0.length c0)]<|gn hK5<|we_block ?_
  rcases hq6:iter (ps_Bodies.r0 K l0 l1 rec_ps_Bodies) K 0 with _ | (_ | rr1)
  ·rw [hq6] at h; cases h
  ·rw [hq6] at h
   simp only [] at h
   refine we_iter (A:=ps_Bodies.A0 w0 l0 A0 c0 l1 A1 c1) (B:=ps_Bodies.B0 w0) hq6 (fun a hF=>⟨hS,hF.weaken ea⟩) (fun s o hf a w hA Q hQ=>ps_Bodies_r0 K w0 Z l0 A0 c0 l1 A1 c1 hZ hR0 hL0 hR1 hL1 rec_ps_Bodies hr_ps_Bodies hc1 s o hf a w hA Q hQ) ?_
   rintro _ a w10 _ ⟨rfl,hS26,hF⟩
   replace hS26:St w0 w10 []:=hS26
   refine hK4 [] w10 ?_ a hF
   refine ws fun K20 hK20=>wr [(0,0)]<|gb0 [0] [(4,.bool true)]<|gn hK20 ?_
   obtain rfl:=si h
   exact we_ret (pr0 [.tmp 4] [.bool true] ⟨rfl,hS26⟩)
  rw [hq6] at h
  simp only [] at h
  refine we_iter (A:=ps_Bodies.A0 w0 l0 A0 c0 l1 A1 c1) (B:=ps_Bodies.B0 w0) hq6 (fun a hF=>⟨hS,hF.weaken ea⟩) (fun s o hf a w hA Q hQ=>ps_Bodies_r0 K w0 Z l0 A0 c0 l1 A1 c1 hZ hR0 hL0 hR1 hL1 rec_ps_Bodies hr_ps_Bodies hc1 s o hf a w hA Q hQ) ?_
  rintro _ a w1 _ ⟨rfl,hb⟩
  obtain rfl:=si h
  exact hb
 rw [if_neg hc1] at h
 refine wk 12 ((l0.length:Int) != (l1.length:Int)) true (bne_iff_ne.2 hc1)<|wt<|ws fun K21 hK21=>wr [(0,0)]<|gb0 [0] [(4,.bool false)]<|gn hK21 ?_
 obtain rfl:=si h
 exact we_ret (pr0 [.tmp 4] [.bool false] ⟨rfl,hS⟩)
def ps_Bodies.recs (K : Nat) : Nat → ((List SStmt) → (List SStmt) → Option Bool)
 | 0=>fun _ _=>none
 | n+1=>ps_Bodies.b K (ps_Bodies.recs K n)
theorem ps_Bodies_all (K n:Nat):ps_Bodies.Rec (ps_Bodies.recs K n):=by
 induction n with
 | zero=>exact (by unfold ps_Bodies.Rec; intros; rename_i h; cases (show none=some _ from h))
 | succ n ih=>exact ps_Bodies_step K _ ih
def ps_Bodies.f (K : Nat) (l0 : List SStmt) (l1 : List SStmt) : Option Bool := (ps_Bodies.recs K K) l0 l1
theorem ps_Bodies_ok (K:Nat) (Z:Zone) (l0:List SStmt) (A0:OA) (c0:Nat) (l1:List SStmt) (A1:OA) (c1:Nat) (w0:World) (hZ:∀ w,Sub w0 w→Z w) (hR0:RdZ Z A0 l0) (hL0:l0.length≤c0) (hR1:RdZ Z A1 l1) (hL1:l1.length≤c1) (r:Bool) (h:ps_Bodies.f K l0 l1=some r):Calls Try.prog 13 #[.slice A0 l0.length c0,.slice A1 l1.length c1] w0 (ps_Bodies.Post w0 r):=(ps_Bodies_all K K) Z l0 A0 c0 l1 A1 c1 w0 hZ hR0 hL0 hR1 hL1 r h

/-! punctual/punctualsame.Still[int] -/
abbrev ps_Still_int.Post (w0:World) (r:Bool) (e:Ending) (w:World):Prop:=e=.returned (.bool r)∧St w0 w []
def ps_Still_int.r0 (f0 : List Int) (l1 : List Int) (x2 : Int) : Nat → Option (Nat ⊕ (Unit ⊕ Bool))
 | i1 =>
  if (i1:Int)<(f0.length:Int) then
   match f0[i1]? with
   | none=>none
   | some e1 =>
    if (i1:Int)<(l1.length:Int) then
     match l1[i1]? with
     | none=>none
     | some e2 =>
      if e1=e2 then
       if (i1:Int) ≥ (l1.length:Int) then
        if e1=x2 then
         some (.inl (i1+1))
        else
         some (.inr (.inr false))
       else
        some (.inl (i1+1))
      else
       some (.inr (.inr false))
    else
     if (i1:Int) ≥ (l1.length:Int) then
      if e1=x2 then
       some (.inl (i1+1))
      else
       some (.inr (.inr false))
     else
      some (.inl (i1+1))
  else
   some (.inr (.inl ()))
def ps_Still_int.f (K : Nat) (f0 : List Int) (l1 : List Int) (x2 : Int) : Option Bool :=
 if (IntKind.i64.wrap ((l1.length:Int)+3))=(f0.length:Int) then
  match iter (ps_Still_int.r0 f0 l1 x2) K 0 with
  | none=>none
  | some (.inl _) =>
   some true
  | some (.inr rr1) =>
   some rr1
 else
  none
abbrev ps_Still_int.A0 (w0:World) (f0:List Int) (A0:OA) (c0:Nat) (l1:List Int) (A1:OA) (c1:Nat) (x2:Int):Nat→Act→World→Prop:=fun (s:Nat) a w=>St w0 w []∧Frm 46 a [(1,.slice A1 l1.length c1),(2,vI x2),(15,.slice A0 f0.length c0),(16,vI (f0.length:Int)),(17,vI (s:Int))]
abbrev ps_Still_int.B0 (w0:World):(Unit ⊕ Bool)→Exit→Act→World→Prop:=Exits 0 (fun (s:Unit) a w=>St w0 w []∧Frm 46 a []) (Rets Try.prog Try.f14 (ps_Still_int.Post w0))
theorem ps_Still_int_r0 (K:Nat) (w0:World) (f0:List Int) (A0:OA) (n0 c0:Nat) (l1:List Int) (A1:OA) (c1:Nat) (x2:Int) (hR0:RdL w0 A0 f0) (hc0:f0.length≤c0) (hR1:RdL w0 A1 l1) (hL1:l1.length≤c1) (hc1:(IntKind.i64.wrap ((l1.length:Int)+3))=(f0.length:Int)) (s:Nat) (o:Nat ⊕ (Unit ⊕ Bool)) (h:ps_Still_int.r0 f0 l1 x2 s=some o) (a:Act) (w:World) (hA:ps_Still_int.A0 w0 f0 A0 c0 l1 A1 c1 x2 s a w) (Q:Exit→Act→World→Prop) (hQ:∀ x a w,Outs (ps_Still_int.A0 w0 f0 A0 c0 l1 A1 c1 x2) (ps_Still_int.B0 w0) o x a w→Q x a w):(subF Try.f14 [1,1,0,1,0,0]).wp Try.prog Q a w:=by
 obtain ⟨i1,hs⟩:∃ z,z=s:=⟨s,rfl⟩
 subst hs
 obtain ⟨hS,hF⟩:=hA
 replace hS:St w0 w []:=hS
 simp only [ps_Still_int.r0] at h
 refine (?_:WE Try.prog 46 (subF Try.f14 [1,1,0,1,0,0]) Q [(1,.slice A1 l1.length c1),(2,vI x2),(15,.slice A0 f0.length c0),(16,vI (f0.length:Int)),(17,vI (i1:Int))] w) a hF
 clear hF a
 refine ws fun K5 hK5=>wr [(0,0)]<|gb0 [0] [(18,.bool (decide ((i1:Int)<(f0.length:Int))))]<|gn hK5<|ws fun K6 hK6=>?_
 by_cases hc2:(i1:Int)<(f0.length:Int)
 ·rw [if_pos hc2] at h
  refine wk 18 (decide ((i1:Int)<(f0.length:Int))) true (decide_eq_true hc2)<|wt<|we_skip fun a hF=>hK6 _ _ ?_ a hF
  refine ws fun K7 hK7=>we_block<|ws fun K8 hK8=>wr [(0,0),(1,0),(2,0),(3,0),(4,0)]<|gb0 [0] [(19,vI (i1:Int))] ?_
  rcases hx1:f0[i1]? with _ | e1
  ·rw [hx1] at h; cases h
  rw [hx1] at h
  simp only [] at h
  refine gi 20 0 23 3 1 f0.length c0 (.tmp 15) (.tmp 17) A0 .i64 (i1:Int) i1 ((hS.rd hR0).eqSome (pos_of_get hx1)) rfl (lt_of_get hx1) ?_
  refine gb [2,3,4] [(9,vI e1),(8,vI (i1:Int)),(21,vI e1)] [.loaded ⟨blkOf A0,offOf A0+i1*1,none⟩ (vI e1)] ⟨RdL.cell (j:=0) (hS.rd hR0) hx1 rfl,trivial⟩<|gn hK8<|ws fun K9 hK9=>wr [(0,0),(1,0),(2,0),(3,0),(4,0),(5,0),(6,0),(7,0),(8,0),(9,0),(10,0),(11,0),(12,0),(13,0),(14,0),(15,0),(16,0),(17,0),(18,0),(19,0),(20,0),(21,0),(22,0)]<|gb0 [0,1,2,3,4] [(26,.bool (decide ((i1:Int)<(l1.length:Int)))),(25,.bool (decide ((i1:Int)<(l1.length:Int)))),(24,vI (l1.length:Int)),(23,.slice A1 l1.length c1),(22,vI (i1:Int))] ?_
  by_cases hc3:(i1:Int)<(l1.length:Int)
  ·rw [if_pos hc3] at h
   refine gk 26 (decide ((i1:Int)<(l1.length:Int))) true (decide_eq_true hc3)<|gb0 [5,6,7] [(29,vI (i1:Int)),(28,.slice A1 l1.length c1),(27,vI e1)] ?_
   rcases hx2:l1[i1]? with _ | e2
   ·rw [hx2] at h; cases h
   rw [hx2] at h
   simp only [] at h
   refine gi 30 0 23 3 1 l1.length c1 (.tmp 28) (.tmp 29) A1 .i64 (i1:Int) i1 ((hS.rd hR1).eqSome (pos_of_get hx2)) rfl (lt_of_get hx2) ?_
   refine gb [9,10,11,12] [(34,.bool (e1 != e2)),(33,.bool (e1 != e2)),(32,.bool (e1 != e2)),(31,vI e2)] [.loaded ⟨blkOf A1,offOf A1+i1*1,none⟩ (vI e2)] ⟨RdL.cell (j:=0) (hS.rd hR1) hx2 rfl,trivial⟩ ?_
   by_cases hc4:e1=e2
   ·rw [if_pos hc4] at h
    refine gk 34 (e1 != e2) false (bne_eq_false_iff_eq.2 hc4)<|gb0 [13,14,15,16,17] [(39,.bool (decide ((i1:Int) ≥ (l1.length:Int)))),(38,.bool (decide ((i1:Int) ≥ (l1.length:Int)))),(37,vI (l1.length:Int)),(36,.slice A1 l1.length c1),(35,vI (i1:Int))] ?_
    by_cases hc5:(i1:Int) ≥ (l1.length:Int)
    ·rw [if_pos hc5] at h
     refine gk 39 (decide ((i1:Int) ≥ (l1.length:Int))) true (decide_eq_true hc5)<|gb0 [18,19,20,21,22] [(44,.bool (e1 != x2)),(43,.bool (e1 != x2)),(42,.bool (e1 != x2)),(41,vI x2),(40,vI e1)]<|gn hK9 ?_
     by_cases hc6:e1=x2
     ·rw [if_pos hc6] at h
      refine wk 44 (e1 != x2) false (bne_eq_false_iff_eq.2 hc6)<|wf<|we_skip fun a hF=>hK7 _ _ ?_ a hF
      refine wr [(0,0),(1,0)]<|ge_addn (d:=45) (ty:=3) (x:=(.tmp 17)) (y:=(.const (vI 1))) (t:=3) (t2:=3) (k:=.i64) (m:=i1) (by kernel_rfl) (by kernel_rfl) (by kernel_rfl) (by have h0:=hR0.small; omega) ?_
      refine gb0 [1] [(17,vI ((i1+1:Nat):Int))] ?_
      obtain rfl:=si h
      exact ge_nil fun a hF=>hQ _ _ _ (Outs.again ⟨hS,hF.weaken ea⟩)
     rw [if_neg hc6] at h
     refine wk 44 (e1 != x2) true (bne_iff_ne.2 hc6)<|wt<|ws fun K10 hK10=>wr [(0,0)]<|gb0 [0] [(6,.bool false)]<|gn hK10 ?_
     obtain rfl:=si h
     exact we_ret fun a hF=>hQ _ _ _ (Outs.out nofun (Exits.on ⟨rfl,(pr0 [.tmp 6] [.bool false] ⟨rfl,hS⟩) a hF⟩))
    rw [if_neg hc5] at h
    refine gk 39 (decide ((i1:Int) ≥ (l1.length:Int))) false (decide_eq_false hc5)<|gb0 [18,19,20,21,22] [(44,.bool false),(43,.bool false),(42,undef),(41,undef),(40,undef)]<|gn hK9<|wf<|we_skip fun a hF=>hK7 _ _ ?_ a hF
    refine wr [(0,0),(1,0)]<|ge_addn (d:=45) (ty:=3) (x:=(.tmp 17)) (y:=(.const (vI 1))) (t:=3) (t2:=3) (k:=.i64) (m:=i1) (by kernel_rfl) (by kernel_rfl) (by kernel_rfl) (by have h0:=hR0.small; omega) ?_
    refine gb0 [1] [(17,vI ((i1+1:Nat):Int))] ?_
    obtain rfl:=si h
    exact ge_nil fun a hF=>hQ _ _ _ (Outs.again ⟨hS,hF.weaken ea⟩)
   rw [if_neg hc4] at h
   refine gk 34 (e1 != e2) true (bne_iff_ne.2 hc4)<|gb0 [13,14,15,16,17,18,19,20,21,22] [(44,.bool true),(43,undef),(42,undef),(41,undef),(40,undef),(39,undef),(38,undef),(37,undef),(36,undef),(35,undef)]<|gn hK9<|wt<|ws fun K11 hK11=>wr [(0,0)]<|gb0 [0] [(6,.bool false)]<|gn hK11 ?_
   obtain rfl:=si h
   exact we_ret fun a hF=>hQ _ _ _ (Outs.out nofun (Exits.on ⟨rfl,(pr0 [.tmp 6] [.bool false] ⟨rfl,hS⟩) a hF⟩))
  rw [if_neg hc3] at h
  refine gk 26 (decide ((i1:Int)<(l1.length:Int))) false (decide_eq_false hc3)<|gb0 [5,6,7,8,9,10,11,12,13,14,15,16,17] [(39,.bool (decide ((i1:Int) ≥ (l1.length:Int)))),(38,.bool (decide ((i1:Int) ≥ (l1.length:Int)))),(37,vI (l1.length:Int)),(36,.slice A1 l1.length c1),(35,vI (i1:Int)),(34,.bool false),(33,.bool false),(32,undef),(31,undef),(30,undef),(29,undef),(28,undef),(27,undef)] ?_
  by_cases hc7:(i1:Int) ≥ (l1.length:Int)
  ·rw [if_pos hc7] at h
   refine gk 39 (decide ((i1:Int) ≥ (l1.length:Int))) true (decide_eq_true hc7)<|gb0 [18,19,20,21,22] [(44,.bool (e1 != x2)),(43,.bool (e1 != x2)),(42,.bool (e1 != x2)),(41,vI x2),(40,vI e1)]<|gn hK9 ?_
   by_cases hc8:e1=x2
   ·rw [if_pos hc8] at h
    refine wk 44 (e1 != x2) false (bne_eq_false_iff_eq.2 hc8)<|wf<|we_skip fun a hF=>hK7 _ _ ?_ a hF
    refine wr [(0,0),(1,0)]<|ge_addn (d:=45) (ty:=3) (x:=(.tmp 17)) (y:=(.const (vI 1))) (t:=3) (t2:=3) (k:=.i64) (m:=i1) (by kernel_rfl) (by kernel_rfl) (by kernel_rfl) (by have h0:=hR0.small; omega) ?_
    refine gb0 [1] [(17,vI ((i1+1:Nat):Int))] ?_
    obtain rfl:=si h
    exact ge_nil fun a hF=>hQ _ _ _ (Outs.again ⟨hS,hF.weaken ea⟩)
   rw [if_neg hc8] at h
   refine wk 44 (e1 != x2) true (bne_iff_ne.2 hc8)<|wt<|ws fun K12 hK12=>wr [(0,0)]<|gb0 [0] [(6,.bool false)]<|gn hK12 ?_
   obtain rfl:=si h
   exact we_ret fun a hF=>hQ _ _ _ (Outs.out nofun (Exits.on ⟨rfl,(pr0 [.tmp 6] [.bool false] ⟨rfl,hS⟩) a hF⟩))
  rw [if_neg hc7] at h
  refine gk 39 (decide ((i1:Int) ≥ (l1.length:Int))) false (decide_eq_false hc7)<|gb0 [18,19,20,21,22] [(44,.bool false),(43,.bool false),(42,undef),(41,undef),(40,undef)]<|gn hK9<|wf<|we_skip fun a hF=>hK7 _ _ ?_ a hF
  refine wr [(0,0),(1,0)]<|ge_addn (d:=45) (ty:=3) (x:=(.tmp 17)) (y:=(.const (vI 1))) (t:=3) (t2:=3) (k:=.i64) (m:=i1) (by kernel_rfl) (by kernel_rfl) (by kernel_rfl) (by have h0:=hR0.small; omega) ?_
  refine gb0 [1] [(17,vI ((i1+1:Nat):Int))] ?_
  obtain rfl:=si h
  exact ge_nil fun a hF=>hQ _ _ _ (Outs.again ⟨hS,hF.weaken ea⟩)
 rw [if_neg hc2] at h
 refine wk 18 (decide ((i1:Int)<(f0.length:Int))) false (decide_eq_false hc2)<|wf ?_
 obtain rfl:=si h
 exact we_exit fun a hF=>hQ _ _ _ (Outs.out nofun (Exits.here ⟨hS,hF.weaken trivial⟩))
theorem ps_Still_int_ok (K:Nat) (f0:List Int) (A0:OA) (n0 c0:Nat) (l1:List Int) (A1:OA) (c1:Nat) (x2:Int) (w0:World) (hR0:RdL w0 A0 f0) (hc0:f0.length≤c0) (hR1:RdL w0 A1 l1) (hL1:l1.length≤c1) (r:Bool) (h:ps_Still_int.f K f0 l1 x2=some r) :
  Calls Try.prog 14 #[.slice A0 n0 c0,.slice A1 l1.length c1,vI x2] w0 (ps_Still_int.Post w0 r):=by
 have hS:=St.start w0
 unfold ps_Still_int.f at h
 refine calls_enter (n:=46) (args:=[.slice A0 n0 c0,.slice A1 l1.length c1,vI x2]) (fn:=Try.f14) rfl rfl rfl rfl ?_
 show WE _ _ _ _ [(0,.slice A0 n0 c0),(1,.slice A1 l1.length c1),(2,vI x2)] _
 refine ws fun K1 hK1=>wr [(0,0)]<|gb0 [0] [(6,.bool false)]<|gn hK1<|ws fun K2 hK2=>wr [(0,0),(1,0),(2,0),(3,0),(4,0),(5,0)]<|gb0 [0,1,2,3] [(13,vI (IntKind.i64.wrap ((l1.length:Int)+3))),(12,vI (l1.length:Int)),(11,.slice A1 l1.length c1),(10,.slice A0 n0 c0)] ?_
 by_cases hc1:(IntKind.i64.wrap ((l1.length:Int)+3))=(f0.length:Int)
 ·rw [if_pos hc1] at h
  refine ge_sliceHi (d:=14) (ty:=23) (t:=23) (el:=3) (sz:=1) (m:=n0) (c:=c0) (hn:=f0.length) (x:=(.tmp 10)) (y:=(.tmp 13)) (A:=A0) (k':=.i64) (hi:=(IntKind.i64.wrap ((l1.length:Int)+3))) (by kernel_rfl) (by kernel_rfl) (by kernel_rfl) hc1 (by kernel_rfl) (by kernel_rfl) hc0 ?_
  refine gb0 [5] [(7,.slice A0 f0.length c0)]<|gn hK2<|ws fun K3 hK3=>ws fun K4 hK4=>wr [(0,0),(1,0),(2,0)]<|gb0 [0,1,2] [(17,vI 0),(16,vI (f0.length:Int)),(15,.slice A0 f0.length c0)]<|gn hK4<|we_block ?_
  rcases hq1:iter (ps_Still_int.r0 f0 l1 x2) K 0 with _ | (_ | rr1)
  ·rw [hq1] at h; cases h
  ·rw [hq1] at h
   simp only [] at h
   refine we_iter (A:=ps_Still_int.A0 w0 f0 A0 c0 l1 A1 c1 x2) (B:=ps_Still_int.B0 w0) hq1 (fun a hF=>⟨hS,hF.weaken ea⟩) (fun s o hf a w hA Q hQ=>ps_Still_int_r0 K w0 f0 A0 n0 c0 l1 A1 c1 x2 hR0 hc0 hR1 hL1 hc1 s o hf a w hA Q hQ) ?_
   rintro _ a w1 _ ⟨rfl,hS1,hF⟩
   replace hS1:St w0 w1 []:=hS1
   refine hK3 [] w1 ?_ a hF
   refine ws fun K13 hK13=>wr [(0,0)]<|gb0 [0] [(6,.bool true)]<|gn hK13 ?_
   obtain rfl:=si h
   exact we_ret (pr0 [.tmp 6] [.bool true] ⟨rfl,hS1⟩)
  rw [hq1] at h
  simp only [] at h
  refine we_iter (A:=ps_Still_int.A0 w0 f0 A0 c0 l1 A1 c1 x2) (B:=ps_Still_int.B0 w0) hq1 (fun a hF=>⟨hS,hF.weaken ea⟩) (fun s o hf a w hA Q hQ=>ps_Still_int_r0 K w0 f0 A0 n0 c0 l1 A1 c1 x2 hR0 hc0 hR1 hL1 hc1 s o hf a w hA Q hQ) ?_
  rintro _ a w1 _ ⟨rfl,hb⟩
  obtain rfl:=si h
  exact hb
 rw [if_neg hc1] at h
 cases h

/-! punctual/punctualsame.Spoil[int] -/
theorem ps_Spoil_int_ok (w0 w:World) {L:List Own} (A:OA) (n c:Nat) (l:List Int) (hS:St w0 w (Own.of (.slice A n c) 3 l::L)):Calls Try.prog 15 #[.slice A n c] w (fun e w'=>e=.returned (.tuple #[])∧St w0 w' L):=by
 refine calls_enter (n:=6) (args:=[.slice A n c]) (fn:=Try.f15) rfl rfl rfl rfl ?_
 show WE _ _ _ _ [(0,.slice A n c)] _
 refine wr [(0,0),(1,0),(2,0),(3,0),(4,2)]<|gb0 [0,1,2] [(4,vI (c:Int)),(3,.slice A n c),(2,.slice A n c)]<|ge_sliceHi (d:=5) (ty:=23) (t:=23) (el:=3) (sz:=1) (m:=n) (c:=c) (hn:=c) (x:=(.tmp 2)) (y:=(.tmp 4)) (A:=A) (k':=.i64) (hi:=(c:Int)) (by kernel_rfl) (by kernel_rfl) (by kernel_rfl) rfl (by kernel_rfl) (by kernel_rfl) (Nat.le_refl _) ?_
 refine ge_clear (α:=Int) (m:=0) (t:=23) (el:=3) (c:=c) (k:=n) (bytes:=8) (x:=(.tmp 5)) (ty:=0) (A:=A) (z:=vI 0) (l:=l) (by kernel_rfl) (by kernel_rfl) (by kernel_rfl) (by kernel_rfl) rfl rfl hS fun w1 hS1=>?_
 exact ge_nil (pe0 [] [] ⟨rfl,hS1⟩)

/-! punctual/punctualsame.Spoil[punctual/api.Put] -/
theorem ps_Spoil_api_Put_ok (w0 w:World) {L:List Own} (A:OA) (n c:Nat) (l:List SPut) (hS:St w0 w (Own.of (.slice A n c) 42 l::L)):Calls Try.prog 16 #[.slice A n c] w (fun e w'=>e=.returned (.tuple #[])∧St w0 w' L):=by
 refine calls_enter (n:=6) (args:=[.slice A n c]) (fn:=Try.f16) rfl rfl rfl rfl ?_
 show WE _ _ _ _ [(0,.slice A n c)] _
 refine wr [(0,0),(1,0),(2,0),(3,0),(4,2)]<|gb0 [0,1,2] [(4,vI (c:Int)),(3,.slice A n c),(2,.slice A n c)]<|ge_sliceHi (d:=5) (ty:=26) (t:=26) (el:=42) (sz:=2) (m:=n) (c:=c) (hn:=c) (x:=(.tmp 2)) (y:=(.tmp 4)) (A:=A) (k':=.i64) (hi:=(c:Int)) (by kernel_rfl) (by kernel_rfl) (by kernel_rfl) rfl (by kernel_rfl) (by kernel_rfl) (Nat.le_refl _) ?_
 refine ge_clear (α:=SPut) (m:=0) (t:=26) (el:=42) (c:=c) (k:=n) (bytes:=16) (x:=(.tmp 5)) (ty:=0) (A:=A) (z:=.agg #[vI 0,vI 0]) (l:=l) (by kernel_rfl) (by kernel_rfl) (by kernel_rfl) (by kernel_rfl) rfl rfl hS fun w1 hS1=>?_
 exact ge_nil (pe0 [] [] ⟨rfl,hS1⟩)

/-! punctual/punctuallaw.MeaningRuns -/
abbrev MeaningRuns.Post (w0:World) (r:Bool) (e:Ending) (w:World):Prop:=e=.returned (.bool r)∧St w0 w []
def MeaningRuns.r0 (K : Nat) (l0 : List SStmt) (l1 : List Int) (l2 : List Int) (r3 : SEnded × SFault) (r4 : List SStmt) : Nat → Option (Nat ⊕ (Unit ⊕ Bool))
 | i1 =>
  if (i1:Int)<2 then
   match meaning_Run.f K r4 l1 l2 with
   | none=>none
   | some r7 =>
    if (SFault.eqb r7.2 r3.2)=true then
     match ps_Ends.f K r7.1.Vars r7.1.Puts r7.1.Steps r3.1.Vars r3.1.Puts r3.1.Steps with
     | none=>none
     | some r8 =>
      if r8=true then
       match ps_Bodies.f K r4 l0 with
       | none=>none
       | some r9 =>
        if r9=true then
         match ps_Still_int.f K (l1++[(-9),(-9),(-9)]) l1 (-9) with
         | none=>none
         | some r10 =>
          if r10=true then
           match ps_Still_int.f K (l2++[(-9),(-9),(-9)]) l2 (-9) with
           | none=>none
           | some r11 =>
            if r11=true then
             some (.inl (i1+1))
            else
             some (.inr (.inr false))
          else
           some (.inr (.inr false))
        else
         some (.inr (.inr false))
      else
       some (.inr (.inr false))
    else
     some (.inr (.inr false))
  else
   some (.inr (.inl ()))
def MeaningRuns.f (K : Nat) (l0 : List SStmt) (l1 : List Int) (l2 : List Int) : Option Bool :=
 match does.f K with
 | none=>none
 | some r1 =>
  if r1=true then
   match claims.f K l0 with
   | none=>none
   | some r2 =>
    if r2=true then
     match pr_Mean.f K l0 l1 l2 with
     | none=>none
     | some r3 =>
      match ps_Twin.f K l0 with
      | none=>none
      | some r4 =>
       match ps_Lend_int.f l1 (-9) with
       | none=>none
       | some _ =>
        match ps_Lend_int.f l2 (-9) with
        | none=>none
        | some _ =>
         match iter (MeaningRuns.r0 K l0 l1 l2 r3 r4) K 0 with
         | none=>none
         | some (.inl _) =>
          some true
         | some (.inr rr1) =>
          some rr1
    else
     some true
  else
   some false
abbrev MeaningRuns.A0 (w0:World) (l0:List SStmt) (A0:OA) (c0:Nat) (l1:List Int) (A1:OA) (c1:Nat) (l2:List Int) (A2:OA) (c2:Nat) (r3:SEnded×SFault) (b1 b2:Nat) (Z1:OA) (cz1:Nat) (Z2:OA) (cz2:Nat) (r4:List SStmt) (Z3:OA) (cz3:Nat) (Z4:OA) (cz4:Nat) (Z5:OA) (cz5:Nat) (wf4:World):Nat→Act→World→Prop:=fun (s:Nat) a w=>∃ (ft5:List Nat) (wf5:World),Sub wf4 wf5∧St w0 w [bk b2 #[vI r3.2.Code,vI r3.2.At] 31,bk b1 #[(.slice Z1 r3.1.Vars.length cz1),(.slice Z2 r3.1.Puts.length cz2),vI r3.1.Steps] 28,ro Z3 cz3 3 (l1++[(-9),(-9),(-9)]),ro Z4 cz4 3 (l2++[(-9),(-9),(-9)]),ro Z1 cz1 3 r3.1.Vars,ro Z2 cz2 42 r3.1.Puts,Own.frz ft5 wf5]∧Frm 75 a [(0,.slice A0 l0.length c0),(1,.slice A1 l1.length c1),(2,.slice A2 l2.length c2),(7,pP b1 0),(8,pP b2 0),(9,.slice Z5 r4.length cz5),(10,.slice Z3 l1.length cz3),(11,.slice Z4 l2.length cz4),(32,vI (s:Int))]
abbrev MeaningRuns.B0 (w0 wf4:World):(Unit ⊕ Bool)→Exit→Act→World→Prop:=Exits 0 (fun (s:Unit) a w=>∃ (ft6:List Nat) (wf6:World),Sub wf4 wf6∧St w0 w [Own.frz ft6 wf6]∧Frm 75 a []) (Rets Try.prog Try.f3 (MeaningRuns.Post w0))
theorem MeaningRuns_r0 (K:Nat) (w0:World) (Z:Zone) (l0:List SStmt) (A0:OA) (c0:Nat) (l1:List Int) (A1:OA) (c1:Nat) (l2:List Int) (A2:OA) (c2:Nat) (hZ:∀ w,Sub w0 w→Z w) (hR0:RdZ Z A0 l0) (hL0:l0.length≤c0) (hR1:RdL w0 A1 l1) (hL1:l1.length≤c1) (hR2:RdL w0 A2 l2) (hL2:l2.length≤c2) (ft1:List Nat) (wf1:World) (r1:Bool) (hc1:r1=true) (r2:Bool) (hc2:r2=true) (r3:SEnded×SFault) (b1 b2:Nat) (Z1:OA) (cz1:Nat) (Z2:OA) (cz2:Nat) (r4:List SStmt) (hds1:List HStmt) (ft2:List Nat) (wf2:World) (ft3:List Nat) (wf3:World) (hsb1:Sub wf2 wf3) (hsb2:Sub wf1 wf3) (hd1:DRows (Zand Z wf3) hds1 r4) (Z3:OA) (cz3:Nat) (hcp1:(l1++[(-9),(-9),(-9)]).length≤cz3) (Z4:OA) (cz4:Nat) (hcp2:(l2++[(-9),(-9),(-9)]).length≤cz4) (Z5:OA) (cz5:Nat) (ft4:List Nat) (wf4:World) (hsb3:Sub wf3 wf4) (hRd1:RdZ (Zand Z wf4) Z5 r4) (hLd1:r4.length≤cz5) (s:Nat) (o:Nat ⊕ (Unit ⊕ Bool)) (h:MeaningRuns.r0 K l0 l1 l2 r3 r4 s=some o) (a:Act) (w:World) (hA:MeaningRuns.A0 w0 l0 A0 c0 l1 A1 c1 l2 A2 c2 r3 b1 b2 Z1 cz1 Z2 cz2 r4 Z3 cz3 Z4 cz4 Z5 cz5 wf4 s a w) (Q:Exit→Act→World→Prop) (hQ:∀ x a w,Outs (MeaningRuns.A0 w0 l0 A0 c0 l1 A1 c1 l2 A2 c2 r3 b1 b2 Z1 cz1 Z2 cz2 r4 Z3 cz3 Z4 cz4 Z5 cz5 wf4) (MeaningRuns.B0 w0 wf4) o x a w→Q x a w):(subF Try.f3 [1,1,1,1,1,0,1,0,0]).wp Try.prog Q a w:=by
 obtain ⟨i1,hs⟩:∃ z,z=s:=⟨s,rfl⟩
 subst hs
 obtain ⟨ft5,wf5,hsb4,hS,hF⟩:=hA
 replace hS:St w0 w [bk b2 #[vI r3.2.Code,vI r3.2.At] 31,bk b1 #[(.slice Z1 r3.1.Vars.length cz1),(.slice Z2 r3.1.Puts.length cz2),vI r3.1.Steps] 28,ro Z3 cz3 3 (l1++[(-9),(-9),(-9)]),ro Z4 cz4 3 (l2++[(-9),(-9),(-9)]),ro Z1 cz1 3 r3.1.Vars,ro Z2 cz2 42 r3.1.Puts,Own.frz ft5 wf5]:=hS
 simp only [MeaningRuns.r0] at h
 refine (?_:WE Try.prog 75 (subF Try.f3 [1,1,1,1,1,0,1,0,0]) Q [(0,.slice A0 l0.length c0),(1,.slice A1 l1.length c1),(2,.slice A2 l2.length c2),(7,pP b1 0),(8,pP b2 0),(9,.slice Z5 r4.length cz5),(10,.slice Z3 l1.length cz3),(11,.slice Z4 l2.length cz4),(32,vI (i1:Int))] w) a hF
 clear hF a
 refine ws fun K10 hK10=>wr [(0,0)]<|gb0 [0] [(33,.bool (decide ((i1:Int)<2)))]<|gn hK10<|ws fun K11 hK11=>?_
 by_cases hc3:(i1:Int)<2
 ·rw [if_pos hc3] at h
  refine wk 33 (decide ((i1:Int)<2)) true (decide_eq_true hc3)<|wt<|we_skip fun a hF=>hK11 _ _ ?_ a hF
  refine ws fun K12 hK12=>we_block<|ws fun K13 hK13=>wr [(0,0),(1,0),(2,0),(3,1),(4,0),(5,0),(6,0),(7,1),(8,1),(9,2),(10,2)] ?_
  rcases hq7:meaning_Run.f K r4 l1 l2 with _ | r7
  ·rw [hq7] at h; cases h
  rw [hq7] at h
  simp only [] at h
  refine gb0 [0,1,2] [(37,.slice Z4 l2.length cz4),(36,.slice Z3 l1.length cz3),(35,.slice Z5 r4.length cz5)]<|ge_call (d:=some 38) (f:=11) (args:=#[.slice Z5 r4.length cz5,.slice Z3 l1.length cz3,.slice Z4 l2.length cz4]) (by kernel_rfl) (meaning_Run_ok K (Zand Z wf5) r4 Z5 cz5 l1 Z3 cz3 l2 Z4 cz4 _ (fun w' k=>⟨(hZ w' (hS.subw.trans k)),(hS.frzSub 6 rfl).trans k⟩) (hRd1.up (ZLe.up hsb4)) hLd1 ((hS.rdAt 2 rfl).pre) (by have h0:=hcp1; simp only [List.length_append,List.length_cons,List.length_nil] at h0; omega) ((hS.rdAt 3 rfl).pre) (by have h0:=hcp2; simp only [List.length_append,List.length_cons,List.length_nil] at h0; omega) _ hq7) ?_
  rintro _ w11 ⟨v4,v5,rfl,hS34⟩
  refine ⟨_,rfl,hS34.below,?_⟩
  have hS35:=hS.call hS34
  refine gb0 [4,5,6] [(40,.agg #[vI r7.2.Code,vI r7.2.At]),(39,.agg #[v4,v5,vI r7.1.Steps]),(34,.tuple #[.agg #[v4,v5,vI r7.1.Steps],.agg #[vI r7.2.Code,vI r7.2.At]])]<|gw (some 12) (.cells #[.slice none 0 0,.slice none 0 0,vI 0] 28) (fun b=>pP b 0) hS35 fun b3 w12 hx3 hS36=>?_
  refine gw (some 13) (.cells #[vI 0,vI 0] 31) (fun b=>pP b 0) hS36 fun b4 w13 hx4 hS37=>?_
  obtain ⟨Z6,cz6,rfl⟩:=hS37.open 2 rfl
  obtain ⟨Z7,cz7,rfl⟩:=hS37.open 3 rfl
  have hS38:=hS37.b 1
  refine gs b3 0 #[.slice none 0 0,.slice none 0 0,vI 0] 28 [(.slice Z6 r7.1.Vars.length cz6),(.slice Z7 r7.1.Puts.length cz7),vI r7.1.Steps] hS38 fun w14 hS39=>?_
  have hS41:=(hS39.nc #[(.slice Z6 r7.1.Vars.length cz6),(.slice Z7 r7.1.Puts.length cz7),vI r7.1.Steps] (by kernel_rfl)).b 1
  refine gs b4 0 #[vI 0,vI 0] 31 [vI r7.2.Code,vI r7.2.At] hS41 fun w15 hS42=>?_
  have hS43:=hS42.nc #[vI r7.2.Code,vI r7.2.At] (by kernel_rfl)
  refine gn hK13<|ws fun K14 hK14=>ws fun K15 hK15=>wr [(0,0),(1,0),(2,0),(3,0),(4,0),(5,0),(6,1),(7,0),(8,0),(9,0),(10,0),(11,0),(12,1),(13,0),(14,0),(15,0),(16,0),(17,0),(18,1),(19,0),(20,0),(21,0),(22,0),(23,0),(24,1),(25,0),(26,0)]<|gb [0,1] [(42,.agg #[vI r3.2.Code,vI r3.2.At]),(41,.agg #[vI r7.2.Code,vI r7.2.At])] [ld b4 0 (vI r7.2.Code),ld b4 1 (vI r7.2.At),ld b2 0 (vI r3.2.Code),ld b2 1 (vI r3.2.At)] ⟨hS43.c 0,hS43.c 0,hS43.c 4,hS43.c 4,trivial⟩<|ge_eqs (d:=43) (ty:=4) (op:=.neq) (x:=(.tmp 41)) (y:=(.tmp 42)) (t:=31) (t2:=31) (xs:=#[vI r7.2.Code,vI r7.2.At]) (ys:=#[vI r3.2.Code,vI r3.2.At]) (r:=(SFault.eqb r7.2 r3.2)) (v:=!(SFault.eqb r7.2 r3.2)) (by kernel_rfl) (by kernel_rfl) (by kernel_rfl) (by kernel_rfl) (by kernel_rfl) rfl ?_
  refine gb0 [3] [(44,.bool (!(SFault.eqb r7.2 r3.2)))] ?_
  by_cases hc4:(SFault.eqb r7.2 r3.2)=true
  ·rw [if_pos hc4] at h
   refine gk 44 (!(SFault.eqb r7.2 r3.2)) false (congrArg (fun z=>!z) hc4) ?_
   rcases hq8:ps_Ends.f K r7.1.Vars r7.1.Puts r7.1.Steps r3.1.Vars r3.1.Puts r3.1.Steps with _ | r8
   ·rw [hq8] at h; cases h
   rw [hq8] at h
   simp only [] at h
   refine gb [4,5] [(46,.agg #[(.slice Z1 r3.1.Vars.length cz1),(.slice Z2 r3.1.Puts.length cz2),vI r3.1.Steps]),(45,.agg #[(.slice Z6 r7.1.Vars.length cz6),(.slice Z7 r7.1.Puts.length cz7),vI r7.1.Steps])] [ld b3 0 ((.slice Z6 r7.1.Vars.length cz6)),ld b3 1 ((.slice Z7 r7.1.Puts.length cz7)),ld b3 2 (vI r7.1.Steps),ld b1 0 ((.slice Z1 r3.1.Vars.length cz1)),ld b1 1 ((.slice Z2 r3.1.Puts.length cz2)),ld b1 2 (vI r3.1.Steps)] ⟨hS43.c 1,hS43.c 1,hS43.c 1,hS43.c 5,hS43.c 5,hS43.c 5,trivial⟩<|ge_call (d:=some 47) (f:=12) (args:=#[.agg #[(.slice Z6 r7.1.Vars.length cz6),(.slice Z7 r7.1.Puts.length cz7),vI r7.1.Steps],.agg #[(.slice Z1 r3.1.Vars.length cz1),(.slice Z2 r3.1.Puts.length cz2),vI r3.1.Steps]]) (by kernel_rfl) (ps_Ends_ok K r7.1.Vars Z6 cz6 r7.1.Puts Z7 cz7 r7.1.Steps r3.1.Vars Z1 cz1 r3.1.Puts Z2 cz2 r3.1.Steps _ (hS43.rdAt 2 rfl) (hS43.capAt 2 rfl) (hS43.rdAt 3 rfl) (hS43.capAt 3 rfl) (hS43.rdAt 8 rfl) (hS43.capAt 8 rfl) (hS43.rdAt 9 rfl) (hS43.capAt 9 rfl) _ hq8) ?_
   rintro _ w16 ⟨rfl,hS44⟩
   refine ⟨_,rfl,hS44.below,?_⟩
   have hS45:=hS43.call hS44
   refine gb0 [7,8,9] [(50,.bool (!r8)),(49,.bool (!r8)),(48,.bool (!r8))] ?_
   by_cases hc5:r8=true
   ·rw [if_pos hc5] at h
    refine gk 50 (!r8) false (congrArg (fun z=>!z) hc5) ?_
    rcases hq9:ps_Bodies.f K r4 l0 with _ | r9
    ·rw [hq9] at h; cases h
    rw [hq9] at h
    simp only [] at h
    refine gb0 [10,11] [(52,.slice A0 l0.length c0),(51,.slice Z5 r4.length cz5)]<|ge_call (d:=some 53) (f:=13) (args:=#[.slice Z5 r4.length cz5,.slice A0 l0.length c0]) (by kernel_rfl) (ps_Bodies_ok K (Zand Z wf5) r4 Z5 cz5 l0 A0 c0 _ (fun w' k=>⟨(hZ w' (hS45.subw.trans k)),(hS45.frzSub 10 rfl).trans k⟩) (hRd1.up (ZLe.up hsb4)) hLd1 (hR0.up (ZLe.in _ _)) hL0 _ hq9) ?_
    rintro _ w17 ⟨rfl,hS46⟩
    refine ⟨_,rfl,hS46.below,?_⟩
    have hS47:=hS45.call hS46
    refine gb0 [13,14,15] [(56,.bool (!r9)),(55,.bool (!r9)),(54,.bool (!r9))] ?_
    by_cases hc6:r9=true
    ·rw [if_pos hc6] at h
     refine gk 56 (!r9) false (congrArg (fun z=>!z) hc6)<|gb0 [16,17] [(58,.slice A1 l1.length c1),(57,.slice Z3 l1.length cz3)] ?_
     rcases hq10:ps_Still_int.f K (l1++[(-9),(-9),(-9)]) l1 (-9) with _ | r10
     ·rw [hq10] at h; cases h
     rw [hq10] at h
     simp only [] at h
     refine ge_call (d:=some 59) (f:=14) (args:=#[.slice Z3 l1.length cz3,.slice A1 l1.length c1,vI (-9)]) (by kernel_rfl) (ps_Still_int_ok K (l1++[(-9),(-9),(-9)]) Z3 l1.length cz3 l1 A1 c1 (-9) _ (hS47.rdAt 6 rfl) hcp1 (hS47.rd hR1) hL1 _ hq10) ?_
     rintro _ w18 ⟨rfl,hS48⟩
     refine ⟨_,rfl,hS48.below,?_⟩
     have hS49:=hS47.call hS48
     refine gb0 [19,20,21] [(62,.bool (!r10)),(61,.bool (!r10)),(60,.bool (!r10))] ?_
     by_cases hc7:r10=true
     ·rw [if_pos hc7] at h
      refine gk 62 (!r10) false (congrArg (fun z=>!z) hc7)<|gb0 [22,23] [(64,.slice A2 l2.length c2),(63,.slice Z4 l2.length cz4)] ?_
      rcases hq11:ps_Still_int.f K (l2++[(-9),(-9),(-9)]) l2 (-9) with _ | r11
      ·rw [hq11] at h; cases h
      rw [hq11] at h
      simp only [] at h
      refine ge_call (d:=some 65) (f:=14) (args:=#[.slice Z4 l2.length cz4,.slice A2 l2.length c2,vI (-9)]) (by kernel_rfl) (ps_Still_int_ok K (l2++[(-9),(-9),(-9)]) Z4 l2.length cz4 l2 A2 c2 (-9) _ (hS49.rdAt 7 rfl) hcp2 (hS49.rd hR2) hL2 _ hq11) ?_
      rintro _ w19 ⟨rfl,hS50⟩
      refine ⟨_,rfl,hS50.below,?_⟩
      have hS51:=hS49.call hS50
      refine gb0 [25,26] [(67,.bool (!r11)),(66,.bool (!r11))]<|gn hK15 ?_
      by_cases hc8:r11=true
      ·rw [if_pos hc8] at h
       refine wk 67 (!r11) false (congrArg (fun z=>!z) hc8)<|wf<|we_skip fun a hF=>hK14 _ _ ?_ a hF
       refine ws fun K16 hK16=>wr [(0,0),(1,0),(2,2)]<|gb [0,1] [(69,(.slice Z6 r7.1.Vars.length cz6)),(68,pP b3 0)] [ld b3 0 ((.slice Z6 r7.1.Vars.length cz6))] ⟨hS51.c 1,trivial⟩ ?_
       have hS52:=hS51.b 2
       refine ge_call2 (m:=0) (d:=some 70) (f:=15) (args:=#[.slice Z6 r7.1.Vars.length cz6]) (by kernel_rfl) (ps_Spoil_int_ok _ _ Z6 r7.1.Vars.length cz6 _ hS52) ?_
       rintro _ w20 ⟨rfl,hS53⟩
       refine ⟨_,rfl,?_⟩
       refine gn hK16<|wr [(0,0),(1,0),(2,2)]<|gb [0,1] [(72,(.slice Z7 r7.1.Puts.length cz7)),(71,pP b3 1)] [ld b3 1 ((.slice Z7 r7.1.Puts.length cz7))] ⟨hS53.c 1,trivial⟩ ?_
       have hS54:=hS53.b 2
       refine ge_call2 (m:=0) (d:=some 73) (f:=16) (args:=#[.slice Z7 r7.1.Puts.length cz7]) (by kernel_rfl) (ps_Spoil_api_Put_ok _ _ Z7 r7.1.Puts.length cz7 _ hS54) ?_
       rintro _ w21 ⟨rfl,hS55⟩
       refine ⟨_,rfl,?_⟩
       refine gn hK12<|wr [(0,0),(1,0)]<|ge_addn (d:=74) (ty:=3) (x:=(.tmp 32)) (y:=(.const (vI 1))) (t:=3) (t2:=3) (k:=.i64) (m:=i1) (by kernel_rfl) (by kernel_rfl) (by kernel_rfl) (by omega) ?_
       refine gb0 [1] [(32,vI ((i1+1:Nat):Int))] ?_
       have hS63:=hS55.p [2,3,4,5,6,7,8] rfl
       obtain rfl:=si h
       exact ge_nil fun a hF=>hQ _ _ _ (Outs.again ⟨ft5,wf5,hsb4,hS63,hF.weaken ea⟩)
      rw [if_neg hc8] at h
      refine wk 67 (!r11) true (congrArg (fun z=>!z) (Bool.eq_false_iff.2 hc8))<|wt<|ws fun K17 hK17=>wr [(0,0)]<|gb0 [0] [(6,.bool false)]<|gn hK17 ?_
      have hS64:=hS51.takeN 0
      obtain rfl:=si h
      exact we_ret fun a hF=>hQ _ _ _ (Outs.out nofun (Exits.on ⟨rfl,(pr0 [.tmp 6] [.bool false] ⟨rfl,hS64⟩) a hF⟩))
     rw [if_neg hc7] at h
     refine gk 62 (!r10) true (congrArg (fun z=>!z) (Bool.eq_false_iff.2 hc7))<|gb0 [22,23] [(64,undef),(63,undef)]<|ge_off rfl rfl rfl (by kernel_rfl) ?_
     refine gb0 [25,26] [(67,.bool true),(66,undef)]<|gn hK15<|wt<|ws fun K18 hK18=>wr [(0,0)]<|gb0 [0] [(6,.bool false)]<|gn hK18 ?_
     have hS65:=hS49.takeN 0
     obtain rfl:=si h
     exact we_ret fun a hF=>hQ _ _ _ (Outs.out nofun (Exits.on ⟨rfl,(pr0 [.tmp 6] [.bool false] ⟨rfl,hS65⟩) a hF⟩))
    rw [if_neg hc6] at h
    refine gk 56 (!r9) true (congrArg (fun z=>!z) (Bool.eq_false_iff.2 hc6))<|gb0 [16,17] [(58,undef),(57,undef)]<|ge_off rfl rfl rfl (by kernel_rfl) ?_
    refine gb0 [19,20,21,22,23] [(64,undef),(63,undef),(62,.bool true),(61,.bool true),(60,undef)]<|ge_off rfl rfl rfl (by kernel_rfl) ?_
    refine gb0 [25,26] [(67,.bool true),(66,undef)]<|gn hK15<|wt<|ws fun K19 hK19=>wr [(0,0)]<|gb0 [0] [(6,.bool false)]<|gn hK19 ?_
    have hS66:=hS47.takeN 0
    obtain rfl:=si h
    exact we_ret fun a hF=>hQ _ _ _ (Outs.out nofun (Exits.on ⟨rfl,(pr0 [.tmp 6] [.bool false] ⟨rfl,hS66⟩) a hF⟩))
   rw [if_neg hc5] at h
   refine gk 50 (!r8) true (congrArg (fun z=>!z) (Bool.eq_false_iff.2 hc5))<|gb0 [10,11] [(52,undef),(51,undef)]<|ge_off rfl rfl rfl (by kernel_rfl) ?_
   refine gb0 [13,14,15,16,17] [(58,undef),(57,undef),(56,.bool true),(55,.bool true),(54,undef)]<|ge_off rfl rfl rfl (by kernel_rfl) ?_
   refine gb0 [19,20,21,22,23] [(64,undef),(63,undef),(62,.bool true),(61,.bool true),(60,undef)]<|ge_off rfl rfl rfl (by kernel_rfl) ?_
   refine gb0 [25,26] [(67,.bool true),(66,undef)]<|gn hK15<|wt<|ws fun K20 hK20=>wr [(0,0)]<|gb0 [0] [(6,.bool false)]<|gn hK20 ?_
   have hS67:=hS45.takeN 0
   obtain rfl:=si h
   exact we_ret fun a hF=>hQ _ _ _ (Outs.out nofun (Exits.on ⟨rfl,(pr0 [.tmp 6] [.bool false] ⟨rfl,hS67⟩) a hF⟩))
  rw [if_neg hc4] at h
  refine gk 44 (!(SFault.eqb r7.2 r3.2)) true (congrArg (fun z=>!z) (Bool.eq_false_iff.2 hc4))<|gb0 [4,5] [(46,undef),(45,undef)]<|ge_off rfl rfl rfl (by kernel_rfl) ?_
  refine gb0 [7,8,9,10,11] [(52,undef),(51,undef),(50,.bool true),(49,.bool true),(48,undef)]<|ge_off rfl rfl rfl (by kernel_rfl) ?_
  refine gb0 [13,14,15,16,17] [(58,undef),(57,undef),(56,.bool true),(55,.bool true),(54,undef)]<|ge_off rfl rfl rfl (by kernel_rfl) ?_
  refine gb0 [19,20,21,22,23] [(64,undef),(63,undef),(62,.bool true),(61,.bool true),(60,undef)]<|ge_off rfl rfl rfl (by kernel_rfl) ?_
  refine gb0 [25,26] [(67,.bool true),(66,undef)]<|gn hK15<|wt<|ws fun K21 hK21=>wr [(0,0)]<|gb0 [0] [(6,.bool false)]<|gn hK21 ?_
  have hS68:=hS43.takeN 0
  obtain rfl:=si h
  exact we_ret fun a hF=>hQ _ _ _ (Outs.out nofun (Exits.on ⟨rfl,(pr0 [.tmp 6] [.bool false] ⟨rfl,hS68⟩) a hF⟩))
 rw [if_neg hc3] at h
 refine wk 33 (decide ((i1:Int)<2)) false (decide_eq_false hc3)<|wf ?_
 have hS70:=hS.p [6] rfl
 obtain rfl:=si h
 exact we_exit fun a hF=>hQ _ _ _ (Outs.out nofun (Exits.here ⟨ft5,wf5,hsb4,hS70,hF.weaken trivial⟩))
theorem MeaningRuns_ok (K:Nat) (Z:Zone) (l0:List SStmt) (A0:OA) (c0:Nat) (l1:List Int) (A1:OA) (c1:Nat) (l2:List Int) (A2:OA) (c2:Nat) (w0:World) (hZ:∀ w,Sub w0 w→Z w) (hR0:RdZ Z A0 l0) (hL0:l0.length≤c0) (hR1:RdL w0 A1 l1) (hL1:l1.length≤c1) (hR2:RdL w0 A2 l2) (hL2:l2.length≤c2) (r:Bool) (h:MeaningRuns.f K l0 l1 l2=some r) :
  Calls Try.prog 3 #[.slice A0 l0.length c0,.slice A1 l1.length c1,.slice A2 l2.length c2] w0 (MeaningRuns.Post w0 r):=by
 have hS:=St.start w0
 unfold MeaningRuns.f at h
 refine calls_enter (n:=75) (args:=[.slice A0 l0.length c0,.slice A1 l1.length c1,.slice A2 l2.length c2]) (fn:=Try.f3) rfl rfl rfl rfl ?_
 show WE _ _ _ _ [(0,.slice A0 l0.length c0),(1,.slice A1 l1.length c1),(2,.slice A2 l2.length c2)] _
 obtain ⟨ft1,wf1,hS1⟩:=hS.frz0
 refine ws fun K1 hK1=>wr [(0,0)]<|gb0 [0] [(6,.bool false)]<|gn hK1<|ws fun K2 hK2=>ws fun K3 hK3=>wr [(0,1),(1,0)] ?_
 rcases hq1:does.f K with _ | r1
 ·rw [hq1] at h; cases h
 rw [hq1] at h
 simp only [] at h
 refine ge_call (d:=some 14) (f:=6) (args:=#[]) (by kernel_rfl) (does_ok K (Zand Z wf1) _ (fun w' k=>⟨(hZ w' (hS1.subw.trans k)),(hS1.frzSub 0 rfl).trans k⟩) _ hq1) ?_
 rintro _ w1 ⟨rfl,hS2⟩
 refine ⟨_,rfl,hS2.below,?_⟩
 have hS3:=hS1.call hS2
 refine gb0 [1] [(15,.bool (!r1))]<|gn hK3 ?_
 by_cases hc1:r1=true
 ·rw [if_pos hc1] at h
  refine wk 15 (!r1) false (congrArg (fun z=>!z) hc1)<|wf<|we_skip fun a hF=>hK2 _ _ ?_ a hF
  refine ws fun K4 hK4=>ws fun K5 hK5=>wr [(0,0),(1,1),(2,0)] ?_
  rcases hq2:claims.f K l0 with _ | r2
  ·rw [hq2] at h; cases h
  rw [hq2] at h
  simp only [] at h
  refine gb0 [0] [(16,.slice A0 l0.length c0)]<|ge_call (d:=some 17) (f:=7) (args:=#[.slice A0 l0.length c0]) (by kernel_rfl) (claims_ok K (Zand Z wf1) l0 A0 c0 _ (fun w' k=>⟨(hZ w' (hS3.subw.trans k)),(hS3.frzSub 0 rfl).trans k⟩) (hR0.up (ZLe.in _ _)) hL0 _ hq2) ?_
  rintro _ w2 ⟨rfl,hS4⟩
  refine ⟨_,rfl,hS4.below,?_⟩
  have hS5:=hS3.call hS4
  refine gb0 [2] [(18,.bool (!r2))]<|gn hK5 ?_
  by_cases hc2:r2=true
  ·rw [if_pos hc2] at h
   refine wk 18 (!r2) false (congrArg (fun z=>!z) hc2)<|wf<|we_skip fun a hF=>hK4 _ _ ?_ a hF
   refine ws fun K6 hK6=>wr [(0,0),(1,0),(2,0),(3,1),(4,0),(5,0),(6,0),(7,1),(8,1),(9,2),(10,2)] ?_
   rcases hq3:pr_Mean.f K l0 l1 l2 with _ | r3
   ·rw [hq3] at h; cases h
   rw [hq3] at h
   simp only [] at h
   refine gb0 [0,1,2] [(22,.slice A2 l2.length c2),(21,.slice A1 l1.length c1),(20,.slice A0 l0.length c0)]<|ge_call (d:=some 23) (f:=8) (args:=#[.slice A0 l0.length c0,.slice A1 l1.length c1,.slice A2 l2.length c2]) (by kernel_rfl) (pr_Mean_ok K (Zand Z wf1) l0 A0 c0 l1 A1 c1 l2 A2 c2 _ (fun w' k=>⟨(hZ w' (hS5.subw.trans k)),(hS5.frzSub 0 rfl).trans k⟩) (hR0.up (ZLe.in _ _)) hL0 (hS5.rd hR1) hL1 (hS5.rd hR2) hL2 _ hq3) ?_
   rintro _ w3 ⟨v1,v2,rfl,hS6⟩
   refine ⟨_,rfl,hS6.below,?_⟩
   have hS7:=hS5.call hS6
   refine gb0 [4,5,6] [(25,.agg #[vI r3.2.Code,vI r3.2.At]),(24,.agg #[v1,v2,vI r3.1.Steps]),(19,.tuple #[.agg #[v1,v2,vI r3.1.Steps],.agg #[vI r3.2.Code,vI r3.2.At]])]<|gw (some 7) (.cells #[.slice none 0 0,.slice none 0 0,vI 0] 28) (fun b=>pP b 0) hS7 fun b1 w4 hx1 hS8=>?_
   refine gw (some 8) (.cells #[vI 0,vI 0] 31) (fun b=>pP b 0) hS8 fun b2 w5 hx2 hS9=>?_
   obtain ⟨Z1,cz1,rfl⟩:=hS9.open 2 rfl
   obtain ⟨Z2,cz2,rfl⟩:=hS9.open 3 rfl
   have hS10:=hS9.b 1
   refine gs b1 0 #[.slice none 0 0,.slice none 0 0,vI 0] 28 [(.slice Z1 r3.1.Vars.length cz1),(.slice Z2 r3.1.Puts.length cz2),vI r3.1.Steps] hS10 fun w6 hS11=>?_
   have hS13:=(hS11.nc #[(.slice Z1 r3.1.Vars.length cz1),(.slice Z2 r3.1.Puts.length cz2),vI r3.1.Steps] (by kernel_rfl)).b 1
   refine gs b2 0 #[vI 0,vI 0] 31 [vI r3.2.Code,vI r3.2.At] hS13 fun w7 hS14=>?_
   have hS15:=hS14.nc #[vI r3.2.Code,vI r3.2.At] (by kernel_rfl)
   refine gn hK6<|ws fun K7 hK7=>wr [(0,0),(1,1),(2,0),(3,1),(4,0),(5,1),(6,0),(7,0),(8,0)] ?_
   rcases hq4:ps_Twin.f K l0 with _ | r4
   ·rw [hq4] at h; cases h
   rw [hq4] at h
   simp only [] at h
   refine gb0 [0] [(26,.slice A0 l0.length c0)]<|ge_call (d:=some 27) (f:=9) (args:=#[.slice A0 l0.length c0]) (by kernel_rfl) (ps_Twin_ok K (Zand Z wf1) l0 A0 c0 _ (fun w' k=>⟨(hZ w' (hS15.subw.trans k)),(hS15.frzSub 4 rfl).trans k⟩) (hR0.up (ZLe.in _ _)) hL0 _ hq4) ?_
   rintro _ w8 ⟨v3,hds1,ft2,wf2,rfl,hd1,hS16⟩
   refine ⟨_,rfl,hS16.below,?_⟩
   have hS19:=((hS15.call hS16).b 6).b 2
   obtain ⟨ft3,wf3,hsb1,hsb2,hS20⟩:=hS19.frzMerge
   replace hd1:DRows (Zand Z wf3) hds1 r4:=hd1.up (ZLe.both hsb2 hsb1)
   refine gb0 [2] [(28,.slice A1 l1.length c1)] ?_
   rcases hq5:ps_Lend_int.f l1 (-9) with _ | r5
   ·rw [hq5] at h; cases h
   rw [hq5] at h
   simp only [] at h
   obtain rfl:=ps_Lend_int_full _ _ hq5
   refine ge_call (d:=some 29) (f:=10) (args:=#[.slice A1 l1.length c1,vI (-9)]) (by kernel_rfl) (ps_Lend_int_ok l1 A1 c1 (-9) _ (hS20.rd hR1) hL1 _ hq5) ?_
   rintro _ w9 ⟨Z3,cz3,rfl,hcp1,hS21⟩
   refine ⟨_,rfl,hS21.below,?_⟩
   have hS22:=hS20.call hS21
   refine gb0 [4] [(30,.slice A2 l2.length c2)] ?_
   rcases hq6:ps_Lend_int.f l2 (-9) with _ | r6
   ·rw [hq6] at h; cases h
   rw [hq6] at h
   simp only [] at h
   obtain rfl:=ps_Lend_int_full _ _ hq6
   refine ge_call (d:=some 31) (f:=10) (args:=#[.slice A2 l2.length c2,vI (-9)]) (by kernel_rfl) (ps_Lend_int_ok l2 A2 c2 (-9) _ (hS22.rd hR2) hL2 _ hq6) ?_
   rintro _ w10 ⟨Z4,cz4,rfl,hcp2,hS23⟩
   refine ⟨_,rfl,hS23.below,?_⟩
   have hS24:=hS22.call hS23
   refine gb0 [6,7,8] [(11,.slice Z4 l2.length cz4),(10,.slice Z3 l1.length cz3),(9,v3)]<|gn hK7<|ws fun K8 hK8=>ws fun K9 hK9=>wr [(0,0)]<|gb0 [0] [(32,vI 0)]<|gn hK9<|we_block ?_
   obtain ⟨Z5,cz5,rfl⟩:=hS24.dopen 3 rfl hd1
   have hS26:=(hS24.b 2).b 3
   obtain ⟨ft4,wf4,hsb3,-,hRd1,hLd1,hS27⟩:=hS26.dfrz (Z:=Z) hd1
   have hS33:=(((((hS27.b 6).b 6).b 3).b 4).b 6).b 6
   rcases hq12:iter (MeaningRuns.r0 K l0 l1 l2 r3 r4) K 0 with _ | (_ | rr1)
   ·rw [hq12] at h; cases h
   ·rw [hq12] at h
    simp only [] at h
    refine we_iter (A:=MeaningRuns.A0 w0 l0 A0 c0 l1 A1 c1 l2 A2 c2 r3 b1 b2 Z1 cz1 Z2 cz2 r4 Z3 cz3 Z4 cz4 Z5 cz5 wf4) (B:=MeaningRuns.B0 w0 wf4) hq12 (fun a hF=>⟨ft4,wf4,(Sub.refl _),hS33,hF.weaken ea⟩) (fun s o hf a w hA Q hQ=>MeaningRuns_r0 K w0 Z l0 A0 c0 l1 A1 c1 l2 A2 c2 hZ hR0 hL0 hR1 hL1 hR2 hL2 ft1 wf1 r1 hc1 r2 hc2 r3 b1 b2 Z1 cz1 Z2 cz2 r4 hds1 ft2 wf2 ft3 wf3 hsb1 hsb2 hd1 Z3 cz3 hcp1 Z4 cz4 hcp2 Z5 cz5 ft4 wf4 hsb3 hRd1 hLd1 s o hf a w hA Q hQ) ?_
    rintro _ a w22 _ ⟨rfl,ft7,wf7,hRz1,hS71,hF⟩
    replace hS71:St w0 w22 [Own.frz ft7 wf7]:=hS71
    refine hK8 [] w22 ?_ a hF
    refine ws fun K22 hK22=>wr [(0,0)]<|gb0 [0] [(6,.bool true)]<|gn hK22 ?_
    have hS72:=hS71.takeN 0
    obtain rfl:=si h
    exact we_ret (pr0 [.tmp 6] [.bool true] ⟨rfl,hS72⟩)
   rw [hq12] at h
   simp only [] at h
   refine we_iter (A:=MeaningRuns.A0 w0 l0 A0 c0 l1 A1 c1 l2 A2 c2 r3 b1 b2 Z1 cz1 Z2 cz2 r4 Z3 cz3 Z4 cz4 Z5 cz5 wf4) (B:=MeaningRuns.B0 w0 wf4) hq12 (fun a hF=>⟨ft4,wf4,(Sub.refl _),hS33,hF.weaken ea⟩) (fun s o hf a w hA Q hQ=>MeaningRuns_r0 K w0 Z l0 A0 c0 l1 A1 c1 l2 A2 c2 hZ hR0 hL0 hR1 hL1 hR2 hL2 ft1 wf1 r1 hc1 r2 hc2 r3 b1 b2 Z1 cz1 Z2 cz2 r4 hds1 ft2 wf2 ft3 wf3 hsb1 hsb2 hd1 Z3 cz3 hcp1 Z4 cz4 hcp2 Z5 cz5 ft4 wf4 hsb3 hRd1 hLd1 s o hf a w hA Q hQ) ?_
   rintro _ a w1 _ ⟨rfl,hb⟩
   obtain rfl:=si h
   exact hb
  rw [if_neg hc2] at h
  refine wk 18 (!r2) true (congrArg (fun z=>!z) (Bool.eq_false_iff.2 hc2))<|wt<|ws fun K23 hK23=>wr [(0,0)]<|gb0 [0] [(6,.bool true)]<|gn hK23 ?_
  have hS73:=hS5.takeN 0
  obtain rfl:=si h
  exact we_ret (pr0 [.tmp 6] [.bool true] ⟨rfl,hS73⟩)
 rw [if_neg hc1] at h
 refine wk 15 (!r1) true (congrArg (fun z=>!z) (Bool.eq_false_iff.2 hc1))<|wt<|ws fun K24 hK24=>wr [(0,0)]<|gb0 [0] [(6,.bool false)]<|gn hK24 ?_
 have hS74:=hS3.takeN 0
 obtain rfl:=si h
 exact we_ret (pr0 [.tmp 6] [.bool false] ⟨rfl,hS74⟩)
end Go.Proofs.Ytcjphfmmmlgcbaa.GV
