/- Walks of single functions, written by a program of this work. -/
import Derived.Test.YtnckikjcjgmdlaaGWCompileMakes4
namespace Go.Proofs.Ytnckikjcjgmdlaa.GV
open Go Go.RowKit
set_option linter.unusedVariables false
set_option linter.unusedSimpArgs false
set_option maxRecDepth 100000

/-! punctual/punctualref.pieces, punctual/punctualref.piece -/
abbrev punctualref_pieces.Post (w0:World) (r:List SIns) (e:Ending) (w:World):Prop:=∃ (v0:Value),e=.returned (v0)∧St w0 w [Own.of v0 29 r]
abbrev punctualref_piece.Post (w0:World) (r:List SIns) (e:Ending) (w:World):Prop:=∃ (v0:Value),e=.returned (v0)∧St w0 w [Own.of v0 29 r]
abbrev punctualref_pieces.Rec (rec_punctualref_pieces:(List SStmt)→Int→Option (List SIns)):Prop:=∀ (Z:Zone) (l0:List SStmt) (A0:OA) (c0:Nat) (x1:Int) (w0:World) (hZ:∀ w,Sub w0 w→Z w) (hR0:RdZ Z A0 l0) (hL0:l0.length≤c0) (r:List SIns) (h:rec_punctualref_pieces l0 x1=some r),Calls Try.prog 66 #[.slice A0 l0.length c0,vI x1] w0 (punctualref_pieces.Post w0 r)
abbrev punctualref_piece.Rec (rec_punctualref_piece:Int→Int→Int→Int→(List SExpr)→Int→Int→Int→(List SExpr)→Int→Int→(List SExpr)→(List SStmt)→(List SStmt)→Int→Option (List SIns)):Prop:=∀ (Z:Zone) (x0_0:Int) (x0_1:Int) (x0_2_0:Int) (x0_2_1:Int) (l0_2_2:List SExpr) (A0_2_2:OA) (c0_2_2:Nat) (x0_3_0:Int) (x0_3_1_0:Int) (x0_3_1_1:Int) (l0_3_1_2:List SExpr) (A0_3_1_2:OA) (c0_3_1_2:Nat) (x0_3_2_0:Int) (x0_3_2_1:Int) (l0_3_2_2:List SExpr) (A0_3_2_2:OA) (c0_3_2_2:Nat) (l0_4:List SStmt) (A0_4:OA) (c0_4:Nat) (l0_5:List SStmt) (A0_5:OA) (c0_5:Nat) (x1:Int) (w0:World) (hZ:∀ w,Sub w0 w→Z w) (hR0_2_2:RdZ Z A0_2_2 l0_2_2) (hL0_2_2:l0_2_2.length≤c0_2_2) (hR0_3_1_2:RdZ Z A0_3_1_2 l0_3_1_2) (hL0_3_1_2:l0_3_1_2.length≤c0_3_1_2) (hR0_3_2_2:RdZ Z A0_3_2_2 l0_3_2_2) (hL0_3_2_2:l0_3_2_2.length≤c0_3_2_2) (hR0_4:RdZ Z A0_4 l0_4) (hL0_4:l0_4.length≤c0_4) (hR0_5:RdZ Z A0_5 l0_5) (hL0_5:l0_5.length≤c0_5) (r:List SIns) (h:rec_punctualref_piece x0_0 x0_1 x0_2_0 x0_2_1 l0_2_2 x0_3_0 x0_3_1_0 x0_3_1_1 l0_3_1_2 x0_3_2_0 x0_3_2_1 l0_3_2_2 l0_4 l0_5 x1=some r),Calls Try.prog 90 #[.agg #[vI x0_0,vI x0_1,vI x0_2_0,vI x0_2_1,.slice A0_2_2 l0_2_2.length c0_2_2,vI x0_3_0,vI x0_3_1_0,vI x0_3_1_1,.slice A0_3_1_2 l0_3_1_2.length c0_3_1_2,vI x0_3_2_0,vI x0_3_2_1,.slice A0_3_2_2 l0_3_2_2.length c0_3_2_2,.slice A0_4 l0_4.length c0_4,.slice A0_5 l0_5.length c0_5],vI x1] w0 (punctualref_piece.Post w0 r)
def punctualref_pieces.r0 (K : Nat) (l0 : List SStmt) (x1 : Int) (rec_punctualref_piece : Int → Int → Int → Int → (List SExpr) → Int → Int → Int → (List SExpr) → Int → Int → (List SExpr) → (List SStmt) → (List SStmt) → Int → Option (List SIns)) : (List SIns) × Nat → Option (((List SIns) × Nat) ⊕ ((List SIns) ⊕ (List SIns)))
 | (m1,i1) =>
  if (i1:Int)<(l0.length:Int) then
   match l0[i1]? with
   | none=>none
   | some e1 =>
    match rec_punctualref_piece e1.Kind e1.N e1.E.Kind e1.E.N e1.E.A e1.If.Kind e1.If.A.Kind e1.If.A.N e1.If.A.A e1.If.B.Kind e1.If.B.N e1.If.B.A e1.Body e1.Else x1 with
    | none=>none
    | some r1 =>
     match punctualref_join.f K m1 r1 with
     | none=>none
     | some r2 =>
      some (.inl (r2,(i1+1)))
  else
   some (.inr (.inl m1))
def punctualref_pieces.b (K : Nat) (rec_punctualref_piece : Int → Int → Int → Int → (List SExpr) → Int → Int → Int → (List SExpr) → Int → Int → (List SExpr) → (List SStmt) → (List SStmt) → Int → Option (List SIns)) (l0 : List SStmt) (x1 : Int) : Option (List SIns) :=
 match iter (punctualref_pieces.r0 K l0 x1 rec_punctualref_piece) K (([]:List SIns),0) with
 | none=>none
 | some (.inl m3) =>
  some m3
 | some (.inr rr1) =>
  some rr1
abbrev punctualref_pieces.A0 (w0:World) (l0:List SStmt) (A0:OA) (c0:Nat) (x1:Int):((List SIns)×Nat)→Act→World→Prop:=fun (s:(List SIns)×Nat) a w=>∃ (v1:Value),St w0 w [Own.of v1 29 s.1]∧Frm 21 a [(1,vI x1),(5,v1),(8,.slice A0 l0.length c0),(9,vI (l0.length:Int)),(10,vI (s.2:Int))]
abbrev punctualref_pieces.B0 (w0:World):((List SIns) ⊕ (List SIns))→Exit→Act→World→Prop:=Exits 0 (fun (s:(List SIns)) a w=>∃ (v2:Value),St w0 w [Own.of v2 29 s]∧Frm 21 a [(5,v2)]) (Rets Try.prog Try.f66 (punctualref_pieces.Post w0))
theorem punctualref_pieces_r0 (K:Nat) (w0:World) (Z:Zone) (l0:List SStmt) (A0:OA) (c0:Nat) (x1:Int) (hZ:∀ w,Sub w0 w→Z w) (hR0:RdZ Z A0 l0) (hL0:l0.length≤c0) (rec_punctualref_piece:Int→Int→Int→Int→(List SExpr)→Int→Int→Int→(List SExpr)→Int→Int→(List SExpr)→(List SStmt)→(List SStmt)→Int→Option (List SIns)) (hr_punctualref_piece:punctualref_piece.Rec rec_punctualref_piece) (s:(List SIns)×Nat) (o:((List SIns)×Nat) ⊕ ((List SIns) ⊕ (List SIns))) (h:punctualref_pieces.r0 K l0 x1 rec_punctualref_piece s=some o) (a:Act) (w:World) (hA:punctualref_pieces.A0 w0 l0 A0 c0 x1 s a w) (Q:Exit→Act→World→Prop) (hQ:∀ x a w,Outs (punctualref_pieces.A0 w0 l0 A0 c0 x1) (punctualref_pieces.B0 w0) o x a w→Q x a w):(subF Try.f66 [1,1,0,1,0,0]).wp Try.prog Q a w:=by
 obtain ⟨m1,i1⟩:=s
 obtain ⟨v1,hS,hF⟩:=hA
 replace hS:St w0 w [Own.of v1 29 m1]:=hS
 simp only [punctualref_pieces.r0] at h
 refine (?_:WE Try.prog 21 (subF Try.f66 [1,1,0,1,0,0]) Q [(1,vI x1),(5,v1),(8,.slice A0 l0.length c0),(9,vI (l0.length:Int)),(10,vI (i1:Int))] w) a hF
 clear hF a
 refine ws fun K5 hK5=>wr [(0,0)]<|gb0 [0] [(11,.bool (decide ((i1:Int)<(l0.length:Int))))]<|gn hK5<|ws fun K6 hK6=>?_
 by_cases hc1:(i1:Int)<(l0.length:Int)
 ·rw [if_pos hc1] at h
  refine wk 11 (decide ((i1:Int)<(l0.length:Int))) true (decide_eq_true hc1)<|wt<|we_skip fun a hF=>hK6 _ _ ?_ a hF
  refine ws fun K7 hK7=>we_block<|ws fun K8 hK8=>wr [(0,0),(1,0),(2,1),(3,2)] ?_
  rcases hx1:l0[i1]? with _ | e1
  ·rw [hx1] at h; cases h
  rw [hx1] at h
  simp only [] at h
  obtain ⟨An1,cn1,An2,cn2,An3,cn3,An4,cn4,An5,cn5,hCs1,hLn1,hRn1,hLn2,hRn2,hLn3,hRn3,hLn4,hRn4,hLn5,hRn5⟩:=SStmt.getZ hR0 hx1
  refine gi 12 0 38 49 14 l0.length c0 (.tmp 8) (.tmp 10) A0 .i64 (i1:Int) i1 (hR0.eqSome (hZ _ hS.subw) (pos_of_get hx1)) rfl (lt_of_get hx1) ?_
  refine gb [1] [(13,.agg #[vI e1.Kind,vI e1.N,vI e1.E.Kind,vI e1.E.N,.slice An1 e1.E.A.length cn1,vI e1.If.Kind,vI e1.If.A.Kind,vI e1.If.A.N,.slice An2 e1.If.A.A.length cn2,vI e1.If.B.Kind,vI e1.If.B.N,.slice An3 e1.If.B.A.length cn3,.slice An4 e1.Body.length cn4,.slice An5 e1.Else.length cn5])] [.loaded ⟨blkOf A0,offOf A0+i1*14,none⟩ (vI e1.Kind),.loaded ⟨blkOf A0,offOf A0+i1*14+1,none⟩ (vI e1.N),.loaded ⟨blkOf A0,offOf A0+i1*14+2,none⟩ (vI e1.E.Kind),.loaded ⟨blkOf A0,offOf A0+i1*14+3,none⟩ (vI e1.E.N),.loaded ⟨blkOf A0,offOf A0+i1*14+4,none⟩ (.slice An1 e1.E.A.length cn1),.loaded ⟨blkOf A0,offOf A0+i1*14+5,none⟩ (vI e1.If.Kind),.loaded ⟨blkOf A0,offOf A0+i1*14+6,none⟩ (vI e1.If.A.Kind),.loaded ⟨blkOf A0,offOf A0+i1*14+7,none⟩ (vI e1.If.A.N),.loaded ⟨blkOf A0,offOf A0+i1*14+8,none⟩ (.slice An2 e1.If.A.A.length cn2),.loaded ⟨blkOf A0,offOf A0+i1*14+9,none⟩ (vI e1.If.B.Kind),.loaded ⟨blkOf A0,offOf A0+i1*14+10,none⟩ (vI e1.If.B.N),.loaded ⟨blkOf A0,offOf A0+i1*14+11,none⟩ (.slice An3 e1.If.B.A.length cn3),.loaded ⟨blkOf A0,offOf A0+i1*14+12,none⟩ (.slice An4 e1.Body.length cn4),.loaded ⟨blkOf A0,offOf A0+i1*14+13,none⟩ (.slice An5 e1.Else.length cn5)] ⟨hCs1 _ (hZ _ hS.subw) 0 _ rfl,hCs1 _ (hZ _ hS.subw) 1 _ rfl,hCs1 _ (hZ _ hS.subw) 2 _ rfl,hCs1 _ (hZ _ hS.subw) 3 _ rfl,hCs1 _ (hZ _ hS.subw) 4 _ rfl,hCs1 _ (hZ _ hS.subw) 5 _ rfl,hCs1 _ (hZ _ hS.subw) 6 _ rfl,hCs1 _ (hZ _ hS.subw) 7 _ rfl,hCs1 _ (hZ _ hS.subw) 8 _ rfl,hCs1 _ (hZ _ hS.subw) 9 _ rfl,hCs1 _ (hZ _ hS.subw) 10 _ rfl,hCs1 _ (hZ _ hS.subw) 11 _ rfl,hCs1 _ (hZ _ hS.subw) 12 _ rfl,hCs1 _ (hZ _ hS.subw) 13 _ rfl,trivial⟩<|gw (some 7) (.cells #[vI 0,vI 0,vI 0,vI 0,.slice none 0 0,vI 0,vI 0,vI 0,.slice none 0 0,vI 0,vI 0,.slice none 0 0,.slice none 0 0,.slice none 0 0] 49) (fun b=>pP b 0) hS fun b1 w1 hx2 hS2=>?_
  refine gs b1 0 #[vI 0,vI 0,vI 0,vI 0,.slice none 0 0,vI 0,vI 0,vI 0,.slice none 0 0,vI 0,vI 0,.slice none 0 0,.slice none 0 0,.slice none 0 0] 49 [vI e1.Kind,vI e1.N,vI e1.E.Kind,vI e1.E.N,.slice An1 e1.E.A.length cn1,vI e1.If.Kind,vI e1.If.A.Kind,vI e1.If.A.N,.slice An2 e1.If.A.A.length cn2,vI e1.If.B.Kind,vI e1.If.B.N,.slice An3 e1.If.B.A.length cn3,.slice An4 e1.Body.length cn4,.slice An5 e1.Else.length cn5] hS2 fun w2 hS3=>?_
  have hS4:=hS3.nc #[vI e1.Kind,vI e1.N,vI e1.E.Kind,vI e1.E.N,.slice An1 e1.E.A.length cn1,vI e1.If.Kind,vI e1.If.A.Kind,vI e1.If.A.N,.slice An2 e1.If.A.A.length cn2,vI e1.If.B.Kind,vI e1.If.B.N,.slice An3 e1.If.B.A.length cn3,.slice An4 e1.Body.length cn4,.slice An5 e1.Else.length cn5] (by kernel_rfl)
  refine gn hK8<|wr [(0,0),(1,0),(2,0),(3,1),(4,1),(5,0)] ?_
  rcases hq1:rec_punctualref_piece e1.Kind e1.N e1.E.Kind e1.E.N e1.E.A e1.If.Kind e1.If.A.Kind e1.If.A.N e1.If.A.A e1.If.B.Kind e1.If.B.N e1.If.B.A e1.Body e1.Else x1 with _ | r1
  ·rw [hq1] at h; cases h
  rw [hq1] at h
  simp only [] at h
  refine gb [0,1,2] [(16,vI x1),(15,.agg #[vI e1.Kind,vI e1.N,vI e1.E.Kind,vI e1.E.N,.slice An1 e1.E.A.length cn1,vI e1.If.Kind,vI e1.If.A.Kind,vI e1.If.A.N,.slice An2 e1.If.A.A.length cn2,vI e1.If.B.Kind,vI e1.If.B.N,.slice An3 e1.If.B.A.length cn3,.slice An4 e1.Body.length cn4,.slice An5 e1.Else.length cn5]),(14,v1)] [ld b1 0 (vI e1.Kind),ld b1 1 (vI e1.N),ld b1 2 (vI e1.E.Kind),ld b1 3 (vI e1.E.N),ld b1 4 (.slice An1 e1.E.A.length cn1),ld b1 5 (vI e1.If.Kind),ld b1 6 (vI e1.If.A.Kind),ld b1 7 (vI e1.If.A.N),ld b1 8 (.slice An2 e1.If.A.A.length cn2),ld b1 9 (vI e1.If.B.Kind),ld b1 10 (vI e1.If.B.N),ld b1 11 (.slice An3 e1.If.B.A.length cn3),ld b1 12 (.slice An4 e1.Body.length cn4),ld b1 13 (.slice An5 e1.Else.length cn5)] ⟨hS4.c 0,hS4.c 0,hS4.c 0,hS4.c 0,hS4.c 0,hS4.c 0,hS4.c 0,hS4.c 0,hS4.c 0,hS4.c 0,hS4.c 0,hS4.c 0,hS4.c 0,hS4.c 0,trivial⟩<|ge_call (d:=some 17) (f:=90) (args:=#[.agg #[vI e1.Kind,vI e1.N,vI e1.E.Kind,vI e1.E.N,.slice An1 e1.E.A.length cn1,vI e1.If.Kind,vI e1.If.A.Kind,vI e1.If.A.N,.slice An2 e1.If.A.A.length cn2,vI e1.If.B.Kind,vI e1.If.B.N,.slice An3 e1.If.B.A.length cn3,.slice An4 e1.Body.length cn4,.slice An5 e1.Else.length cn5],vI x1]) (by kernel_rfl) (hr_punctualref_piece Z e1.Kind e1.N e1.E.Kind e1.E.N e1.E.A An1 cn1 e1.If.Kind e1.If.A.Kind e1.If.A.N e1.If.A.A An2 cn2 e1.If.B.Kind e1.If.B.N e1.If.B.A An3 cn3 e1.Body An4 cn4 e1.Else An5 cn5 x1 _ (fun w' k=>(hZ w' (hS4.subw.trans k))) hRn1 hLn1 hRn2 hLn2 hRn3 hLn3 hRn4 hLn4 hRn5 hLn5 _ hq1) ?_
  rintro _ w3 ⟨v3,rfl,hS5⟩
  refine ⟨_,rfl,hS5.below,?_⟩
  have hS6:=hS4.call hS5
  obtain ⟨Z1,cz1,rfl⟩:=hS6.open 2 rfl
  obtain ⟨Z2,cz2,rfl⟩:=hS6.open 0 rfl
  rcases hq2:punctualref_join.f K m1 r1 with _ | r2
  ·rw [hq2] at h; cases h
  rw [hq2] at h
  simp only [] at h
  refine ge_call (d:=some 18) (f:=89) (args:=#[(.slice Z1 m1.length cz1),(.slice Z2 r1.length cz2)]) (by kernel_rfl) (punctualref_join_ok K m1 Z1 cz1 r1 Z2 cz2 _ (hS6.rdAt 2 rfl) (hS6.capAt 2 rfl) (hS6.rdAt 0 rfl) (hS6.capAt 0 rfl) _ hq2) ?_
  rintro _ w4 ⟨v4,rfl,hS7⟩
  refine ⟨_,rfl,hS7.below,?_⟩
  have hS8:=hS6.call hS7
  refine gb0 [5] [(5,v4)]<|gn hK7<|wr [(0,0),(1,0)]<|ge_addn (d:=19) (ty:=3) (x:=(.tmp 10)) (y:=(.const (vI 1))) (t:=3) (t2:=3) (k:=.i64) (m:=i1) (by kernel_rfl) (by kernel_rfl) (by kernel_rfl) (by have h0:=RdZ.small hR0 (hZ _ hS8.subw); omega) ?_
  refine gb0 [1] [(10,vI ((i1+1:Nat):Int))] ?_
  have hS9:=hS8.takeN 1
  obtain rfl:=si h
  exact ge_nil fun a hF=>hQ _ _ _ (Outs.again ⟨v4,hS9,hF.weaken ea⟩)
 rw [if_neg hc1] at h
 refine wk 11 (decide ((i1:Int)<(l0.length:Int))) false (decide_eq_false hc1)<|wf ?_
 obtain rfl:=si h
 exact we_exit fun a hF=>hQ _ _ _ (Outs.out nofun (Exits.here ⟨v1,hS,hF.weaken ea⟩))
theorem punctualref_pieces_step (K:Nat) (rec_punctualref_piece:Int→Int→Int→Int→(List SExpr)→Int→Int→Int→(List SExpr)→Int→Int→(List SExpr)→(List SStmt)→(List SStmt)→Int→Option (List SIns)) (hr_punctualref_piece:punctualref_piece.Rec rec_punctualref_piece) (Z:Zone) (l0:List SStmt) (A0:OA) (c0:Nat) (x1:Int) (w0:World) (hZ:∀ w,Sub w0 w→Z w) (hR0:RdZ Z A0 l0) (hL0:l0.length≤c0) (r:List SIns) (h:punctualref_pieces.b K rec_punctualref_piece l0 x1=some r) :
  Calls Try.prog 66 #[.slice A0 l0.length c0,vI x1] w0 (punctualref_pieces.Post w0 r):=by
 have hS:=St.start w0
 unfold punctualref_pieces.b at h
 refine calls_enter (n:=21) (args:=[.slice A0 l0.length c0,vI x1]) (fn:=Try.f66) rfl rfl rfl rfl ?_
 show WE _ _ _ _ [(0,.slice A0 l0.length c0),(1,vI x1)] _
 refine ws fun K1 hK1=>wr [(0,0)]<|gb0 [0] [(4,.slice none 0 0)]<|gn hK1<|ws fun K2 hK2=>wr [(0,0)]<|gb0 [0] [(5,.slice none 0 0)]<|gn hK2<|ws fun K3 hK3=>ws fun K4 hK4=>wr [(0,0),(1,0),(2,0)]<|gb0 [0,1,2] [(10,vI 0),(9,vI (l0.length:Int)),(8,.slice A0 l0.length c0)]<|gn hK4<|we_block ?_
 have hS1:=hS.nil (α:=SIns) 29
 rcases hq3:iter (punctualref_pieces.r0 K l0 x1 rec_punctualref_piece) K (([]:List SIns),0) with _ | (m3 | rr1)
 ·rw [hq3] at h; cases h
 ·rw [hq3] at h
  simp only [] at h
  refine we_iter (A:=punctualref_pieces.A0 w0 l0 A0 c0 x1) (B:=punctualref_pieces.B0 w0) hq3 (fun a hF=>⟨(.slice none 0 0),hS1,hF.weaken ea⟩) (fun s o hf a w hA Q hQ=>punctualref_pieces_r0 K w0 Z l0 A0 c0 x1 hZ hR0 hL0 rec_punctualref_piece hr_punctualref_piece s o hf a w hA Q hQ) ?_
  rintro _ a w5 _ ⟨rfl,v5,hS10,hF⟩
  replace hS10:St w0 w5 [Own.of v5 29 m3]:=hS10
  refine hK3 [(5,v5)] w5 ?_ a hF
  refine ws fun K9 hK9=>wr [(0,0),(1,0)]<|gb0 [0,1] [(4,v5),(20,v5)]<|gn hK9 ?_
  obtain rfl:=si h
  exact we_ret (pr0 [.tmp 4] [v5] ⟨v5,rfl,hS10⟩)
 rw [hq3] at h
 simp only [] at h
 refine we_iter (A:=punctualref_pieces.A0 w0 l0 A0 c0 x1) (B:=punctualref_pieces.B0 w0) hq3 (fun a hF=>⟨(.slice none 0 0),hS1,hF.weaken ea⟩) (fun s o hf a w hA Q hQ=>punctualref_pieces_r0 K w0 Z l0 A0 c0 x1 hZ hR0 hL0 rec_punctualref_piece hr_punctualref_piece s o hf a w hA Q hQ) ?_
 rintro _ a w1 _ ⟨rfl,hb⟩
 obtain rfl:=si h
 exact hb
def punctualref_piece.p0 (x0_0 : Int) : Option (Bool ⊕ (List SIns)) :=
  if x0_0=1 then
   some (.inl true)
  else
   some (.inl (x0_0==2))
def punctualref_piece.p1 (x0_0 : Int) : Option (Bool ⊕ (List SIns)) :=
  if x0_0=4 then
   some (.inl true)
  else
   some (.inl (x0_0==5))
def punctualref_piece.b (K : Nat) (rec_punctualref_pieces : (List SStmt) → Int → Option (List SIns)) (x0_0 : Int) (x0_1 : Int) (x0_2_0 : Int) (x0_2_1 : Int) (l0_2_2 : List SExpr) (x0_3_0 : Int) (x0_3_1_0 : Int) (x0_3_1_1 : Int) (l0_3_1_2 : List SExpr) (x0_3_2_0 : Int) (x0_3_2_1 : Int) (l0_3_2_2 : List SExpr) (l0_4 : List SStmt) (l0_5 : List SStmt) (x1 : Int) : Option (List SIns) :=
 match punctualref_piece.p0 x0_0 with
 | none=>none
 | some (.inl q2) =>
  if q2=true then
   match punctualref_exprPiece.f K x0_2_0 x0_2_1 l0_2_2 with
   | none=>none
   | some r1 =>
    if r1.length<5864062014805 then
     some (r1++[(⟨((mget (mset (mset ([]:List (Int×Int)) 1 3) 2 10) x0_0).getD 0),x0_1,0⟩:SIns)])
    else
     none
  else
   if x0_0=3 then
    match punctualref_condPiece.f K x0_3_0 x0_3_1_0 x0_3_1_1 l0_3_1_2 x0_3_2_0 x0_3_2_1 l0_3_2_2 with
    | none=>none
    | some r1 =>
     match rec_punctualref_pieces l0_4 x1 with
     | none=>none
     | some r2 =>
      match rec_punctualref_pieces l0_5 x1 with
      | none=>none
      | some r3 =>
       if (l0_5.length:Int)=0 then
        if r1.length<5864062014805 then
         match punctualref_join.f K (r1++[(⟨12,IntKind.i64.wrap ((IntKind.i64.wrap ((r1.length:Int)+1))+(r2.length:Int)),0⟩:SIns)]) r2 with
         | none=>none
         | some r4 =>
          some r4
        else
         none
       else
        if r1.length<5864062014805 then
         match punctualref_join.f K (r1++[(⟨12,IntKind.i64.wrap ((IntKind.i64.wrap ((IntKind.i64.wrap ((r1.length:Int)+1))+(r2.length:Int)))+1),0⟩:SIns)]) r2 with
         | none=>none
         | some r5 =>
          if r5.length<5864062014805 then
           match punctualref_join.f K (r5++[(⟨11,IntKind.i64.wrap ((IntKind.i64.wrap ((r5.length:Int)+1))+(r3.length:Int)),0⟩:SIns)]) r3 with
           | none=>none
           | some r6 =>
            some r6
          else
           none
        else
         none
   else
    match punctualref_piece.p1 x0_0 with
    | none=>none
    | some (.inl q4) =>
     if q4=true then
      if x0_1=0 then
       some ([]:List SIns)
      else
       match rec_punctualref_pieces l0_4 (IntKind.i64.wrap (x1+1)) with
       | none=>none
       | some r7 =>
        if x0_0=5 then
         match punctualref_condPiece.f K x0_3_0 x0_3_1_0 x0_3_1_1 l0_3_1_2 x0_3_2_0 x0_3_2_1 l0_3_2_2 with
         | none=>none
         | some r8 =>
          if r8.length<5864062014805 then
           match punctualref_join.f K (r8++[(⟨12,IntKind.i64.wrap ((IntKind.i64.wrap ((IntKind.i64.wrap ((r8.length:Int)+1))+(r7.length:Int)))+1),0⟩:SIns)]) r7 with
           | none=>none
           | some r9 =>
            if r9.length+2≤5864062014805 then
             match punctualref_join.f K ([(⟨13,x1,IntKind.i64.wrap (x0_1-1)⟩:SIns)]:List SIns) (r9++([(⟨11,IntKind.i64.wrap ((r9.length:Int)+2),0⟩:SIns),(⟨15,x1,0⟩:SIns)]:List SIns)) with
             | none=>none
             | some r10 =>
              if r10.length<5864062014805 then
               some (r10++[(⟨14,x1,1⟩:SIns)])
              else
               none
            else
             none
          else
           none
        else
         match punctualref_join.f K ([(⟨13,x1,IntKind.i64.wrap (x0_1-1)⟩:SIns)]:List SIns) r7 with
         | none=>none
         | some r11 =>
          if r11.length<5864062014805 then
           some (r11++[(⟨14,x1,1⟩:SIns)])
          else
           none
     else
      if x0_0=6 then
       match rec_punctualref_pieces l0_4 x1 with
       | none=>none
       | some r12 =>
        match punctualref_join.f K ([(⟨16,x0_1,0⟩:SIns)]:List SIns) r12 with
        | none=>none
        | some r13 =>
         if r13.length<5864062014805 then
          some (r13++[(⟨17,x0_1,0⟩:SIns)])
         else
          none
      else
       some ([(⟨18,x0_1,0⟩:SIns)]:List SIns)
    | some (.inr rr1) =>
     some rr1
 | some (.inr rr2) =>
  some rr2
abbrev punctualref_piece.A0 (w0:World) (x0_0 x0_1 x0_2_0 x0_2_1:Int) (l0_2_2:List SExpr) (A0_2_2:OA) (c0_2_2:Nat) (x0_3_0 x0_3_1_0 x0_3_1_1:Int) (l0_3_1_2:List SExpr) (A0_3_1_2:OA) (c0_3_1_2:Nat) (x0_3_2_0 x0_3_2_1:Int) (l0_3_2_2:List SExpr) (A0_3_2_2:OA) (c0_3_2_2:Nat) (l0_4:List SStmt) (A0_4:OA) (c0_4:Nat) (l0_5:List SStmt) (A0_5:OA) (c0_5:Nat) (x1:Int) (b1:Nat):Bool→Act→World→Prop:=fun (s:Bool) a w=>St w0 w [bk b1 #[vI x0_0,vI x0_1,vI x0_2_0,vI x0_2_1,.slice A0_2_2 l0_2_2.length c0_2_2,vI x0_3_0,vI x0_3_1_0,vI x0_3_1_1,.slice A0_3_1_2 l0_3_1_2.length c0_3_1_2,vI x0_3_2_0,vI x0_3_2_1,.slice A0_3_2_2 l0_3_2_2.length c0_3_2_2,.slice A0_4 l0_4.length c0_4,.slice A0_5 l0_5.length c0_5] 49]∧Frm 161 a [(1,vI x1),(2,pP b1 0),(15,vI x0_0),(16,.bool s)]
abbrev punctualref_piece.B0 (w0:World):(List SIns)→Exit→Act→World→Prop:=Rets Try.prog Try.f90 (punctualref_piece.Post w0)
theorem punctualref_piece_p0 (K:Nat) (w0:World) (Z:Zone) (x0_0 x0_1 x0_2_0 x0_2_1:Int) (l0_2_2:List SExpr) (A0_2_2:OA) (c0_2_2:Nat) (x0_3_0 x0_3_1_0 x0_3_1_1:Int) (l0_3_1_2:List SExpr) (A0_3_1_2:OA) (c0_3_1_2:Nat) (x0_3_2_0 x0_3_2_1:Int) (l0_3_2_2:List SExpr) (A0_3_2_2:OA) (c0_3_2_2:Nat) (l0_4:List SStmt) (A0_4:OA) (c0_4:Nat) (l0_5:List SStmt) (A0_5:OA) (c0_5:Nat) (x1:Int) (hZ:∀ w,Sub w0 w→Z w) (hR0_2_2:RdZ Z A0_2_2 l0_2_2) (hL0_2_2:l0_2_2.length≤c0_2_2) (hR0_3_1_2:RdZ Z A0_3_1_2 l0_3_1_2) (hL0_3_1_2:l0_3_1_2.length≤c0_3_1_2) (hR0_3_2_2:RdZ Z A0_3_2_2 l0_3_2_2) (hL0_3_2_2:l0_3_2_2.length≤c0_3_2_2) (hR0_4:RdZ Z A0_4 l0_4) (hL0_4:l0_4.length≤c0_4) (hR0_5:RdZ Z A0_5 l0_5) (hL0_5:l0_5.length≤c0_5) (rec_punctualref_pieces:(List SStmt)→Int→Option (List SIns)) (hr_punctualref_pieces:punctualref_pieces.Rec rec_punctualref_pieces) (b1:Nat) (o:Bool ⊕ (List SIns)) (h:punctualref_piece.p0 x0_0=some o) (w:World) (hS:St w0 w [bk b1 #[vI x0_0,vI x0_1,vI x0_2_0,vI x0_2_1,.slice A0_2_2 l0_2_2.length c0_2_2,vI x0_3_0,vI x0_3_1_0,vI x0_3_1_1,.slice A0_3_1_2 l0_3_1_2.length c0_3_1_2,vI x0_3_2_0,vI x0_3_2_1,.slice A0_3_2_2 l0_3_2_2.length c0_3_2_2,.slice A0_4 l0_4.length c0_4,.slice A0_5 l0_5.length c0_5] 49]) (Q:Exit→Act→World→Prop) (hQ:∀ x a w,Outs (punctualref_piece.A0 w0 x0_0 x0_1 x0_2_0 x0_2_1 l0_2_2 A0_2_2 c0_2_2 x0_3_0 x0_3_1_0 x0_3_1_1 l0_3_1_2 A0_3_1_2 c0_3_1_2 x0_3_2_0 x0_3_2_1 l0_3_2_2 A0_3_2_2 c0_3_2_2 l0_4 A0_4 c0_4 l0_5 A0_5 c0_5 x1 b1) (punctualref_piece.B0 w0) o x a w→Q x a w):WE Try.prog 161 (subF Try.f90 [1,0,1,0,0]) Q [(0,.agg #[vI x0_0,vI x0_1,vI x0_2_0,vI x0_2_1,.slice A0_2_2 l0_2_2.length c0_2_2,vI x0_3_0,vI x0_3_1_0,vI x0_3_1_1,.slice A0_3_1_2 l0_3_1_2.length c0_3_1_2,vI x0_3_2_0,vI x0_3_2_1,.slice A0_3_2_2 l0_3_2_2.length c0_3_2_2,.slice A0_4 l0_4.length c0_4,.slice A0_5 l0_5.length c0_5]),(1,vI x1),(2,pP b1 0),(4,.slice none 0 0),(14,pP b1 0),(15,vI x0_0)] w:=by
 simp only [punctualref_piece.p0] at h
 refine ws fun K5 hK5=>wr [(0,0),(1,0)]<|gb0 [0,1] [(16,.bool (x0_0==1)),(17,.bool (x0_0==1))]<|gn hK5 ?_
 by_cases hc1:x0_0=1
 ·rw [if_pos hc1] at h
  refine wk 16 (x0_0==1) true (beq_iff_eq.2 hc1)<|wt ?_
  obtain rfl:=si h
  exact we_skip fun a hF=>hQ _ _ _ (Outs.again ⟨hS,hF.weaken ea⟩)
 rw [if_neg hc1] at h
 refine wk 16 (x0_0==1) false (beq_eq_false_iff_ne.2 hc1)<|wf<|wr [(0,0),(1,0)]<|gb0 [0,1] [(16,.bool (x0_0==2)),(18,.bool (x0_0==2))] ?_
 obtain rfl:=si h
 exact ge_nil fun a hF=>hQ _ _ _ (Outs.again ⟨hS,hF.weaken ea⟩)
abbrev punctualref_piece.t1_0:Ord:=(.alt 14 2 (.vals [15] .fin) .nomore)
abbrev punctualref_piece.t1_1:Ord:=(.alt 13 1 punctualref_piece.t1_0 .nomore)
abbrev punctualref_piece.t1_2:Ord:=(.alt 9 1 (.vals [12] punctualref_piece.t1_1) .nomore)
abbrev punctualref_piece.t1_3:Ord:=(.alt 2 1 punctualref_piece.t1_2 (.alt 9 1 (.vals [12] (.alt 2 1 punctualref_piece.t1_1 (.alt 13 1 (.alt 2 1 punctualref_piece.t1_0 .nomore) .nomore))) .nomore))
abbrev punctualref_piece.t1_4:Ord:=(.alt 4 2 (.vals [6] punctualref_piece.t1_2) .nomore)
abbrev punctualref_piece.t1_5:Ord:=(.alt 5 2 (.vals [6] punctualref_piece.t1_2) .nomore)
abbrev punctualref_piece.t1_6:Ord:=(.alt 4 2 punctualref_piece.t1_5 (.alt 5 2 punctualref_piece.t1_4 .nomore))
abbrev punctualref_piece.A1 (w0:World) (x0_0 x0_1 x0_2_0 x0_2_1:Int) (l0_2_2:List SExpr) (A0_2_2:OA) (c0_2_2:Nat) (x0_3_0 x0_3_1_0 x0_3_1_1:Int) (l0_3_1_2:List SExpr) (A0_3_1_2:OA) (c0_3_1_2:Nat) (x0_3_2_0 x0_3_2_1:Int) (l0_3_2_2:List SExpr) (A0_3_2_2:OA) (c0_3_2_2:Nat) (l0_4:List SStmt) (A0_4:OA) (c0_4:Nat) (l0_5:List SStmt) (A0_5:OA) (c0_5:Nat) (x1:Int) (b1:Nat):Bool→Act→World→Prop:=fun (s:Bool) a w=>St w0 w [bk b1 #[vI x0_0,vI x0_1,vI x0_2_0,vI x0_2_1,.slice A0_2_2 l0_2_2.length c0_2_2,vI x0_3_0,vI x0_3_1_0,vI x0_3_1_1,.slice A0_3_1_2 l0_3_1_2.length c0_3_1_2,vI x0_3_2_0,vI x0_3_2_1,.slice A0_3_2_2 l0_3_2_2.length c0_3_2_2,.slice A0_4 l0_4.length c0_4,.slice A0_5 l0_5.length c0_5] 49]∧Frm 161 a [(1,vI x1),(2,pP b1 0),(15,vI x0_0),(88,.bool s)]
abbrev punctualref_piece.B1 (w0:World):(List SIns)→Exit→Act→World→Prop:=Rets Try.prog Try.f90 (punctualref_piece.Post w0)
theorem punctualref_piece_p1 (K:Nat) (w0:World) (Z:Zone) (x0_0 x0_1 x0_2_0 x0_2_1:Int) (l0_2_2:List SExpr) (A0_2_2:OA) (c0_2_2:Nat) (x0_3_0 x0_3_1_0 x0_3_1_1:Int) (l0_3_1_2:List SExpr) (A0_3_1_2:OA) (c0_3_1_2:Nat) (x0_3_2_0 x0_3_2_1:Int) (l0_3_2_2:List SExpr) (A0_3_2_2:OA) (c0_3_2_2:Nat) (l0_4:List SStmt) (A0_4:OA) (c0_4:Nat) (l0_5:List SStmt) (A0_5:OA) (c0_5:Nat) (x1:Int) (hZ:∀ w,Sub w0 w→Z w) (hR0_2_2:RdZ Z A0_2_2 l0_2_2) (hL0_2_2:l0_2_2.length≤c0_2_2) (hR0_3_1_2:RdZ Z A0_3_1_2 l0_3_1_2) (hL0_3_1_2:l0_3_1_2.length≤c0_3_1_2) (hR0_3_2_2:RdZ Z A0_3_2_2 l0_3_2_2) (hL0_3_2_2:l0_3_2_2.length≤c0_3_2_2) (hR0_4:RdZ Z A0_4 l0_4) (hL0_4:l0_4.length≤c0_4) (hR0_5:RdZ Z A0_5 l0_5) (hL0_5:l0_5.length≤c0_5) (rec_punctualref_pieces:(List SStmt)→Int→Option (List SIns)) (hr_punctualref_pieces:punctualref_pieces.Rec rec_punctualref_pieces) (b1:Nat) (q2:Bool) (hc2:¬ (q2=true)) (hc3:¬ (x0_0=3)) (o:Bool ⊕ (List SIns)) (h:punctualref_piece.p1 x0_0=some o) (w:World) (hS:St w0 w [bk b1 #[vI x0_0,vI x0_1,vI x0_2_0,vI x0_2_1,.slice A0_2_2 l0_2_2.length c0_2_2,vI x0_3_0,vI x0_3_1_0,vI x0_3_1_1,.slice A0_3_1_2 l0_3_1_2.length c0_3_1_2,vI x0_3_2_0,vI x0_3_2_1,.slice A0_3_2_2 l0_3_2_2.length c0_3_2_2,.slice A0_4 l0_4.length c0_4,.slice A0_5 l0_5.length c0_5] 49]) (Q:Exit→Act→World→Prop) (hQ:∀ x a w,Outs (punctualref_piece.A1 w0 x0_0 x0_1 x0_2_0 x0_2_1 l0_2_2 A0_2_2 c0_2_2 x0_3_0 x0_3_1_0 x0_3_1_1 l0_3_1_2 A0_3_1_2 c0_3_1_2 x0_3_2_0 x0_3_2_1 l0_3_2_2 A0_3_2_2 c0_3_2_2 l0_4 A0_4 c0_4 l0_5 A0_5 c0_5 x1 b1) (punctualref_piece.B1 w0) o x a w→Q x a w):WE Try.prog 161 (subF Try.f90 [1,0,1,0,1,1,1,1,0]) Q [(1,vI x1),(2,pP b1 0),(15,vI x0_0),(16,.bool false),(32,.bool false),(33,.bool (x0_0==3))] w:=by
 simp only [punctualref_piece.p1] at h
 refine ws fun K17 hK17=>wr [(0,0),(1,0)]<|gb0 [0,1] [(88,.bool (x0_0==4)),(89,.bool (x0_0==4))]<|gn hK17 ?_
 by_cases hc8:x0_0=4
 ·rw [if_pos hc8] at h
  refine wk 88 (x0_0==4) true (beq_iff_eq.2 hc8)<|wt ?_
  obtain rfl:=si h
  exact we_skip fun a hF=>hQ _ _ _ (Outs.again ⟨hS,hF.weaken ea⟩)
 rw [if_neg hc8] at h
 refine wk 88 (x0_0==4) false (beq_eq_false_iff_ne.2 hc8)<|wf<|wr [(0,0),(1,0)]<|gb0 [0,1] [(88,.bool (x0_0==5)),(90,.bool (x0_0==5))] ?_
 obtain rfl:=si h
 exact ge_nil fun a hF=>hQ _ _ _ (Outs.again ⟨hS,hF.weaken ea⟩)
abbrev punctualref_piece.t2_0:Ord:=(.alt 13 2 (.vals [14] .fin) .nomore)
abbrev punctualref_piece.t2_1:Ord:=(.alt 8 1 punctualref_piece.t2_0 .nomore)
abbrev punctualref_piece.t2_2:Ord:=(.alt 3 1 punctualref_piece.t2_1 .nomore)
abbrev punctualref_piece.t2_3:Ord:=(.alt 7 1 punctualref_piece.t2_1 .nomore)
abbrev punctualref_piece.t2_4:Ord:=(.alt 8 1 (.alt 12 1 punctualref_piece.t2_0 .nomore) (.alt 12 1 punctualref_piece.t2_1 .nomore))
theorem punctualref_piece_step (K:Nat) (rec_punctualref_pieces:(List SStmt)→Int→Option (List SIns)) (hr_punctualref_pieces:punctualref_pieces.Rec rec_punctualref_pieces) (Z:Zone) (x0_0 x0_1 x0_2_0 x0_2_1:Int) (l0_2_2:List SExpr) (A0_2_2:OA) (c0_2_2:Nat) (x0_3_0 x0_3_1_0 x0_3_1_1:Int) (l0_3_1_2:List SExpr) (A0_3_1_2:OA) (c0_3_1_2:Nat) (x0_3_2_0 x0_3_2_1:Int) (l0_3_2_2:List SExpr) (A0_3_2_2:OA) (c0_3_2_2:Nat) (l0_4:List SStmt) (A0_4:OA) (c0_4:Nat) (l0_5:List SStmt) (A0_5:OA) (c0_5:Nat) (x1:Int) (w0:World) (hZ:∀ w,Sub w0 w→Z w) (hR0_2_2:RdZ Z A0_2_2 l0_2_2) (hL0_2_2:l0_2_2.length≤c0_2_2) (hR0_3_1_2:RdZ Z A0_3_1_2 l0_3_1_2) (hL0_3_1_2:l0_3_1_2.length≤c0_3_1_2) (hR0_3_2_2:RdZ Z A0_3_2_2 l0_3_2_2) (hL0_3_2_2:l0_3_2_2.length≤c0_3_2_2) (hR0_4:RdZ Z A0_4 l0_4) (hL0_4:l0_4.length≤c0_4) (hR0_5:RdZ Z A0_5 l0_5) (hL0_5:l0_5.length≤c0_5) (r:List SIns) (h:punctualref_piece.b K rec_punctualref_pieces x0_0 x0_1 x0_2_0 x0_2_1 l0_2_2 x0_3_0 x0_3_1_0 x0_3_1_1 l0_3_1_2 x0_3_2_0 x0_3_2_1 l0_3_2_2 l0_4 l0_5 x1=some r) :
  Calls Try.prog 90 #[.agg #[vI x0_0,vI x0_1,vI x0_2_0,vI x0_2_1,.slice A0_2_2 l0_2_2.length c0_2_2,vI x0_3_0,vI x0_3_1_0,vI x0_3_1_1,.slice A0_3_1_2 l0_3_1_2.length c0_3_1_2,vI x0_3_2_0,vI x0_3_2_1,.slice A0_3_2_2 l0_3_2_2.length c0_3_2_2,.slice A0_4 l0_4.length c0_4,.slice A0_5 l0_5.length c0_5],vI x1] w0 (punctualref_piece.Post w0 r):=by
 have hS:=St.start w0
 unfold punctualref_piece.b at h
 refine calls_enter (n:=161) (args:=[.agg #[vI x0_0,vI x0_1,vI x0_2_0,vI x0_2_1,.slice A0_2_2 l0_2_2.length c0_2_2,vI x0_3_0,vI x0_3_1_0,vI x0_3_1_1,.slice A0_3_1_2 l0_3_1_2.length c0_3_1_2,vI x0_3_2_0,vI x0_3_2_1,.slice A0_3_2_2 l0_3_2_2.length c0_3_2_2,.slice A0_4 l0_4.length c0_4,.slice A0_5 l0_5.length c0_5],vI x1]) (fn:=Try.f90) rfl rfl rfl rfl ?_
 show WE _ _ _ _ [(0,.agg #[vI x0_0,vI x0_1,vI x0_2_0,vI x0_2_1,.slice A0_2_2 l0_2_2.length c0_2_2,vI x0_3_0,vI x0_3_1_0,vI x0_3_1_1,.slice A0_3_1_2 l0_3_1_2.length c0_3_1_2,vI x0_3_2_0,vI x0_3_2_1,.slice A0_3_2_2 l0_3_2_2.length c0_3_2_2,.slice A0_4 l0_4.length c0_4,.slice A0_5 l0_5.length c0_5]),(1,vI x1)] _
 refine ws fun K1 hK1=>wr [(0,1),(1,0)]<|gw (some 2) (.cells #[vI x0_0,vI x0_1,vI x0_2_0,vI x0_2_1,.slice A0_2_2 l0_2_2.length c0_2_2,vI x0_3_0,vI x0_3_1_0,vI x0_3_1_1,.slice A0_3_1_2 l0_3_1_2.length c0_3_1_2,vI x0_3_2_0,vI x0_3_2_1,.slice A0_3_2_2 l0_3_2_2.length c0_3_2_2,.slice A0_4 l0_4.length c0_4,.slice A0_5 l0_5.length c0_5] 49) (fun b=>pP b 0) hS fun b1 w1 hx1 hS1=>?_
 refine gb0 [1] [(4,.slice none 0 0)]<|gn hK1<|ws fun K2 hK2=>ws fun K3 hK3=>wr [(0,0),(1,0)]<|gb [0,1] [(15,vI x0_0),(14,pP b1 0)] [ld b1 0 (vI x0_0)] ⟨hS1.c 0,trivial⟩<|gn hK3<|we_block<|ws fun K4 hK4=>?_
 rcases hq1:punctualref_piece.p0 x0_0 with _ | (q2 | rr2)
 ·rw [hq1] at h; cases h
 ·rw [hq1] at h
  simp only [] at h
  refine kp (punctualref_piece_p0 K w0 Z x0_0 x0_1 x0_2_0 x0_2_1 l0_2_2 A0_2_2 c0_2_2 x0_3_0 x0_3_1_0 x0_3_1_1 l0_3_1_2 A0_3_1_2 c0_3_1_2 x0_3_2_0 x0_3_2_1 l0_3_2_2 A0_3_2_2 c0_3_2_2 l0_4 A0_4 c0_4 l0_5 A0_5 c0_5 x1 hZ hR0_2_2 hL0_2_2 hR0_3_1_2 hL0_3_1_2 hR0_3_2_2 hL0_3_2_2 hR0_4 hL0_4 hR0_5 hL0_5 rec_punctualref_pieces hr_punctualref_pieces b1 _ hq1 _ hS1 _ ?_)
  rintro _ a w2 ⟨rfl,hS2,hF⟩
  replace hS2:St w0 w2 [bk b1 #[vI x0_0,vI x0_1,vI x0_2_0,vI x0_2_1,.slice A0_2_2 l0_2_2.length c0_2_2,vI x0_3_0,vI x0_3_1_0,vI x0_3_1_1,.slice A0_3_1_2 l0_3_1_2.length c0_3_1_2,vI x0_3_2_0,vI x0_3_2_1,.slice A0_3_2_2 l0_3_2_2.length c0_3_2_2,.slice A0_4 l0_4.length c0_4,.slice A0_5 l0_5.length c0_5] 49]:=hS2
  refine hK4 [(1,vI x1),(2,pP b1 0),(15,vI x0_0),(16,.bool q2)] w2 ?_ a hF
  by_cases hc2:q2=true
  ·rw [if_pos hc2] at h
   refine wk 16 q2 true hc2<|wt<|ws fun K6 hK6=>we_orders3 (by kernel_rfl) [(1,[⟨b1,2,none⟩,⟨b1,3,none⟩,⟨b1,4,none⟩],[2,14],[]),(8,[⟨b1,0,none⟩],[9,12,13,14],[]),(11,[⟨b1,1,none⟩],[12,13,14],[])] (.vals [0] (.vals [1] (.vals [7] (.vals [8] (.vals [10] (.vals [11] (.alt 2 1 (.alt 3 1 punctualref_piece.t1_6 .nomore) (.alt 3 1 (.alt 2 1 punctualref_piece.t1_6 (.alt 4 2 (.alt 2 1 punctualref_piece.t1_5 (.alt 5 2 (.vals [6] punctualref_piece.t1_3) .nomore)) (.alt 5 2 (.alt 2 1 punctualref_piece.t1_4 (.alt 4 2 (.vals [6] punctualref_piece.t1_3) .nomore)) .nomore))) .nomore)))))))) (by kernel_rfl) (by kernel_rfl) ?_
   have hS3:=hS2.drew
   refine go3_join punctualref_piece.t1_0 (fun (x:(List SIns)×Value×Nat×Nat) e w=>match x with | (r1,v1,b2,b3)=>e=[(21,v1),(30,.slice (some ⟨b3,0,none⟩) 1 1)]∧(punctualref_exprPiece.f K x0_2_0 x0_2_1 l0_2_2=some r1)∧St w0 w [bk b3 #[vI ((mget (mset (mset ([]:List (Int×Int)) 1 3) 2 10) x0_0).getD 0),vI x0_1,vI 0] 29,Own.mapE (κ:=Int) (ν:=Int) b2 (mset (mset ([]:List (Int×Int)) 1 3) 2 10),Own.of v1 29 r1,bk b1 #[vI x0_0,vI x0_1,vI x0_2_0,vI x0_2_1,.slice A0_2_2 l0_2_2.length c0_2_2,vI x0_3_0,vI x0_3_1_0,vI x0_3_1_1,.slice A0_3_1_2 l0_3_1_2.length c0_3_1_2,vI x0_3_2_0,vI x0_3_2_1,.slice A0_3_2_2 l0_3_2_2.length c0_3_2_2,.slice A0_4 l0_4.length c0_4,.slice A0_5 l0_5.length c0_5] 49]) ?_ fun hJ1_4=>?_
   ·rintro ⟨r1,v1,b2,b3⟩ _ W5 ⟨rfl,hq2,hS16⟩
    replace hS16:St w0 W5 [bk b3 #[vI ((mget (mset (mset ([]:List (Int×Int)) 1 3) 2 10) x0_0).getD 0),vI x0_1,vI 0] 29,Own.mapE (κ:=Int) (ν:=Int) b2 (mset (mset ([]:List (Int×Int)) 1 3) 2 10),Own.of v1 29 r1,bk b1 #[vI x0_0,vI x0_1,vI x0_2_0,vI x0_2_1,.slice A0_2_2 l0_2_2.length c0_2_2,vI x0_3_0,vI x0_3_1_0,vI x0_3_1_1,.slice A0_3_1_2 l0_3_1_2.length c0_3_1_2,vI x0_3_2_0,vI x0_3_2_1,.slice A0_3_2_2 l0_3_2_2.length c0_3_2_2,.slice A0_4 l0_4.length c0_4,.slice A0_5 l0_5.length c0_5] 49]:=hS16
    rw [hq2] at h
    simp only [] at h
    refine go_alt3 (fun KK hKK=>?_) ?_
    ·have hS17:=hS16.b 2
     by_cases hc3:r1.length<5864062014805
     ·rw [if_pos hc3] at h
      refine ge_append (α:=SIns) (m:=0) (d:=31) (t:=68) (el:=29) (bytes:=24) (c1:=1) (b1:=b3) (x:=(.tmp 21)) (y:=(.tmp 30)) (ty:=68) (v:=v1) (z:=.agg #[vI 0,vI 0,vI 0]) (l:=r1) (u:=(⟨((mget (mset (mset ([]:List (Int×Int)) 1 3) 2 10) x0_0).getD 0),x0_1,0⟩:SIns)) (by kernel_rfl) (by kernel_rfl) (by kernel_rfl) (by kernel_rfl) (by kernel_rfl) rfl hS17 rfl (by omega) fun v2 w8 hS18=>?_
      refine g2 hKK<|g30 [15] [(4,v2)]<|go_fin3 fun a hF=>hK6 _ _ ?_ a hF
      have hS19:=hS18.takeN 1
      obtain rfl:=si h
      exact we_ret (pr0 [.tmp 4] [v2] ⟨v2,rfl,hS19⟩)
     rw [if_neg hc3] at h
     cases h
    exact go_nomore3
   refine go3_join punctualref_piece.t1_1 (fun (x:(List SIns)×Value×Nat) e w=>match x with | (r1,v1,b2)=>e=[(21,v1),(29,.agg #[vI ((mget (mset (mset ([]:List (Int×Int)) 1 3) 2 10) x0_0).getD 0),vI x0_1,vI 0])]∧(punctualref_exprPiece.f K x0_2_0 x0_2_1 l0_2_2=some r1)∧St w0 w [Own.mapE (κ:=Int) (ν:=Int) b2 (mset (mset ([]:List (Int×Int)) 1 3) 2 10),Own.of v1 29 r1,bk b1 #[vI x0_0,vI x0_1,vI x0_2_0,vI x0_2_1,.slice A0_2_2 l0_2_2.length c0_2_2,vI x0_3_0,vI x0_3_1_0,vI x0_3_1_1,.slice A0_3_1_2 l0_3_1_2.length c0_3_1_2,vI x0_3_2_0,vI x0_3_2_1,.slice A0_3_2_2 l0_3_2_2.length c0_3_2_2,.slice A0_4 l0_4.length c0_4,.slice A0_5 l0_5.length c0_5] 49]) ?_ fun hJ1_3=>?_
   ·rintro ⟨r1,v1,b2⟩ _ W4 ⟨rfl,hq2,hS14⟩
    replace hS14:St w0 W4 [Own.mapE (κ:=Int) (ν:=Int) b2 (mset (mset ([]:List (Int×Int)) 1 3) 2 10),Own.of v1 29 r1,bk b1 #[vI x0_0,vI x0_1,vI x0_2_0,vI x0_2_1,.slice A0_2_2 l0_2_2.length c0_2_2,vI x0_3_0,vI x0_3_1_0,vI x0_3_1_1,.slice A0_3_1_2 l0_3_1_2.length c0_3_1_2,vI x0_3_2_0,vI x0_3_2_1,.slice A0_3_2_2 l0_3_2_2.length c0_3_2_2,.slice A0_4 l0_4.length c0_4,.slice A0_5 l0_5.length c0_5] 49]:=hS14
    rw [hq2] at h
    simp only [] at h
    refine go_alt3 (fun KK hKK=>?_) ?_
    ·refine ge_one2<|gw (some 30) (.cells #[vI ((mget (mset (mset ([]:List (Int×Int)) 1 3) 2 10) x0_0).getD 0),vI x0_1,vI 0] 29) (fun b=>.slice (some ⟨b,0,none⟩) 1 1) hS14 fun b3 w7 hx3 hS15=>?_
     refine ge_nil fun a hF=>hKK _ _ (RS.of2 (l:=[ld b1 2 (vI x0_2_0),ld b1 3 (vI x0_2_1),ld b1 4 (.slice A0_2_2 l0_2_2.length c0_2_2)]) (by kernel_rfl) ⟨hS14.c 2,hS14.c 2,hS14.c 2,trivial⟩ ⟨hS15.c 3,hS15.c 3,hS15.c 3,trivial⟩) ?_ a hF
     have hS23:=(((hS15.b 3).b 3).b 3).b 3
     exact go3_keep [(21,v1),(30,.slice (some ⟨b3,0,none⟩) 1 1)] ea (hJ1_4 (r1,v1,b2,b3) _ _ ⟨rfl,hq2,hS23⟩)
    exact go_nomore3
   refine go3_join punctualref_piece.t1_2 (fun (x:(List SIns)×Value×Nat) e w=>match x with | (r1,v1,b2)=>e=[(21,v1),(23,.map (some b2)),(25,vI x0_0),(28,vI x0_1)]∧(punctualref_exprPiece.f K x0_2_0 x0_2_1 l0_2_2=some r1)∧St w0 w [Own.mapE (κ:=Int) (ν:=Int) b2 (mset (mset ([]:List (Int×Int)) 1 3) 2 10),Own.of v1 29 r1,bk b1 #[vI x0_0,vI x0_1,vI x0_2_0,vI x0_2_1,.slice A0_2_2 l0_2_2.length c0_2_2,vI x0_3_0,vI x0_3_1_0,vI x0_3_1_1,.slice A0_3_1_2 l0_3_1_2.length c0_3_1_2,vI x0_3_2_0,vI x0_3_2_1,.slice A0_3_2_2 l0_3_2_2.length c0_3_2_2,.slice A0_4 l0_4.length c0_4,.slice A0_5 l0_5.length c0_5] 49]) ?_ fun hJ1_2=>?_
   ·rintro ⟨r1,v1,b2⟩ _ W3 ⟨rfl,hq2,hS13⟩
    replace hS13:St w0 W3 [Own.mapE (κ:=Int) (ν:=Int) b2 (mset (mset ([]:List (Int×Int)) 1 3) 2 10),Own.of v1 29 r1,bk b1 #[vI x0_0,vI x0_1,vI x0_2_0,vI x0_2_1,.slice A0_2_2 l0_2_2.length c0_2_2,vI x0_3_0,vI x0_3_1_0,vI x0_3_1_1,.slice A0_3_1_2 l0_3_1_2.length c0_3_1_2,vI x0_3_2_0,vI x0_3_2_1,.slice A0_3_2_2 l0_3_2_2.length c0_3_2_2,.slice A0_4 l0_4.length c0_4,.slice A0_5 l0_5.length c0_5] 49]:=hS13
    rw [hq2] at h
    simp only [] at h
    refine go_alt3 (fun KK hKK=>?_) ?_
    ·refine ge_val2 ?_
     refine ge_lookupE (κ:=Int) (ν:=Int) (d:=26) (b:=b2) (q:=0) (t:=113) (kt:=3) (et:=3) (x:=(.tmp 23)) (y:=(.tmp 25)) (ty:=3) (m:=(mset (mset ([]:List (Int×Int)) 1 3) 2 10)) (k:=x0_0) (z:=0) (v:=((mget (mset (mset ([]:List (Int×Int)) 1 3) 2 10) x0_0).getD 0)) (zv:=vI 0) (vv:=vI ((mget (mset (mset ([]:List (Int×Int)) 1 3) 2 10) x0_0).getD 0)) (by kernel_rfl) (by kernel_rfl) (by kernel_rfl) (by kernel_rfl) (by kernel_rfl) (fun w'=>by kernel_rfl) rfl hS13 rfl rfl rfl ?_
     refine ge_nil fun a hF=>hKK _ _ (RS.refl _ _) ?_ a hF
     refine g30 [12] [(29,.agg #[vI ((mget (mset (mset ([]:List (Int×Int)) 1 3) 2 10) x0_0).getD 0),vI x0_1,vI 0])] ?_
     have hS26:=((hS13.b 2).b 2).b 2
     exact go3_keep [(21,v1),(29,.agg #[vI ((mget (mset (mset ([]:List (Int×Int)) 1 3) 2 10) x0_0).getD 0),vI x0_1,vI 0])] ea (hJ1_3 (r1,v1,b2) _ _ ⟨rfl,hq2,hS26⟩)
    exact go_nomore3
   refine go3_join punctualref_piece.t1_5 (fun (x:(List SIns)×Value×Nat) e w=>match x with | (r1,v1,b2)=>e=[(21,v1),(22,.map (some b2)),(25,vI x0_0),(28,vI x0_1)]∧(punctualref_exprPiece.f K x0_2_0 x0_2_1 l0_2_2=some r1)∧St w0 w [Own.map (κ:=Int) (ν:=Int) b2 (mset ([]:List (Int×Int)) 1 3),Own.of v1 29 r1,bk b1 #[vI x0_0,vI x0_1,vI x0_2_0,vI x0_2_1,.slice A0_2_2 l0_2_2.length c0_2_2,vI x0_3_0,vI x0_3_1_0,vI x0_3_1_1,.slice A0_3_1_2 l0_3_1_2.length c0_3_1_2,vI x0_3_2_0,vI x0_3_2_1,.slice A0_3_2_2 l0_3_2_2.length c0_3_2_2,.slice A0_4 l0_4.length c0_4,.slice A0_5 l0_5.length c0_5] 49]) ?_ fun hJ1_1=>?_
   ·rintro ⟨r1,v1,b2⟩ _ W2 ⟨rfl,hq2,hS10⟩
    replace hS10:St w0 W2 [Own.map (κ:=Int) (ν:=Int) b2 (mset ([]:List (Int×Int)) 1 3),Own.of v1 29 r1,bk b1 #[vI x0_0,vI x0_1,vI x0_2_0,vI x0_2_1,.slice A0_2_2 l0_2_2.length c0_2_2,vI x0_3_0,vI x0_3_1_0,vI x0_3_1_1,.slice A0_3_1_2 l0_3_1_2.length c0_3_1_2,vI x0_3_2_0,vI x0_3_2_1,.slice A0_3_2_2 l0_3_2_2.length c0_3_2_2,.slice A0_4 l0_4.length c0_4,.slice A0_5 l0_5.length c0_5] 49]:=hS10
    rw [hq2] at h
    simp only [] at h
    refine go_alt3 (fun KK hKK=>?_) ?_
    ·refine ge_mapSet (κ:=Int) (ν:=Int) (b:=b2) (ins:=true) (mm:=0) (t:=113) (kt:=3) (et:=3) (x:=(.tmp 22)) (y:=(.const (vI 2))) (u:=(.const (vI 10))) (ty:=0) (m:=(mset ([]:List (Int×Int)) 1 3)) (k:=2) (v:=10) (vv:=vI 10) (by kernel_rfl) (by kernel_rfl) (by kernel_rfl) (by kernel_rfl) rfl (by kernel_rfl) (by kernel_rfl) hS10 fun w6 hS11=>?_
     have hS12:=hS11.toE (m:=(mset (mset ([]:List (Int×Int)) 1 3) 2 10)) (fun k=>by simp only [mget_mset]; (repeat' split); all_goals first | rfl | omega)
     refine ge_nil fun a hF=>hKK _ _ (RS.of2 (l:=[ld b1 2 (vI x0_2_0),ld b1 3 (vI x0_2_1),ld b1 4 (.slice A0_2_2 l0_2_2.length c0_2_2),ld b1 0 (vI x0_0),ld b1 1 (vI x0_1)]) (by kernel_rfl) ⟨hS10.c 2,hS10.c 2,hS10.c 2,hS10.c 2,hS10.c 2,trivial⟩ ⟨hS12.c 2,hS12.c 2,hS12.c 2,hS12.c 2,hS12.c 2,trivial⟩) ?_ a hF
     refine g30 [6] [(23,.map (some b2))] ?_
     have hS29:=((hS12.b 2).b 2).b 2
     exact go3_keep [(21,v1),(23,.map (some b2)),(25,vI x0_0),(28,vI x0_1)] ea (hJ1_2 (r1,v1,b2) _ _ ⟨rfl,hq2,hS29⟩)
    exact go_nomore3
   refine go3_join punctualref_piece.t1_4 (fun (x:(List SIns)×Value×Nat) e w=>match x with | (r1,v1,b2)=>e=[(21,v1),(22,.map (some b2)),(25,vI x0_0),(28,vI x0_1)]∧(punctualref_exprPiece.f K x0_2_0 x0_2_1 l0_2_2=some r1)∧St w0 w [Own.map (κ:=Int) (ν:=Int) b2 (mset ([]:List (Int×Int)) 2 10),Own.of v1 29 r1,bk b1 #[vI x0_0,vI x0_1,vI x0_2_0,vI x0_2_1,.slice A0_2_2 l0_2_2.length c0_2_2,vI x0_3_0,vI x0_3_1_0,vI x0_3_1_1,.slice A0_3_1_2 l0_3_1_2.length c0_3_1_2,vI x0_3_2_0,vI x0_3_2_1,.slice A0_3_2_2 l0_3_2_2.length c0_3_2_2,.slice A0_4 l0_4.length c0_4,.slice A0_5 l0_5.length c0_5] 49]) ?_ fun hJ1_5=>?_
   ·rintro ⟨r1,v1,b2⟩ _ W2 ⟨rfl,hq2,hS10⟩
    replace hS10:St w0 W2 [Own.map (κ:=Int) (ν:=Int) b2 (mset ([]:List (Int×Int)) 2 10),Own.of v1 29 r1,bk b1 #[vI x0_0,vI x0_1,vI x0_2_0,vI x0_2_1,.slice A0_2_2 l0_2_2.length c0_2_2,vI x0_3_0,vI x0_3_1_0,vI x0_3_1_1,.slice A0_3_1_2 l0_3_1_2.length c0_3_1_2,vI x0_3_2_0,vI x0_3_2_1,.slice A0_3_2_2 l0_3_2_2.length c0_3_2_2,.slice A0_4 l0_4.length c0_4,.slice A0_5 l0_5.length c0_5] 49]:=hS10
    rw [hq2] at h
    simp only [] at h
    refine go_alt3 (fun KK hKK=>?_) ?_
    ·refine ge_mapSet (κ:=Int) (ν:=Int) (b:=b2) (ins:=true) (mm:=0) (t:=113) (kt:=3) (et:=3) (x:=(.tmp 22)) (y:=(.const (vI 1))) (u:=(.const (vI 3))) (ty:=0) (m:=(mset ([]:List (Int×Int)) 2 10)) (k:=1) (v:=3) (vv:=vI 3) (by kernel_rfl) (by kernel_rfl) (by kernel_rfl) (by kernel_rfl) rfl (by kernel_rfl) (by kernel_rfl) hS10 fun w6 hS11=>?_
     have hS12:=hS11.toE (m:=(mset (mset ([]:List (Int×Int)) 1 3) 2 10)) (fun k=>by simp only [mget_mset]; (repeat' split); all_goals first | rfl | omega)
     refine ge_nil fun a hF=>hKK _ _ (RS.of2 (l:=[ld b1 2 (vI x0_2_0),ld b1 3 (vI x0_2_1),ld b1 4 (.slice A0_2_2 l0_2_2.length c0_2_2),ld b1 0 (vI x0_0),ld b1 1 (vI x0_1)]) (by kernel_rfl) ⟨hS10.c 2,hS10.c 2,hS10.c 2,hS10.c 2,hS10.c 2,trivial⟩ ⟨hS12.c 2,hS12.c 2,hS12.c 2,hS12.c 2,hS12.c 2,trivial⟩) ?_ a hF
     refine g30 [6] [(23,.map (some b2))] ?_
     have hS15:=((hS12.b 2).b 2).b 2
     exact go3_keep [(21,v1),(23,.map (some b2)),(25,vI x0_0),(28,vI x0_1)] ea (hJ1_2 (r1,v1,b2) _ _ ⟨rfl,hq2,hS15⟩)
    exact go_nomore3
   refine go3_join punctualref_piece.t1_6 (fun (x:(List SIns)×Value×Nat) e w=>match x with | (r1,v1,b2)=>e=[(21,v1),(22,.map (some b2)),(25,vI x0_0),(28,vI x0_1)]∧(punctualref_exprPiece.f K x0_2_0 x0_2_1 l0_2_2=some r1)∧St w0 w [Own.map (κ:=Int) (ν:=Int) b2 ([]:List (Int×Int)),Own.of v1 29 r1,bk b1 #[vI x0_0,vI x0_1,vI x0_2_0,vI x0_2_1,.slice A0_2_2 l0_2_2.length c0_2_2,vI x0_3_0,vI x0_3_1_0,vI x0_3_1_1,.slice A0_3_1_2 l0_3_1_2.length c0_3_1_2,vI x0_3_2_0,vI x0_3_2_1,.slice A0_3_2_2 l0_3_2_2.length c0_3_2_2,.slice A0_4 l0_4.length c0_4,.slice A0_5 l0_5.length c0_5] 49]) ?_ fun hJ1_0=>?_
   ·rintro ⟨r1,v1,b2⟩ _ W1 ⟨rfl,hq2,hS8⟩
    replace hS8:St w0 W1 [Own.map (κ:=Int) (ν:=Int) b2 ([]:List (Int×Int)),Own.of v1 29 r1,bk b1 #[vI x0_0,vI x0_1,vI x0_2_0,vI x0_2_1,.slice A0_2_2 l0_2_2.length c0_2_2,vI x0_3_0,vI x0_3_1_0,vI x0_3_1_1,.slice A0_3_1_2 l0_3_1_2.length c0_3_1_2,vI x0_3_2_0,vI x0_3_2_1,.slice A0_3_2_2 l0_3_2_2.length c0_3_2_2,.slice A0_4 l0_4.length c0_4,.slice A0_5 l0_5.length c0_5] 49]:=hS8
    rw [hq2] at h
    simp only [] at h
    refine go_alt3 (fun KK hKK=>?_) ?_
    ·refine ge_mapSet (κ:=Int) (ν:=Int) (b:=b2) (ins:=true) (mm:=0) (t:=113) (kt:=3) (et:=3) (x:=(.tmp 22)) (y:=(.const (vI 1))) (u:=(.const (vI 3))) (ty:=0) (m:=([]:List (Int×Int))) (k:=1) (v:=3) (vv:=vI 3) (by kernel_rfl) (by kernel_rfl) (by kernel_rfl) (by kernel_rfl) rfl (by kernel_rfl) (by kernel_rfl) hS8 fun w5 hS9=>?_
     refine ge_nil fun a hF=>hKK _ _ (RS.of2 (l:=[ld b1 2 (vI x0_2_0),ld b1 3 (vI x0_2_1),ld b1 4 (.slice A0_2_2 l0_2_2.length c0_2_2),ld b1 0 (vI x0_0),ld b1 1 (vI x0_1)]) (by kernel_rfl) ⟨hS8.c 2,hS8.c 2,hS8.c 2,hS8.c 2,hS8.c 2,trivial⟩ ⟨hS9.c 2,hS9.c 2,hS9.c 2,hS9.c 2,hS9.c 2,trivial⟩) ?_ a hF
     have hS32:=((hS9.b 2).b 2).b 2
     exact go3_keep [(21,v1),(22,.map (some b2)),(25,vI x0_0),(28,vI x0_1)] ea (hJ1_1 (r1,v1,b2) _ _ ⟨rfl,hq2,hS32⟩)
    refine go_alt3 (fun KK hKK=>?_) ?_
    ·refine ge_mapSet (κ:=Int) (ν:=Int) (b:=b2) (ins:=true) (mm:=0) (t:=113) (kt:=3) (et:=3) (x:=(.tmp 22)) (y:=(.const (vI 2))) (u:=(.const (vI 10))) (ty:=0) (m:=([]:List (Int×Int))) (k:=2) (v:=10) (vv:=vI 10) (by kernel_rfl) (by kernel_rfl) (by kernel_rfl) (by kernel_rfl) rfl (by kernel_rfl) (by kernel_rfl) hS8 fun w5 hS9=>?_
     refine ge_nil fun a hF=>hKK _ _ (RS.of2 (l:=[ld b1 2 (vI x0_2_0),ld b1 3 (vI x0_2_1),ld b1 4 (.slice A0_2_2 l0_2_2.length c0_2_2),ld b1 0 (vI x0_0),ld b1 1 (vI x0_1)]) (by kernel_rfl) ⟨hS8.c 2,hS8.c 2,hS8.c 2,hS8.c 2,hS8.c 2,trivial⟩ ⟨hS9.c 2,hS9.c 2,hS9.c 2,hS9.c 2,hS9.c 2,trivial⟩) ?_ a hF
     have hS18:=((hS9.b 2).b 2).b 2
     exact go3_keep [(21,v1),(22,.map (some b2)),(25,vI x0_0),(28,vI x0_1)] ea (hJ1_5 (r1,v1,b2) _ _ ⟨rfl,hq2,hS18⟩)
    exact go_nomore3
   refine go3_join punctualref_piece.t1_3 (fun (x:Nat) e w=>match x with | b2=>e=[(20,.agg #[vI x0_2_0,vI x0_2_1,.slice A0_2_2 l0_2_2.length c0_2_2]),(23,.map (some b2)),(25,vI x0_0),(28,vI x0_1)]∧St w0 w [Own.mapE (κ:=Int) (ν:=Int) b2 (mset (mset ([]:List (Int×Int)) 1 3) 2 10),bk b1 #[vI x0_0,vI x0_1,vI x0_2_0,vI x0_2_1,.slice A0_2_2 l0_2_2.length c0_2_2,vI x0_3_0,vI x0_3_1_0,vI x0_3_1_1,.slice A0_3_1_2 l0_3_1_2.length c0_3_1_2,vI x0_3_2_0,vI x0_3_2_1,.slice A0_3_2_2 l0_3_2_2.length c0_3_2_2,.slice A0_4 l0_4.length c0_4,.slice A0_5 l0_5.length c0_5] 49]) ?_ fun hJ1_6=>?_
   ·rintro b2 _ W1 ⟨rfl,hS9⟩
    replace hS9:St w0 W1 [Own.mapE (κ:=Int) (ν:=Int) b2 (mset (mset ([]:List (Int×Int)) 1 3) 2 10),bk b1 #[vI x0_0,vI x0_1,vI x0_2_0,vI x0_2_1,.slice A0_2_2 l0_2_2.length c0_2_2,vI x0_3_0,vI x0_3_1_0,vI x0_3_1_1,.slice A0_3_1_2 l0_3_1_2.length c0_3_1_2,vI x0_3_2_0,vI x0_3_2_1,.slice A0_3_2_2 l0_3_2_2.length c0_3_2_2,.slice A0_4 l0_4.length c0_4,.slice A0_5 l0_5.length c0_5] 49]:=hS9
    refine go_alt3 (fun KK hKK=>?_) ?_
    ·refine ge_one2 ?_
     rcases hq2:punctualref_exprPiece.f K x0_2_0 x0_2_1 l0_2_2 with _ | r1
     ·rw [hq2] at h; cases h
     rw [hq2] at h
     simp only [] at h
     refine ge_call (d:=some 21) (f:=116) (args:=#[.agg #[vI x0_2_0,vI x0_2_1,.slice A0_2_2 l0_2_2.length c0_2_2]]) (by kernel_rfl) (punctualref_exprPiece_ok K Z x0_2_0 x0_2_1 l0_2_2 A0_2_2 c0_2_2 _ (fun w' k=>(hZ w' (hS9.subw.trans k))) hR0_2_2 hL0_2_2 _ hq2) ?_
     rintro _ w6 ⟨v1,rfl,hS10⟩
     refine ⟨_,rfl,hS10.below,?_⟩
     have hS11:=hS9.call hS10
     refine ge_nil fun a hF=>hKK _ _ (RS.of2 (l:=[ld b1 0 (vI x0_0),ld b1 1 (vI x0_1)]) (by kernel_rfl) ⟨hS9.c 1,hS9.c 1,trivial⟩ ⟨hS11.c 2,hS11.c 2,trivial⟩) ?_ a hF
     have hS14:=((hS11.b 2).b 1).b 2
     exact go3_keep [(21,v1),(23,.map (some b2)),(25,vI x0_0),(28,vI x0_1)] ea (hJ1_2 (r1,v1,b2) _ _ ⟨rfl,hq2,hS14⟩)
    refine go_alt3 (fun KK hKK=>?_) ?_
    ·refine ge_val2 ?_
     refine ge_lookupE (κ:=Int) (ν:=Int) (d:=26) (b:=b2) (q:=0) (t:=113) (kt:=3) (et:=3) (x:=(.tmp 23)) (y:=(.tmp 25)) (ty:=3) (m:=(mset (mset ([]:List (Int×Int)) 1 3) 2 10)) (k:=x0_0) (z:=0) (v:=((mget (mset (mset ([]:List (Int×Int)) 1 3) 2 10) x0_0).getD 0)) (zv:=vI 0) (vv:=vI ((mget (mset (mset ([]:List (Int×Int)) 1 3) 2 10) x0_0).getD 0)) (by kernel_rfl) (by kernel_rfl) (by kernel_rfl) (by kernel_rfl) (by kernel_rfl) (fun w'=>by kernel_rfl) rfl hS9 rfl rfl rfl ?_
     refine ge_nil fun a hF=>hKK _ _ (RS.refl _ _) ?_ a hF
     refine g30 [12] [(29,.agg #[vI ((mget (mset (mset ([]:List (Int×Int)) 1 3) 2 10) x0_0).getD 0),vI x0_1,vI 0])]<|go_alt3 (fun KK hKK=>?_) ?_
     ·refine ge_one2 ?_
      rcases hq2:punctualref_exprPiece.f K x0_2_0 x0_2_1 l0_2_2 with _ | r1
      ·rw [hq2] at h; cases h
      rw [hq2] at h
      simp only [] at h
      refine ge_call (d:=some 21) (f:=116) (args:=#[.agg #[vI x0_2_0,vI x0_2_1,.slice A0_2_2 l0_2_2.length c0_2_2]]) (by kernel_rfl) (punctualref_exprPiece_ok K Z x0_2_0 x0_2_1 l0_2_2 A0_2_2 c0_2_2 _ (fun w' k=>(hZ w' (hS9.subw.trans k))) hR0_2_2 hL0_2_2 _ hq2) ?_
      rintro _ w6 ⟨v1,rfl,hS10⟩
      refine ⟨_,rfl,hS10.below,?_⟩
      have hS11:=hS9.call hS10
      refine ge_nil fun a hF=>hKK _ _ (RS.of2 (l:=[ld b1 0 (vI x0_0),ld b1 1 (vI x0_1)]) (by kernel_rfl) ⟨hS9.c 1,hS9.c 1,trivial⟩ ⟨hS11.c 2,hS11.c 2,trivial⟩) ?_ a hF
      have hS14:=((hS11.b 2).b 1).b 2
      exact go3_keep [(21,v1),(29,.agg #[vI ((mget (mset (mset ([]:List (Int×Int)) 1 3) 2 10) x0_0).getD 0),vI x0_1,vI 0])] ea (hJ1_3 (r1,v1,b2) _ _ ⟨rfl,hq2,hS14⟩)
     refine go_alt3 (fun KK hKK=>?_) ?_
     ·refine ge_one2<|gw (some 30) (.cells #[vI ((mget (mset (mset ([]:List (Int×Int)) 1 3) 2 10) x0_0).getD 0),vI x0_1,vI 0] 29) (fun b=>.slice (some ⟨b,0,none⟩) 1 1) hS9 fun b3 w6 hx3 hS10=>?_
      refine ge_nil fun a hF=>hKK _ _ (RS.of2 (l:=[ld b1 2 (vI x0_2_0),ld b1 3 (vI x0_2_1),ld b1 4 (.slice A0_2_2 l0_2_2.length c0_2_2)]) (by kernel_rfl) ⟨hS9.c 1,hS9.c 1,hS9.c 1,trivial⟩ ⟨hS10.c 2,hS10.c 2,hS10.c 2,trivial⟩) ?_ a hF
      refine go_alt3 (fun KK hKK=>?_) ?_
      ·refine ge_one2 ?_
       rcases hq2:punctualref_exprPiece.f K x0_2_0 x0_2_1 l0_2_2 with _ | r1
       ·rw [hq2] at h; cases h
       rw [hq2] at h
       simp only [] at h
       refine ge_call (d:=some 21) (f:=116) (args:=#[.agg #[vI x0_2_0,vI x0_2_1,.slice A0_2_2 l0_2_2.length c0_2_2]]) (by kernel_rfl) (punctualref_exprPiece_ok K Z x0_2_0 x0_2_1 l0_2_2 A0_2_2 c0_2_2 _ (fun w' k=>(hZ w' (hS10.subw.trans k))) hR0_2_2 hL0_2_2 _ hq2) ?_
       rintro _ w7 ⟨v1,rfl,hS11⟩
       refine ⟨_,rfl,hS11.below,?_⟩
       have hS12:=hS10.call hS11
       refine ge_nil fun a hF=>hKK _ _ (RS.of2 (l:=[ld b1 0 (vI x0_0),ld b1 1 (vI x0_1)]) (by kernel_rfl) ⟨hS10.c 2,hS10.c 2,trivial⟩ ⟨hS12.c 3,hS12.c 3,trivial⟩) ?_ a hF
       have hS16:=(((hS12.b 3).b 1).b 3).b 3
       exact go3_keep [(21,v1),(30,.slice (some ⟨b3,0,none⟩) 1 1)] ea (hJ1_4 (r1,v1,b2,b3) _ _ ⟨rfl,hq2,hS16⟩)
      exact go_nomore3
     exact go_nomore3
    exact go_nomore3
   refine g30 [0] [(19,pP b1 2)]<|g3 1 [(20,.agg #[vI x0_2_0,vI x0_2_1,.slice A0_2_2 l0_2_2.length c0_2_2])] [ld b1 2 (vI x0_2_0),ld b1 3 (vI x0_2_1),ld b1 4 (.slice A0_2_2 l0_2_2.length c0_2_2)] ⟨hS3.c 0,hS3.c 0,hS3.c 0,trivial⟩<|g30 [7] [(24,pP b1 0)]<|g3 8 [(25,vI x0_0)] [ld b1 0 (vI x0_0)] ⟨hS3.c 0,trivial⟩<|g30 [10] [(27,pP b1 1)]<|g3 11 [(28,vI x0_1)] [ld b1 1 (vI x0_1)] ⟨hS3.c 0,trivial⟩<|go_alt3 (fun KK hKK=>?_) ?_
   ·refine ge_one2 ?_
    rcases hq2:punctualref_exprPiece.f K x0_2_0 x0_2_1 l0_2_2 with _ | r1
    ·rw [hq2] at h; cases h
    rw [hq2] at h
    simp only [] at h
    refine ge_call (d:=some 21) (f:=116) (args:=#[.agg #[vI x0_2_0,vI x0_2_1,.slice A0_2_2 l0_2_2.length c0_2_2]]) (by kernel_rfl) (punctualref_exprPiece_ok K Z x0_2_0 x0_2_1 l0_2_2 A0_2_2 c0_2_2 _ (fun w' k=>(hZ w' (hS3.subw.trans k))) hR0_2_2 hL0_2_2 _ hq2) ?_
    rintro _ w3 ⟨v1,rfl,hS4⟩
    refine ⟨_,rfl,hS4.below,?_⟩
    have hS5:=hS3.call hS4
    refine ge_nil fun a hF=>hKK _ _ (RS.of2 (l:=[ld b1 0 (vI x0_0),ld b1 1 (vI x0_1)]) (by kernel_rfl) ⟨hS3.c 0,hS3.c 0,trivial⟩ ⟨hS5.c 1,hS5.c 1,trivial⟩) ?_ a hF
    refine go_alt3 (fun KK hKK=>?_) ?_
    ·refine ge_one2<|gw (some 22) (.map #[] 0) (fun b=>.map (some b)) hS5 fun b2 w4 hx2 hS6=>?_
     have hS7:=hS6.newMap (κ:=Int) (ν:=Int)
     refine ge_nil fun a hF=>hKK _ _ (RS.of2 (l:=[ld b1 2 (vI x0_2_0),ld b1 3 (vI x0_2_1),ld b1 4 (.slice A0_2_2 l0_2_2.length c0_2_2),ld b1 0 (vI x0_0),ld b1 1 (vI x0_1)]) (by kernel_rfl) ⟨hS5.c 1,hS5.c 1,hS5.c 1,hS5.c 1,hS5.c 1,trivial⟩ ⟨hS7.c 2,hS7.c 2,hS7.c 2,hS7.c 2,hS7.c 2,trivial⟩) ?_ a hF
     have hS21:=((hS7.b 2).b 2).b 2
     exact go3_keep [(21,v1),(22,.map (some b2)),(25,vI x0_0),(28,vI x0_1)] ea (hJ1_0 (r1,v1,b2) _ _ ⟨rfl,hq2,hS21⟩)
    exact go_nomore3
   refine go_alt3 (fun KK hKK=>?_) ?_
   ·refine ge_one2<|gw (some 22) (.map #[] 0) (fun b=>.map (some b)) hS3 fun b2 w3 hx2 hS4=>?_
    have hS5:=hS4.newMap (κ:=Int) (ν:=Int)
    refine ge_nil fun a hF=>hKK _ _ (RS.of2 (l:=[ld b1 2 (vI x0_2_0),ld b1 3 (vI x0_2_1),ld b1 4 (.slice A0_2_2 l0_2_2.length c0_2_2),ld b1 0 (vI x0_0),ld b1 1 (vI x0_1)]) (by kernel_rfl) ⟨hS3.c 0,hS3.c 0,hS3.c 0,hS3.c 0,hS3.c 0,trivial⟩ ⟨hS5.c 1,hS5.c 1,hS5.c 1,hS5.c 1,hS5.c 1,trivial⟩) ?_ a hF
    refine go_alt3 (fun KK hKK=>?_) ?_
    ·refine ge_one2 ?_
     rcases hq2:punctualref_exprPiece.f K x0_2_0 x0_2_1 l0_2_2 with _ | r1
     ·rw [hq2] at h; cases h
     rw [hq2] at h
     simp only [] at h
     refine ge_call (d:=some 21) (f:=116) (args:=#[.agg #[vI x0_2_0,vI x0_2_1,.slice A0_2_2 l0_2_2.length c0_2_2]]) (by kernel_rfl) (punctualref_exprPiece_ok K Z x0_2_0 x0_2_1 l0_2_2 A0_2_2 c0_2_2 _ (fun w' k=>(hZ w' (hS5.subw.trans k))) hR0_2_2 hL0_2_2 _ hq2) ?_
     rintro _ w4 ⟨v1,rfl,hS6⟩
     refine ⟨_,rfl,hS6.below,?_⟩
     have hS7:=hS5.call hS6
     refine ge_nil fun a hF=>hKK _ _ (RS.of2 (l:=[ld b1 0 (vI x0_0),ld b1 1 (vI x0_1)]) (by kernel_rfl) ⟨hS5.c 1,hS5.c 1,trivial⟩ ⟨hS7.c 2,hS7.c 2,trivial⟩) ?_ a hF
     have hS10:=((hS7.b 2).b 1).b 2
     exact go3_keep [(21,v1),(22,.map (some b2)),(25,vI x0_0),(28,vI x0_1)] ea (hJ1_0 (r1,v1,b2) _ _ ⟨rfl,hq2,hS10⟩)
    refine go_alt3 (fun KK hKK=>?_) ?_
    ·refine ge_mapSet (κ:=Int) (ν:=Int) (b:=b2) (ins:=true) (mm:=0) (t:=113) (kt:=3) (et:=3) (x:=(.tmp 22)) (y:=(.const (vI 1))) (u:=(.const (vI 3))) (ty:=0) (m:=([]:List (Int×Int))) (k:=1) (v:=3) (vv:=vI 3) (by kernel_rfl) (by kernel_rfl) (by kernel_rfl) (by kernel_rfl) rfl (by kernel_rfl) (by kernel_rfl) hS5 fun w4 hS6=>?_
     refine ge_nil fun a hF=>hKK _ _ (RS.of2 (l:=[ld b1 2 (vI x0_2_0),ld b1 3 (vI x0_2_1),ld b1 4 (.slice A0_2_2 l0_2_2.length c0_2_2),ld b1 0 (vI x0_0),ld b1 1 (vI x0_1)]) (by kernel_rfl) ⟨hS5.c 1,hS5.c 1,hS5.c 1,hS5.c 1,hS5.c 1,trivial⟩ ⟨hS6.c 1,hS6.c 1,hS6.c 1,hS6.c 1,hS6.c 1,trivial⟩) ?_ a hF
     refine go_alt3 (fun KK hKK=>?_) ?_
     ·refine ge_one2 ?_
      rcases hq2:punctualref_exprPiece.f K x0_2_0 x0_2_1 l0_2_2 with _ | r1
      ·rw [hq2] at h; cases h
      rw [hq2] at h
      simp only [] at h
      refine ge_call (d:=some 21) (f:=116) (args:=#[.agg #[vI x0_2_0,vI x0_2_1,.slice A0_2_2 l0_2_2.length c0_2_2]]) (by kernel_rfl) (punctualref_exprPiece_ok K Z x0_2_0 x0_2_1 l0_2_2 A0_2_2 c0_2_2 _ (fun w' k=>(hZ w' (hS6.subw.trans k))) hR0_2_2 hL0_2_2 _ hq2) ?_
      rintro _ w5 ⟨v1,rfl,hS7⟩
      refine ⟨_,rfl,hS7.below,?_⟩
      have hS8:=hS6.call hS7
      refine ge_nil fun a hF=>hKK _ _ (RS.of2 (l:=[ld b1 0 (vI x0_0),ld b1 1 (vI x0_1)]) (by kernel_rfl) ⟨hS6.c 1,hS6.c 1,trivial⟩ ⟨hS8.c 2,hS8.c 2,trivial⟩) ?_ a hF
      have hS11:=((hS8.b 2).b 1).b 2
      exact go3_keep [(21,v1),(22,.map (some b2)),(25,vI x0_0),(28,vI x0_1)] ea (hJ1_1 (r1,v1,b2) _ _ ⟨rfl,hq2,hS11⟩)
     refine go_alt3 (fun KK hKK=>?_) ?_
     ·refine ge_mapSet (κ:=Int) (ν:=Int) (b:=b2) (ins:=true) (mm:=0) (t:=113) (kt:=3) (et:=3) (x:=(.tmp 22)) (y:=(.const (vI 2))) (u:=(.const (vI 10))) (ty:=0) (m:=(mset ([]:List (Int×Int)) 1 3)) (k:=2) (v:=10) (vv:=vI 10) (by kernel_rfl) (by kernel_rfl) (by kernel_rfl) (by kernel_rfl) rfl (by kernel_rfl) (by kernel_rfl) hS6 fun w5 hS7=>?_
      have hS8:=hS7.toE (m:=(mset (mset ([]:List (Int×Int)) 1 3) 2 10)) (fun k=>by simp only [mget_mset]; (repeat' split); all_goals first | rfl | omega)
      refine ge_nil fun a hF=>hKK _ _ (RS.of2 (l:=[ld b1 2 (vI x0_2_0),ld b1 3 (vI x0_2_1),ld b1 4 (.slice A0_2_2 l0_2_2.length c0_2_2),ld b1 0 (vI x0_0),ld b1 1 (vI x0_1)]) (by kernel_rfl) ⟨hS6.c 1,hS6.c 1,hS6.c 1,hS6.c 1,hS6.c 1,trivial⟩ ⟨hS8.c 1,hS8.c 1,hS8.c 1,hS8.c 1,hS8.c 1,trivial⟩) ?_ a hF
      refine g30 [6] [(23,.map (some b2))] ?_
      have hS18:=(hS8.b 1).b 1
      exact go3_keep [(20,.agg #[vI x0_2_0,vI x0_2_1,.slice A0_2_2 l0_2_2.length c0_2_2]),(23,.map (some b2)),(25,vI x0_0),(28,vI x0_1)] ea (hJ1_6 b2 _ _ ⟨rfl,hS18⟩)
     exact go_nomore3
    refine go_alt3 (fun KK hKK=>?_) ?_
    ·refine ge_mapSet (κ:=Int) (ν:=Int) (b:=b2) (ins:=true) (mm:=0) (t:=113) (kt:=3) (et:=3) (x:=(.tmp 22)) (y:=(.const (vI 2))) (u:=(.const (vI 10))) (ty:=0) (m:=([]:List (Int×Int))) (k:=2) (v:=10) (vv:=vI 10) (by kernel_rfl) (by kernel_rfl) (by kernel_rfl) (by kernel_rfl) rfl (by kernel_rfl) (by kernel_rfl) hS5 fun w4 hS6=>?_
     refine ge_nil fun a hF=>hKK _ _ (RS.of2 (l:=[ld b1 2 (vI x0_2_0),ld b1 3 (vI x0_2_1),ld b1 4 (.slice A0_2_2 l0_2_2.length c0_2_2),ld b1 0 (vI x0_0),ld b1 1 (vI x0_1)]) (by kernel_rfl) ⟨hS5.c 1,hS5.c 1,hS5.c 1,hS5.c 1,hS5.c 1,trivial⟩ ⟨hS6.c 1,hS6.c 1,hS6.c 1,hS6.c 1,hS6.c 1,trivial⟩) ?_ a hF
     refine go_alt3 (fun KK hKK=>?_) ?_
     ·refine ge_one2 ?_
      rcases hq2:punctualref_exprPiece.f K x0_2_0 x0_2_1 l0_2_2 with _ | r1
      ·rw [hq2] at h; cases h
      rw [hq2] at h
      simp only [] at h
      refine ge_call (d:=some 21) (f:=116) (args:=#[.agg #[vI x0_2_0,vI x0_2_1,.slice A0_2_2 l0_2_2.length c0_2_2]]) (by kernel_rfl) (punctualref_exprPiece_ok K Z x0_2_0 x0_2_1 l0_2_2 A0_2_2 c0_2_2 _ (fun w' k=>(hZ w' (hS6.subw.trans k))) hR0_2_2 hL0_2_2 _ hq2) ?_
      rintro _ w5 ⟨v1,rfl,hS7⟩
      refine ⟨_,rfl,hS7.below,?_⟩
      have hS8:=hS6.call hS7
      refine ge_nil fun a hF=>hKK _ _ (RS.of2 (l:=[ld b1 0 (vI x0_0),ld b1 1 (vI x0_1)]) (by kernel_rfl) ⟨hS6.c 1,hS6.c 1,trivial⟩ ⟨hS8.c 2,hS8.c 2,trivial⟩) ?_ a hF
      have hS11:=((hS8.b 2).b 1).b 2
      exact go3_keep [(21,v1),(22,.map (some b2)),(25,vI x0_0),(28,vI x0_1)] ea (hJ1_5 (r1,v1,b2) _ _ ⟨rfl,hq2,hS11⟩)
     refine go_alt3 (fun KK hKK=>?_) ?_
     ·refine ge_mapSet (κ:=Int) (ν:=Int) (b:=b2) (ins:=true) (mm:=0) (t:=113) (kt:=3) (et:=3) (x:=(.tmp 22)) (y:=(.const (vI 1))) (u:=(.const (vI 3))) (ty:=0) (m:=(mset ([]:List (Int×Int)) 2 10)) (k:=1) (v:=3) (vv:=vI 3) (by kernel_rfl) (by kernel_rfl) (by kernel_rfl) (by kernel_rfl) rfl (by kernel_rfl) (by kernel_rfl) hS6 fun w5 hS7=>?_
      have hS8:=hS7.toE (m:=(mset (mset ([]:List (Int×Int)) 1 3) 2 10)) (fun k=>by simp only [mget_mset]; (repeat' split); all_goals first | rfl | omega)
      refine ge_nil fun a hF=>hKK _ _ (RS.of2 (l:=[ld b1 2 (vI x0_2_0),ld b1 3 (vI x0_2_1),ld b1 4 (.slice A0_2_2 l0_2_2.length c0_2_2),ld b1 0 (vI x0_0),ld b1 1 (vI x0_1)]) (by kernel_rfl) ⟨hS6.c 1,hS6.c 1,hS6.c 1,hS6.c 1,hS6.c 1,trivial⟩ ⟨hS8.c 1,hS8.c 1,hS8.c 1,hS8.c 1,hS8.c 1,trivial⟩) ?_ a hF
      refine g30 [6] [(23,.map (some b2))] ?_
      have hS10:=(hS8.b 1).b 1
      exact go3_keep [(20,.agg #[vI x0_2_0,vI x0_2_1,.slice A0_2_2 l0_2_2.length c0_2_2]),(23,.map (some b2)),(25,vI x0_0),(28,vI x0_1)] ea (hJ1_6 b2 _ _ ⟨rfl,hS10⟩)
     exact go_nomore3
    exact go_nomore3
   exact go_nomore3
  rw [if_neg hc2] at h
  refine wk 16 q2 false (Bool.eq_false_iff.2 hc2)<|wf<|ws fun K7 hK7=>wr [(0,0),(1,0)]<|gb0 [0,1] [(32,.bool (x0_0==3)),(33,.bool (x0_0==3))]<|gn hK7 ?_
  by_cases hc3:x0_0=3
  ·rw [if_pos hc3] at h
   refine wk 32 (x0_0==3) true (beq_iff_eq.2 hc3)<|wt<|ws fun K8 hK8=>we_draws (by kernel_rfl) [(0,0),(1,0),(3,0),(4,0),(5,0),(7,0),(8,0),(9,0),(2,1),(6,1),(10,1),(11,0),(12,0),(13,0)] (by kernel_rfl) ?_
   have hS11:=hS2.drew
   rcases hq2:punctualref_condPiece.f K x0_3_0 x0_3_1_0 x0_3_1_1 l0_3_1_2 x0_3_2_0 x0_3_2_1 l0_3_2_2 with _ | r1
   ·rw [hq2] at h; cases h
   rw [hq2] at h
   simp only [] at h
   refine gb [0,1,3,4,5,7,8,9] [(43,vI x1),(42,.slice A0_5 l0_5.length c0_5),(41,pP b1 13),(39,vI x1),(38,.slice A0_4 l0_4.length c0_4),(37,pP b1 12),(35,.agg #[vI x0_3_0,vI x0_3_1_0,vI x0_3_1_1,.slice A0_3_1_2 l0_3_1_2.length c0_3_1_2,vI x0_3_2_0,vI x0_3_2_1,.slice A0_3_2_2 l0_3_2_2.length c0_3_2_2]),(34,pP b1 5)] [ld b1 5 (vI x0_3_0),ld b1 6 (vI x0_3_1_0),ld b1 7 (vI x0_3_1_1),ld b1 8 (.slice A0_3_1_2 l0_3_1_2.length c0_3_1_2),ld b1 9 (vI x0_3_2_0),ld b1 10 (vI x0_3_2_1),ld b1 11 (.slice A0_3_2_2 l0_3_2_2.length c0_3_2_2),ld b1 12 (.slice A0_4 l0_4.length c0_4),ld b1 13 (.slice A0_5 l0_5.length c0_5)] ⟨hS11.c 0,hS11.c 0,hS11.c 0,hS11.c 0,hS11.c 0,hS11.c 0,hS11.c 0,hS11.c 0,hS11.c 0,trivial⟩<|ge_call (d:=some 36) (f:=117) (args:=#[.agg #[vI x0_3_0,vI x0_3_1_0,vI x0_3_1_1,.slice A0_3_1_2 l0_3_1_2.length c0_3_1_2,vI x0_3_2_0,vI x0_3_2_1,.slice A0_3_2_2 l0_3_2_2.length c0_3_2_2]]) (by kernel_rfl) (punctualref_condPiece_ok K Z x0_3_0 x0_3_1_0 x0_3_1_1 l0_3_1_2 A0_3_1_2 c0_3_1_2 x0_3_2_0 x0_3_2_1 l0_3_2_2 A0_3_2_2 c0_3_2_2 _ (fun w' k=>(hZ w' (hS11.subw.trans k))) hR0_3_1_2 hL0_3_1_2 hR0_3_2_2 hL0_3_2_2 _ hq2) ?_
   rintro _ w6 ⟨v1,rfl,hS12⟩
   refine ⟨_,rfl,hS12.below,?_⟩
   have hS13:=hS11.call hS12
   rcases hq3:rec_punctualref_pieces l0_4 x1 with _ | r2
   ·rw [hq3] at h; cases h
   rw [hq3] at h
   simp only [] at h
   refine ge_call (d:=some 40) (f:=66) (args:=#[.slice A0_4 l0_4.length c0_4,vI x1]) (by kernel_rfl) (hr_punctualref_pieces Z l0_4 A0_4 c0_4 x1 _ (fun w' k=>(hZ w' (hS13.subw.trans k))) hR0_4 hL0_4 _ hq3) ?_
   rintro _ w7 ⟨v2,rfl,hS14⟩
   refine ⟨_,rfl,hS14.below,?_⟩
   have hS15:=hS13.call hS14
   rcases hq4:rec_punctualref_pieces l0_5 x1 with _ | r3
   ·rw [hq4] at h; cases h
   rw [hq4] at h
   simp only [] at h
   refine ge_call (d:=some 44) (f:=66) (args:=#[.slice A0_5 l0_5.length c0_5,vI x1]) (by kernel_rfl) (hr_punctualref_pieces Z l0_5 A0_5 c0_5 x1 _ (fun w' k=>(hZ w' (hS15.subw.trans k))) hR0_5 hL0_5 _ hq4) ?_
   rintro _ w8 ⟨v3,rfl,hS16⟩
   refine ⟨_,rfl,hS16.below,?_⟩
   have hS17:=hS15.call hS16
   refine gb0 [11,12,13] [(7,v3),(6,v2),(5,v1)]<|gn hK8<|ws fun K9 hK9=>ws fun K10 hK10=>wr [(0,0),(1,0),(2,0),(3,0)]<|gb [0,1,2,3] [(48,.bool ((l0_5.length:Int)==0)),(47,vI (l0_5.length:Int)),(46,.slice A0_5 l0_5.length c0_5),(45,pP b1 13)] [ld b1 13 (.slice A0_5 l0_5.length c0_5)] ⟨hS17.c 3,trivial⟩<|gn hK10 ?_
   by_cases hc4:(l0_5.length:Int)=0
   ·rw [if_pos hc4] at h
    refine wk 48 ((l0_5.length:Int)==0) true (beq_iff_eq.2 hc4)<|wt<|ws fun K11 hK11=>wr [(0,0),(1,0),(2,0),(3,0),(4,0),(5,0),(6,0),(7,0),(8,1),(9,2),(10,0),(11,1),(12,0)]<|gb0 [0,1] [(50,v1),(49,v1)] ?_
    obtain ⟨Z1,cz1,rfl⟩:=hS17.open 2 rfl
    refine gb0 [2,3,4] [(53,v2),(52,vI (IntKind.i64.wrap ((r1.length:Int)+1))),(51,vI (r1.length:Int))] ?_
    obtain ⟨Z2,cz2,rfl⟩:=hS17.open 1 rfl
    refine gb0 [5,6,7] [(56,.agg #[vI 12,vI (IntKind.i64.wrap ((IntKind.i64.wrap ((r1.length:Int)+1))+(r2.length:Int))),vI 0]),(55,vI (IntKind.i64.wrap ((IntKind.i64.wrap ((r1.length:Int)+1))+(r2.length:Int)))),(54,vI (r2.length:Int))]<|gw (some 57) (.cells #[vI 12,vI (IntKind.i64.wrap ((IntKind.i64.wrap ((r1.length:Int)+1))+(r2.length:Int))),vI 0] 29) (fun b=>.slice (some ⟨b,0,none⟩) 1 1) hS17 fun b3 w9 hx3 hS18=>?_
    have hS19:=hS18.b 3
    by_cases hc5:r1.length<5864062014805
    ·rw [if_pos hc5] at h
     refine ge_append (α:=SIns) (m:=0) (d:=58) (t:=68) (el:=29) (bytes:=24) (c1:=1) (b1:=b3) (x:=(.tmp 49)) (y:=(.tmp 57)) (ty:=68) (v:=(.slice Z1 r1.length cz1)) (z:=.agg #[vI 0,vI 0,vI 0]) (l:=r1) (u:=(⟨12,IntKind.i64.wrap ((IntKind.i64.wrap ((r1.length:Int)+1))+(r2.length:Int)),0⟩:SIns)) (by kernel_rfl) (by kernel_rfl) (by kernel_rfl) (by kernel_rfl) (by kernel_rfl) rfl hS19 rfl (by omega) fun v4 w10 hS20=>?_
     refine gb0 [10] [(59,(.slice Z2 r2.length cz2))] ?_
     obtain ⟨Z3,cz3,rfl⟩:=hS20.open 0 rfl
     rcases hq5:punctualref_join.f K (r1++[(⟨12,IntKind.i64.wrap ((IntKind.i64.wrap ((r1.length:Int)+1))+(r2.length:Int)),0⟩:SIns)]) r2 with _ | r4
     ·rw [hq5] at h; cases h
     rw [hq5] at h
     simp only [] at h
     refine ge_call (d:=some 60) (f:=89) (args:=#[(.slice Z3 (r1++[(⟨12,IntKind.i64.wrap ((IntKind.i64.wrap ((r1.length:Int)+1))+(r2.length:Int)),0⟩:SIns)]).length cz3),(.slice Z2 r2.length cz2)]) (by kernel_rfl) (punctualref_join_ok K (r1++[(⟨12,IntKind.i64.wrap ((IntKind.i64.wrap ((r1.length:Int)+1))+(r2.length:Int)),0⟩:SIns)]) Z3 cz3 r2 Z2 cz2 _ (hS20.rdAt 0 rfl) (hS20.capAt 0 rfl) (hS20.rdAt 2 rfl) (hS20.capAt 2 rfl) _ hq5) ?_
     rintro _ w11 ⟨v5,rfl,hS21⟩
     refine ⟨_,rfl,hS21.below,?_⟩
     have hS22:=hS20.call hS21
     refine gb0 [12] [(4,v5)]<|gn hK11 ?_
     have hS23:=hS22.takeN 1
     obtain rfl:=si h
     exact we_ret (pr0 [.tmp 4] [v5] ⟨v5,rfl,hS23⟩)
    rw [if_neg hc5] at h
    cases h
   rw [if_neg hc4] at h
   refine wk 48 ((l0_5.length:Int)==0) false (beq_eq_false_iff_ne.2 hc4)<|wf<|we_skip fun a hF=>hK9 _ _ ?_ a hF
   refine ws fun K12 hK12=>wr [(0,0),(1,0),(2,0),(3,0),(4,0),(5,0),(6,0),(7,0),(8,0),(9,1),(10,2),(11,0)]<|gb0 [0,1] [(62,v1),(61,v1)] ?_
   obtain ⟨Z4,cz4,rfl⟩:=hS17.open 2 rfl
   refine gb0 [2,3,4] [(65,v2),(64,vI (IntKind.i64.wrap ((r1.length:Int)+1))),(63,vI (r1.length:Int))] ?_
   obtain ⟨Z5,cz5,rfl⟩:=hS17.open 1 rfl
   refine gb0 [5,6,7,8] [(69,.agg #[vI 12,vI (IntKind.i64.wrap ((IntKind.i64.wrap ((IntKind.i64.wrap ((r1.length:Int)+1))+(r2.length:Int)))+1)),vI 0]),(68,vI (IntKind.i64.wrap ((IntKind.i64.wrap ((IntKind.i64.wrap ((r1.length:Int)+1))+(r2.length:Int)))+1))),(67,vI (IntKind.i64.wrap ((IntKind.i64.wrap ((r1.length:Int)+1))+(r2.length:Int)))),(66,vI (r2.length:Int))]<|gw (some 70) (.cells #[vI 12,vI (IntKind.i64.wrap ((IntKind.i64.wrap ((IntKind.i64.wrap ((r1.length:Int)+1))+(r2.length:Int)))+1)),vI 0] 29) (fun b=>.slice (some ⟨b,0,none⟩) 1 1) hS17 fun b4 w12 hx4 hS24=>?_
   have hS25:=hS24.b 3
   by_cases hc6:r1.length<5864062014805
   ·rw [if_pos hc6] at h
    refine ge_append (α:=SIns) (m:=0) (d:=71) (t:=68) (el:=29) (bytes:=24) (c1:=1) (b1:=b4) (x:=(.tmp 61)) (y:=(.tmp 70)) (ty:=68) (v:=(.slice Z4 r1.length cz4)) (z:=.agg #[vI 0,vI 0,vI 0]) (l:=r1) (u:=(⟨12,IntKind.i64.wrap ((IntKind.i64.wrap ((IntKind.i64.wrap ((r1.length:Int)+1))+(r2.length:Int)))+1),0⟩:SIns)) (by kernel_rfl) (by kernel_rfl) (by kernel_rfl) (by kernel_rfl) (by kernel_rfl) rfl hS25 rfl (by omega) fun v6 w13 hS26=>?_
    refine gb0 [11] [(8,v6)]<|gn hK12<|ws fun K13 hK13=>wr [(0,0),(1,0),(2,1),(3,0)]<|gb0 [0,1] [(73,(.slice Z5 r2.length cz5)),(72,v6)] ?_
    obtain ⟨Z6,cz6,rfl⟩:=hS26.open 0 rfl
    rcases hq6:punctualref_join.f K (r1++[(⟨12,IntKind.i64.wrap ((IntKind.i64.wrap ((IntKind.i64.wrap ((r1.length:Int)+1))+(r2.length:Int)))+1),0⟩:SIns)]) r2 with _ | r5
    ·rw [hq6] at h; cases h
    rw [hq6] at h
    simp only [] at h
    refine ge_call (d:=some 74) (f:=89) (args:=#[(.slice Z6 (r1++[(⟨12,IntKind.i64.wrap ((IntKind.i64.wrap ((IntKind.i64.wrap ((r1.length:Int)+1))+(r2.length:Int)))+1),0⟩:SIns)]).length cz6),(.slice Z5 r2.length cz5)]) (by kernel_rfl) (punctualref_join_ok K (r1++[(⟨12,IntKind.i64.wrap ((IntKind.i64.wrap ((IntKind.i64.wrap ((r1.length:Int)+1))+(r2.length:Int)))+1),0⟩:SIns)]) Z6 cz6 r2 Z5 cz5 _ (hS26.rdAt 0 rfl) (hS26.capAt 0 rfl) (hS26.rdAt 2 rfl) (hS26.capAt 2 rfl) _ hq6) ?_
    rintro _ w14 ⟨v7,rfl,hS27⟩
    refine ⟨_,rfl,hS27.below,?_⟩
    have hS28:=hS26.call hS27
    refine gb0 [3] [(9,v7)]<|gn hK13<|ws fun K14 hK14=>wr [(0,0),(1,0),(2,0),(3,0),(4,0),(5,0),(6,0),(7,0),(8,1),(9,2),(10,0)]<|gb0 [0,1] [(76,v7),(75,v7)] ?_
    obtain ⟨Z7,cz7,rfl⟩:=hS28.open 0 rfl
    refine gb0 [2,3,4] [(79,v3),(78,vI (IntKind.i64.wrap ((r5.length:Int)+1))),(77,vI (r5.length:Int))] ?_
    obtain ⟨Z8,cz8,rfl⟩:=hS28.open 2 rfl
    refine gb0 [5,6,7] [(82,.agg #[vI 11,vI (IntKind.i64.wrap ((IntKind.i64.wrap ((r5.length:Int)+1))+(r3.length:Int))),vI 0]),(81,vI (IntKind.i64.wrap ((IntKind.i64.wrap ((r5.length:Int)+1))+(r3.length:Int)))),(80,vI (r3.length:Int))]<|gw (some 83) (.cells #[vI 11,vI (IntKind.i64.wrap ((IntKind.i64.wrap ((r5.length:Int)+1))+(r3.length:Int))),vI 0] 29) (fun b=>.slice (some ⟨b,0,none⟩) 1 1) hS28 fun b5 w15 hx5 hS29=>?_
    have hS30:=hS29.b 1
    by_cases hc7:r5.length<5864062014805
    ·rw [if_pos hc7] at h
     refine ge_append (α:=SIns) (m:=0) (d:=84) (t:=68) (el:=29) (bytes:=24) (c1:=1) (b1:=b5) (x:=(.tmp 75)) (y:=(.tmp 83)) (ty:=68) (v:=(.slice Z7 r5.length cz7)) (z:=.agg #[vI 0,vI 0,vI 0]) (l:=r5) (u:=(⟨11,IntKind.i64.wrap ((IntKind.i64.wrap ((r5.length:Int)+1))+(r3.length:Int)),0⟩:SIns)) (by kernel_rfl) (by kernel_rfl) (by kernel_rfl) (by kernel_rfl) (by kernel_rfl) rfl hS30 rfl (by omega) fun v8 w16 hS31=>?_
     refine gb0 [10] [(9,v8)]<|gn hK14<|ws fun K15 hK15=>wr [(0,0),(1,0),(2,1),(3,0)]<|gb0 [0,1] [(86,(.slice Z8 r3.length cz8)),(85,v8)] ?_
     obtain ⟨Z9,cz9,rfl⟩:=hS31.open 0 rfl
     rcases hq7:punctualref_join.f K (r5++[(⟨11,IntKind.i64.wrap ((IntKind.i64.wrap ((r5.length:Int)+1))+(r3.length:Int)),0⟩:SIns)]) r3 with _ | r6
     ·rw [hq7] at h; cases h
     rw [hq7] at h
     simp only [] at h
     refine ge_call (d:=some 87) (f:=89) (args:=#[(.slice Z9 (r5++[(⟨11,IntKind.i64.wrap ((IntKind.i64.wrap ((r5.length:Int)+1))+(r3.length:Int)),0⟩:SIns)]).length cz9),(.slice Z8 r3.length cz8)]) (by kernel_rfl) (punctualref_join_ok K (r5++[(⟨11,IntKind.i64.wrap ((IntKind.i64.wrap ((r5.length:Int)+1))+(r3.length:Int)),0⟩:SIns)]) Z9 cz9 r3 Z8 cz8 _ (hS31.rdAt 0 rfl) (hS31.capAt 0 rfl) (hS31.rdAt 2 rfl) (hS31.capAt 2 rfl) _ hq7) ?_
     rintro _ w17 ⟨v9,rfl,hS32⟩
     refine ⟨_,rfl,hS32.below,?_⟩
     have hS33:=hS31.call hS32
     refine gb0 [3] [(4,v9)]<|gn hK15 ?_
     have hS34:=hS33.takeN 1
     obtain rfl:=si h
     exact we_ret (pr0 [.tmp 4] [v9] ⟨v9,rfl,hS34⟩)
    rw [if_neg hc7] at h
    cases h
   rw [if_neg hc6] at h
   cases h
  rw [if_neg hc3] at h
  refine wk 32 (x0_0==3) false (beq_eq_false_iff_ne.2 hc3)<|wf<|ws fun K16 hK16=>?_
  rcases hq8:punctualref_piece.p1 x0_0 with _ | (q4 | rr1)
  ·rw [hq8] at h; cases h
  ·rw [hq8] at h
   simp only [] at h
   refine kp (punctualref_piece_p1 K w0 Z x0_0 x0_1 x0_2_0 x0_2_1 l0_2_2 A0_2_2 c0_2_2 x0_3_0 x0_3_1_0 x0_3_1_1 l0_3_1_2 A0_3_1_2 c0_3_1_2 x0_3_2_0 x0_3_2_1 l0_3_2_2 A0_3_2_2 c0_3_2_2 l0_4 A0_4 c0_4 l0_5 A0_5 c0_5 x1 hZ hR0_2_2 hL0_2_2 hR0_3_1_2 hL0_3_1_2 hR0_3_2_2 hL0_3_2_2 hR0_4 hL0_4 hR0_5 hL0_5 rec_punctualref_pieces hr_punctualref_pieces b1 q2 hc2 hc3 _ hq8 _ hS2 _ ?_)
   rintro _ a w18 ⟨rfl,hS35,hF⟩
   replace hS35:St w0 w18 [bk b1 #[vI x0_0,vI x0_1,vI x0_2_0,vI x0_2_1,.slice A0_2_2 l0_2_2.length c0_2_2,vI x0_3_0,vI x0_3_1_0,vI x0_3_1_1,.slice A0_3_1_2 l0_3_1_2.length c0_3_1_2,vI x0_3_2_0,vI x0_3_2_1,.slice A0_3_2_2 l0_3_2_2.length c0_3_2_2,.slice A0_4 l0_4.length c0_4,.slice A0_5 l0_5.length c0_5] 49]:=hS35
   refine hK16 [(1,vI x1),(2,pP b1 0),(15,vI x0_0),(88,.bool q4)] w18 ?_ a hF
   by_cases hc9:q4=true
   ·rw [if_pos hc9] at h
    refine wk 88 q4 true hc9<|wt<|ws fun K18 hK18=>ws fun K19 hK19=>wr [(0,0),(1,0),(2,0)]<|gb [0,1,2] [(93,.bool (x0_1==0)),(92,vI x0_1),(91,pP b1 1)] [ld b1 1 (vI x0_1)] ⟨hS35.c 0,trivial⟩<|gn hK19 ?_
    by_cases hc10:x0_1=0
    ·rw [if_pos hc10] at h
     refine wk 93 (x0_1==0) true (beq_iff_eq.2 hc10)<|wt<|ws fun K20 hK20=>wr [(0,0)]<|gb0 [0] [(4,.slice none 0 0)]<|gn hK20 ?_
     have hS37:=(hS35.nil (α:=SIns) 29).takeN 1
     obtain rfl:=si h
     exact we_ret (pr0 [.tmp 4] [(.slice none 0 0)] ⟨(.slice none 0 0),rfl,hS37⟩)
    rw [if_neg hc10] at h
    refine wk 93 (x0_1==0) false (beq_eq_false_iff_ne.2 hc10)<|wf<|we_skip fun a hF=>hK18 _ _ ?_ a hF
    refine ws fun K21 hK21=>wr [(0,0),(1,0),(2,0),(3,0),(4,1),(5,0)] ?_
    rcases hq9:rec_punctualref_pieces l0_4 (IntKind.i64.wrap (x1+1)) with _ | r7
    ·rw [hq9] at h; cases h
    rw [hq9] at h
    simp only [] at h
    refine gb [0,1,2,3] [(97,vI (IntKind.i64.wrap (x1+1))),(96,vI x1),(95,.slice A0_4 l0_4.length c0_4),(94,pP b1 12)] [ld b1 12 (.slice A0_4 l0_4.length c0_4)] ⟨hS35.c 0,trivial⟩<|ge_call (d:=some 98) (f:=66) (args:=#[.slice A0_4 l0_4.length c0_4,vI (IntKind.i64.wrap (x1+1))]) (by kernel_rfl) (hr_punctualref_pieces Z l0_4 A0_4 c0_4 (IntKind.i64.wrap (x1+1)) _ (fun w' k=>(hZ w' (hS35.subw.trans k))) hR0_4 hL0_4 _ hq9) ?_
    rintro _ w19 ⟨v10,rfl,hS38⟩
    refine ⟨_,rfl,hS38.below,?_⟩
    have hS39:=hS35.call hS38
    refine gb0 [5] [(10,v10)]<|gn hK21<|ws fun K22 hK22=>ws fun K23 hK23=>wr [(0,0),(1,0),(2,0)]<|gb [0,1,2] [(101,.bool (x0_0==5)),(100,vI x0_0),(99,pP b1 0)] [ld b1 0 (vI x0_0)] ⟨hS39.c 1,trivial⟩<|gn hK23 ?_
    by_cases hc11:x0_0=5
    ·rw [if_pos hc11] at h
     refine wk 101 (x0_0==5) true (beq_iff_eq.2 hc11)<|wt<|ws fun K24 hK24=>wr [(0,0),(1,0),(2,1),(3,0)] ?_
     rcases hq10:punctualref_condPiece.f K x0_3_0 x0_3_1_0 x0_3_1_1 l0_3_1_2 x0_3_2_0 x0_3_2_1 l0_3_2_2 with _ | r8
     ·rw [hq10] at h; cases h
     rw [hq10] at h
     simp only [] at h
     refine gb [0,1] [(103,.agg #[vI x0_3_0,vI x0_3_1_0,vI x0_3_1_1,.slice A0_3_1_2 l0_3_1_2.length c0_3_1_2,vI x0_3_2_0,vI x0_3_2_1,.slice A0_3_2_2 l0_3_2_2.length c0_3_2_2]),(102,pP b1 5)] [ld b1 5 (vI x0_3_0),ld b1 6 (vI x0_3_1_0),ld b1 7 (vI x0_3_1_1),ld b1 8 (.slice A0_3_1_2 l0_3_1_2.length c0_3_1_2),ld b1 9 (vI x0_3_2_0),ld b1 10 (vI x0_3_2_1),ld b1 11 (.slice A0_3_2_2 l0_3_2_2.length c0_3_2_2)] ⟨hS39.c 1,hS39.c 1,hS39.c 1,hS39.c 1,hS39.c 1,hS39.c 1,hS39.c 1,trivial⟩<|ge_call (d:=some 104) (f:=117) (args:=#[.agg #[vI x0_3_0,vI x0_3_1_0,vI x0_3_1_1,.slice A0_3_1_2 l0_3_1_2.length c0_3_1_2,vI x0_3_2_0,vI x0_3_2_1,.slice A0_3_2_2 l0_3_2_2.length c0_3_2_2]]) (by kernel_rfl) (punctualref_condPiece_ok K Z x0_3_0 x0_3_1_0 x0_3_1_1 l0_3_1_2 A0_3_1_2 c0_3_1_2 x0_3_2_0 x0_3_2_1 l0_3_2_2 A0_3_2_2 c0_3_2_2 _ (fun w' k=>(hZ w' (hS39.subw.trans k))) hR0_3_1_2 hL0_3_1_2 hR0_3_2_2 hL0_3_2_2 _ hq10) ?_
     rintro _ w20 ⟨v11,rfl,hS40⟩
     refine ⟨_,rfl,hS40.below,?_⟩
     have hS41:=hS39.call hS40
     refine gb0 [3] [(11,v11)]<|gn hK24<|ws fun K25 hK25=>wr [(0,0),(1,0),(2,0),(3,0),(4,0),(5,0),(6,0),(7,0),(8,0),(9,1),(10,2),(11,0)]<|gb0 [0,1] [(106,v11),(105,v11)] ?_
     obtain ⟨Z10,cz10,rfl⟩:=hS41.open 0 rfl
     refine gb0 [2,3,4] [(109,v10),(108,vI (IntKind.i64.wrap ((r8.length:Int)+1))),(107,vI (r8.length:Int))] ?_
     obtain ⟨Z11,cz11,rfl⟩:=hS41.open 1 rfl
     refine gb0 [5,6,7,8] [(113,.agg #[vI 12,vI (IntKind.i64.wrap ((IntKind.i64.wrap ((IntKind.i64.wrap ((r8.length:Int)+1))+(r7.length:Int)))+1)),vI 0]),(112,vI (IntKind.i64.wrap ((IntKind.i64.wrap ((IntKind.i64.wrap ((r8.length:Int)+1))+(r7.length:Int)))+1))),(111,vI (IntKind.i64.wrap ((IntKind.i64.wrap ((r8.length:Int)+1))+(r7.length:Int)))),(110,vI (r7.length:Int))]<|gw (some 114) (.cells #[vI 12,vI (IntKind.i64.wrap ((IntKind.i64.wrap ((IntKind.i64.wrap ((r8.length:Int)+1))+(r7.length:Int)))+1)),vI 0] 29) (fun b=>.slice (some ⟨b,0,none⟩) 1 1) hS41 fun b6 w21 hx6 hS42=>?_
     have hS43:=hS42.b 1
     by_cases hc12:r8.length<5864062014805
     ·rw [if_pos hc12] at h
      refine ge_append (α:=SIns) (m:=0) (d:=115) (t:=68) (el:=29) (bytes:=24) (c1:=1) (b1:=b6) (x:=(.tmp 105)) (y:=(.tmp 114)) (ty:=68) (v:=(.slice Z10 r8.length cz10)) (z:=.agg #[vI 0,vI 0,vI 0]) (l:=r8) (u:=(⟨12,IntKind.i64.wrap ((IntKind.i64.wrap ((IntKind.i64.wrap ((r8.length:Int)+1))+(r7.length:Int)))+1),0⟩:SIns)) (by kernel_rfl) (by kernel_rfl) (by kernel_rfl) (by kernel_rfl) (by kernel_rfl) rfl hS43 rfl (by omega) fun v12 w22 hS44=>?_
      refine gb0 [11] [(12,v12)]<|gn hK25<|ws fun K26 hK26=>wr [(0,0),(1,0),(2,1),(3,0)]<|gb0 [0,1] [(117,(.slice Z11 r7.length cz11)),(116,v12)] ?_
      obtain ⟨Z12,cz12,rfl⟩:=hS44.open 0 rfl
      rcases hq11:punctualref_join.f K (r8++[(⟨12,IntKind.i64.wrap ((IntKind.i64.wrap ((IntKind.i64.wrap ((r8.length:Int)+1))+(r7.length:Int)))+1),0⟩:SIns)]) r7 with _ | r9
      ·rw [hq11] at h; cases h
      rw [hq11] at h
      simp only [] at h
      refine ge_call (d:=some 118) (f:=89) (args:=#[(.slice Z12 (r8++[(⟨12,IntKind.i64.wrap ((IntKind.i64.wrap ((IntKind.i64.wrap ((r8.length:Int)+1))+(r7.length:Int)))+1),0⟩:SIns)]).length cz12),(.slice Z11 r7.length cz11)]) (by kernel_rfl) (punctualref_join_ok K (r8++[(⟨12,IntKind.i64.wrap ((IntKind.i64.wrap ((IntKind.i64.wrap ((r8.length:Int)+1))+(r7.length:Int)))+1),0⟩:SIns)]) Z12 cz12 r7 Z11 cz11 _ (hS44.rdAt 0 rfl) (hS44.capAt 0 rfl) (hS44.rdAt 1 rfl) (hS44.capAt 1 rfl) _ hq11) ?_
      rintro _ w23 ⟨v13,rfl,hS45⟩
      refine ⟨_,rfl,hS45.below,?_⟩
      have hS46:=hS44.call hS45
      refine gb0 [3] [(10,v13)]<|gn hK26<|wr [(0,0),(1,0),(2,0),(3,0),(4,0),(5,0),(6,0),(7,1),(8,2),(9,0)]<|gb0 [0,1] [(120,v13),(119,v13)] ?_
      obtain ⟨Z13,cz13,rfl⟩:=hS46.open 0 rfl
      refine gb0 [2,3,4,5,6] [(125,.agg #[vI 15,vI x1,vI 0]),(124,vI x1),(123,.agg #[vI 11,vI (IntKind.i64.wrap ((r9.length:Int)+2)),vI 0]),(122,vI (IntKind.i64.wrap ((r9.length:Int)+2))),(121,vI (r9.length:Int))]<|gw (some 126) (.cells #[vI 11,vI (IntKind.i64.wrap ((r9.length:Int)+2)),vI 0,vI 15,vI x1,vI 0] 29) (fun b=>.slice (some ⟨b,0,none⟩) 2 2) hS46 fun b7 w24 hx7 hS47=>?_
      have hS48:=hS47.b 1
      by_cases hc13:r9.length+2≤5864062014805
      ·rw [if_pos hc13] at h
       refine ge_appendL (α:=SIns) (m:=0) (d:=127) (t:=68) (el:=29) (bytes:=24) (c1:=2) (A1:=(some ⟨b7,0,none⟩)) (x:=(.tmp 119)) (y:=(.tmp 126)) (ty:=68) (v:=(.slice Z13 r9.length cz13)) (z:=.agg #[vI 0,vI 0,vI 0]) (l:=r9) (us:=([(⟨11,IntKind.i64.wrap ((r9.length:Int)+2),0⟩:SIns),(⟨15,x1,0⟩:SIns)]:List SIns)) (by kernel_rfl) (by kernel_rfl) (by kernel_rfl) (by kernel_rfl) (by kernel_rfl) rfl hS48 (hS48.rdBlk 1 ([(⟨11,IntKind.i64.wrap ((r9.length:Int)+2),0⟩:SIns),(⟨15,x1,0⟩:SIns)]:List SIns) rfl rfl rfl) rfl (Nat.mul_le_of_le_div _ _ _ hc13) fun v14 w25 hS49=>?_
       have hS50:St w0 w25 [Own.of v14 29 (r9++([(⟨11,IntKind.i64.wrap ((r9.length:Int)+2),0⟩:SIns),(⟨15,x1,0⟩:SIns)]:List SIns)),bk b7 #[vI 11,vI (IntKind.i64.wrap ((r9.length:Int)+2)),vI 0,vI 15,vI x1,vI 0] 29,ro Z12 cz12 29 (r8++[(⟨12,IntKind.i64.wrap ((IntKind.i64.wrap ((IntKind.i64.wrap ((r8.length:Int)+1))+(r7.length:Int)))+1),0⟩:SIns)]),ro Z11 cz11 29 r7,bk b1 #[vI x0_0,vI x0_1,vI x0_2_0,vI x0_2_1,.slice A0_2_2 l0_2_2.length c0_2_2,vI x0_3_0,vI x0_3_1_0,vI x0_3_1_1,.slice A0_3_1_2 l0_3_1_2.length c0_3_1_2,vI x0_3_2_0,vI x0_3_2_1,.slice A0_3_2_2 l0_3_2_2.length c0_3_2_2,.slice A0_4 l0_4.length c0_4,.slice A0_5 l0_5.length c0_5] 49]:=hS49
       refine gb0 [9] [(10,v14)]<|gn hK22<|ws fun K27 hK27=>wr [(0,0),(1,0),(2,0),(3,0),(4,0),(5,1),(6,0),(7,1),(8,0)]<|gb [0,1,2,3,4] [(132,.agg #[vI 13,vI x1,vI (IntKind.i64.wrap (x0_1-1))]),(131,vI (IntKind.i64.wrap (x0_1-1))),(130,vI x0_1),(129,pP b1 1),(128,vI x1)] [ld b1 1 (vI x0_1)] ⟨hS50.c 4,trivial⟩<|gw (some 133) (.cells #[vI 13,vI x1,vI (IntKind.i64.wrap (x0_1-1))] 29) (fun b=>.slice (some ⟨b,0,none⟩) 1 1) hS50 fun b8 w26 hx8 hS51=>?_
       refine gb0 [6] [(134,v14)] ?_
       obtain ⟨Z14,cz14,rfl⟩:=hS51.open 1 rfl
       rcases hq12:punctualref_join.f K ([(⟨13,x1,IntKind.i64.wrap (x0_1-1)⟩:SIns)]:List SIns) (r9++([(⟨11,IntKind.i64.wrap ((r9.length:Int)+2),0⟩:SIns),(⟨15,x1,0⟩:SIns)]:List SIns)) with _ | r10
       ·rw [hq12] at h; cases h
       rw [hq12] at h
       simp only [] at h
       refine ge_call (d:=some 135) (f:=89) (args:=#[.slice (some ⟨b8,0,none⟩) 1 1,(.slice Z14 (r9++([(⟨11,IntKind.i64.wrap ((r9.length:Int)+2),0⟩:SIns),(⟨15,x1,0⟩:SIns)]:List SIns)).length cz14)]) (by kernel_rfl) (punctualref_join_ok K ([(⟨13,x1,IntKind.i64.wrap (x0_1-1)⟩:SIns)]:List SIns) (some ⟨b8,0,none⟩) 1 (r9++([(⟨11,IntKind.i64.wrap ((r9.length:Int)+2),0⟩:SIns),(⟨15,x1,0⟩:SIns)]:List SIns)) Z14 cz14 _ (hS51.rdBlk 0 ([(⟨13,x1,IntKind.i64.wrap (x0_1-1)⟩:SIns)]:List SIns) rfl rfl rfl) (Nat.le_refl _) (hS51.rdAt 1 rfl) (hS51.capAt 1 rfl) _ hq12) ?_
       rintro _ w27 ⟨v15,rfl,hS52⟩
       refine ⟨_,rfl,hS52.below,?_⟩
       have hS53:=hS51.call hS52
       refine gb0 [8] [(13,v15)]<|gn hK27<|ws fun K28 hK28=>wr [(0,0),(1,0),(2,0),(3,1),(4,2),(5,0)]<|gb0 [0,1,2] [(138,.agg #[vI 14,vI x1,vI 1]),(137,vI x1),(136,v15)]<|gw (some 139) (.cells #[vI 14,vI x1,vI 1] 29) (fun b=>.slice (some ⟨b,0,none⟩) 1 1) hS53 fun b9 w28 hx9 hS54=>?_
       have hS55:=hS54.b 1
       by_cases hc14:r10.length<5864062014805
       ·rw [if_pos hc14] at h
        refine ge_append (α:=SIns) (m:=0) (d:=140) (t:=68) (el:=29) (bytes:=24) (c1:=1) (b1:=b9) (x:=(.tmp 136)) (y:=(.tmp 139)) (ty:=68) (v:=v15) (z:=.agg #[vI 0,vI 0,vI 0]) (l:=r10) (u:=(⟨14,x1,1⟩:SIns)) (by kernel_rfl) (by kernel_rfl) (by kernel_rfl) (by kernel_rfl) (by kernel_rfl) rfl hS55 rfl (by omega) fun v16 w29 hS56=>?_
        refine gb0 [5] [(4,v16)]<|gn hK28 ?_
        have hS57:=hS56.takeN 1
        obtain rfl:=si h
        exact we_ret (pr0 [.tmp 4] [v16] ⟨v16,rfl,hS57⟩)
       rw [if_neg hc14] at h
       cases h
      rw [if_neg hc13] at h
      cases h
     rw [if_neg hc12] at h
     cases h
    rw [if_neg hc11] at h
    refine wk 101 (x0_0==5) false (beq_eq_false_iff_ne.2 hc11)<|wf<|we_skip fun a hF=>hK22 _ _ ?_ a hF
    refine ws fun K29 hK29=>wr [(0,0),(1,0),(2,0),(3,0),(4,0),(5,1),(6,0),(7,1),(8,0)]<|gb [0,1,2,3,4] [(132,.agg #[vI 13,vI x1,vI (IntKind.i64.wrap (x0_1-1))]),(131,vI (IntKind.i64.wrap (x0_1-1))),(130,vI x0_1),(129,pP b1 1),(128,vI x1)] [ld b1 1 (vI x0_1)] ⟨hS39.c 1,trivial⟩<|gw (some 133) (.cells #[vI 13,vI x1,vI (IntKind.i64.wrap (x0_1-1))] 29) (fun b=>.slice (some ⟨b,0,none⟩) 1 1) hS39 fun b10 w30 hx10 hS58=>?_
    refine gb0 [6] [(134,v10)] ?_
    obtain ⟨Z15,cz15,rfl⟩:=hS58.open 1 rfl
    rcases hq13:punctualref_join.f K ([(⟨13,x1,IntKind.i64.wrap (x0_1-1)⟩:SIns)]:List SIns) r7 with _ | r11
    ·rw [hq13] at h; cases h
    rw [hq13] at h
    simp only [] at h
    refine ge_call (d:=some 135) (f:=89) (args:=#[.slice (some ⟨b10,0,none⟩) 1 1,(.slice Z15 r7.length cz15)]) (by kernel_rfl) (punctualref_join_ok K ([(⟨13,x1,IntKind.i64.wrap (x0_1-1)⟩:SIns)]:List SIns) (some ⟨b10,0,none⟩) 1 r7 Z15 cz15 _ (hS58.rdBlk 0 ([(⟨13,x1,IntKind.i64.wrap (x0_1-1)⟩:SIns)]:List SIns) rfl rfl rfl) (Nat.le_refl _) (hS58.rdAt 1 rfl) (hS58.capAt 1 rfl) _ hq13) ?_
    rintro _ w31 ⟨v17,rfl,hS59⟩
    refine ⟨_,rfl,hS59.below,?_⟩
    have hS60:=hS58.call hS59
    refine gb0 [8] [(13,v17)]<|gn hK29<|ws fun K30 hK30=>wr [(0,0),(1,0),(2,0),(3,1),(4,2),(5,0)]<|gb0 [0,1,2] [(138,.agg #[vI 14,vI x1,vI 1]),(137,vI x1),(136,v17)]<|gw (some 139) (.cells #[vI 14,vI x1,vI 1] 29) (fun b=>.slice (some ⟨b,0,none⟩) 1 1) hS60 fun b11 w32 hx11 hS61=>?_
    have hS62:=hS61.b 1
    by_cases hc15:r11.length<5864062014805
    ·rw [if_pos hc15] at h
     refine ge_append (α:=SIns) (m:=0) (d:=140) (t:=68) (el:=29) (bytes:=24) (c1:=1) (b1:=b11) (x:=(.tmp 136)) (y:=(.tmp 139)) (ty:=68) (v:=v17) (z:=.agg #[vI 0,vI 0,vI 0]) (l:=r11) (u:=(⟨14,x1,1⟩:SIns)) (by kernel_rfl) (by kernel_rfl) (by kernel_rfl) (by kernel_rfl) (by kernel_rfl) rfl hS62 rfl (by omega) fun v18 w33 hS63=>?_
     refine gb0 [5] [(4,v18)]<|gn hK30 ?_
     have hS64:=hS63.takeN 1
     obtain rfl:=si h
     exact we_ret (pr0 [.tmp 4] [v18] ⟨v18,rfl,hS64⟩)
    rw [if_neg hc15] at h
    cases h
   rw [if_neg hc9] at h
   refine wk 88 q4 false (Bool.eq_false_iff.2 hc9)<|wf<|ws fun K31 hK31=>wr [(0,0),(1,0)]<|gb0 [0,1] [(141,.bool (x0_0==6)),(142,.bool (x0_0==6))]<|gn hK31 ?_
   by_cases hc16:x0_0=6
   ·rw [if_pos hc16] at h
    refine wk 141 (x0_0==6) true (beq_iff_eq.2 hc16)<|wt<|ws fun K32 hK32=>we_orders3 (by kernel_rfl) [(1,[⟨b1,1,none⟩],[2,3,8,13],[]),(5,[⟨b1,12,none⟩],[7,8,13],[]),(10,[⟨b1,1,none⟩],[11,12,13],[])] (.vals [0] (.vals [1] (.vals [2] (.vals [4] (.vals [5] (.vals [6] (.vals [9] (.vals [10] (.vals [11] (.alt 3 1 (.alt 7 1 punctualref_piece.t2_4 (.alt 12 1 punctualref_piece.t2_3 .nomore)) (.alt 7 1 (.alt 3 1 punctualref_piece.t2_4 (.alt 12 1 punctualref_piece.t2_2 .nomore)) (.alt 12 1 (.alt 3 1 punctualref_piece.t2_3 (.alt 7 1 punctualref_piece.t2_2 .nomore)) .nomore)))))))))))) (by kernel_rfl) (by kernel_rfl) ?_
    have hS65:=hS35.drew
    refine go3_join punctualref_piece.t2_0 (fun (x:Nat×(List SIns)×(Option Addr)×Nat×(List SIns)×Value×Nat) e w=>match x with | (b12,r12,Z16,cz16,r13,v20,b13)=>e=[(151,v20),(155,.slice (some ⟨b13,0,none⟩) 1 1)]∧(rec_punctualref_pieces l0_4 x1=some r12)∧(punctualref_join.f K ([(⟨16,x0_1,0⟩:SIns)]:List SIns) r12=some r13)∧St w0 w [bk b13 #[vI 17,vI x0_1,vI 0] 29,Own.of v20 29 r13,ro Z16 cz16 29 r12,bk b12 #[vI 16,vI x0_1,vI 0] 29,bk b1 #[vI x0_0,vI x0_1,vI x0_2_0,vI x0_2_1,.slice A0_2_2 l0_2_2.length c0_2_2,vI x0_3_0,vI x0_3_1_0,vI x0_3_1_1,.slice A0_3_1_2 l0_3_1_2.length c0_3_1_2,vI x0_3_2_0,vI x0_3_2_1,.slice A0_3_2_2 l0_3_2_2.length c0_3_2_2,.slice A0_4 l0_4.length c0_4,.slice A0_5 l0_5.length c0_5] 49]) ?_ fun hJ2_1=>?_
    ·rintro ⟨b12,r12,Z16,cz16,r13,v20,b13⟩ _ W2 ⟨rfl,hq14,hq15,hS73⟩
     replace hS73:St w0 W2 [bk b13 #[vI 17,vI x0_1,vI 0] 29,Own.of v20 29 r13,ro Z16 cz16 29 r12,bk b12 #[vI 16,vI x0_1,vI 0] 29,bk b1 #[vI x0_0,vI x0_1,vI x0_2_0,vI x0_2_1,.slice A0_2_2 l0_2_2.length c0_2_2,vI x0_3_0,vI x0_3_1_0,vI x0_3_1_1,.slice A0_3_1_2 l0_3_1_2.length c0_3_1_2,vI x0_3_2_0,vI x0_3_2_1,.slice A0_3_2_2 l0_3_2_2.length c0_3_2_2,.slice A0_4 l0_4.length c0_4,.slice A0_5 l0_5.length c0_5] 49]:=hS73
     rw [hq14] at h
     simp only [] at h
     rw [hq15] at h
     simp only [] at h
     refine go_alt3 (fun KK hKK=>?_) ?_
     ·have hS74:=hS73.b 1
      by_cases hc17:r13.length<5864062014805
      ·rw [if_pos hc17] at h
       refine ge_append (α:=SIns) (m:=0) (d:=156) (t:=68) (el:=29) (bytes:=24) (c1:=1) (b1:=b13) (x:=(.tmp 151)) (y:=(.tmp 155)) (ty:=68) (v:=v20) (z:=.agg #[vI 0,vI 0,vI 0]) (l:=r13) (u:=(⟨17,x0_1,0⟩:SIns)) (by kernel_rfl) (by kernel_rfl) (by kernel_rfl) (by kernel_rfl) (by kernel_rfl) rfl hS74 rfl (by omega) fun v21 w38 hS75=>?_
       refine g2 hKK<|g30 [14] [(4,v21)]<|go_fin3 fun a hF=>hK32 _ _ ?_ a hF
       have hS76:=hS75.takeN 1
       obtain rfl:=si h
       exact we_ret (pr0 [.tmp 4] [v21] ⟨v21,rfl,hS76⟩)
      rw [if_neg hc17] at h
      cases h
     exact go_nomore3
    refine go3_join punctualref_piece.t2_1 (fun (x:Nat×(List SIns)×Value×Nat) e w=>match x with | (b12,r12,v19,b13)=>e=[(146,.slice (some ⟨b12,0,none⟩) 1 1),(150,v19),(155,.slice (some ⟨b13,0,none⟩) 1 1)]∧(rec_punctualref_pieces l0_4 x1=some r12)∧St w0 w [bk b13 #[vI 17,vI x0_1,vI 0] 29,Own.of v19 29 r12,bk b12 #[vI 16,vI x0_1,vI 0] 29,bk b1 #[vI x0_0,vI x0_1,vI x0_2_0,vI x0_2_1,.slice A0_2_2 l0_2_2.length c0_2_2,vI x0_3_0,vI x0_3_1_0,vI x0_3_1_1,.slice A0_3_1_2 l0_3_1_2.length c0_3_1_2,vI x0_3_2_0,vI x0_3_2_1,.slice A0_3_2_2 l0_3_2_2.length c0_3_2_2,.slice A0_4 l0_4.length c0_4,.slice A0_5 l0_5.length c0_5] 49]) ?_ fun hJ2_2=>?_
    ·rintro ⟨b12,r12,v19,b13⟩ _ W2 ⟨rfl,hq14,hS71⟩
     replace hS71:St w0 W2 [bk b13 #[vI 17,vI x0_1,vI 0] 29,Own.of v19 29 r12,bk b12 #[vI 16,vI x0_1,vI 0] 29,bk b1 #[vI x0_0,vI x0_1,vI x0_2_0,vI x0_2_1,.slice A0_2_2 l0_2_2.length c0_2_2,vI x0_3_0,vI x0_3_1_0,vI x0_3_1_1,.slice A0_3_1_2 l0_3_1_2.length c0_3_1_2,vI x0_3_2_0,vI x0_3_2_1,.slice A0_3_2_2 l0_3_2_2.length c0_3_2_2,.slice A0_4 l0_4.length c0_4,.slice A0_5 l0_5.length c0_5] 49]:=hS71
     rw [hq14] at h
     simp only [] at h
     refine go_alt3 (fun KK hKK=>?_) ?_
     ·refine ge_one2 ?_
      obtain ⟨Z16,cz16,rfl⟩:=hS71.open 1 rfl
      rcases hq15:punctualref_join.f K ([(⟨16,x0_1,0⟩:SIns)]:List SIns) r12 with _ | r13
      ·rw [hq15] at h; cases h
      rw [hq15] at h
      simp only [] at h
      refine ge_call (d:=some 151) (f:=89) (args:=#[.slice (some ⟨b12,0,none⟩) 1 1,(.slice Z16 r12.length cz16)]) (by kernel_rfl) (punctualref_join_ok K ([(⟨16,x0_1,0⟩:SIns)]:List SIns) (some ⟨b12,0,none⟩) 1 r12 Z16 cz16 _ (hS71.rdBlk 2 ([(⟨16,x0_1,0⟩:SIns)]:List SIns) rfl rfl rfl) (Nat.le_refl _) (hS71.rdAt 1 rfl) (hS71.capAt 1 rfl) _ hq15) ?_
      rintro _ w37 ⟨v20,rfl,hS72⟩
      refine ⟨_,rfl,hS72.below,?_⟩
      have hS73:=hS71.call hS72
      refine ge_nil fun a hF=>hKK _ _ (RS.of2 (l:=[ld b1 1 (vI x0_1)]) (by kernel_rfl) ⟨hS71.c 3,trivial⟩ ⟨hS73.c 4,trivial⟩) ?_ a hF
      have hS78:=((((hS73.b 4).b 4).b 4).b 3).b 4
      exact go3_keep [(151,v20),(155,.slice (some ⟨b13,0,none⟩) 1 1)] ea (hJ2_1 (b12,r12,Z16,cz16,r13,v20,b13) _ _ ⟨rfl,hq14,hq15,hS78⟩)
     exact go_nomore3
    refine go3_join punctualref_piece.t2_4 (fun (x:Nat×(List SIns)×Value) e w=>match x with | (b12,r12,v19)=>e=[(146,.slice (some ⟨b12,0,none⟩) 1 1),(150,v19),(154,.agg #[vI 17,vI x0_1,vI 0])]∧(rec_punctualref_pieces l0_4 x1=some r12)∧St w0 w [Own.of v19 29 r12,bk b12 #[vI 16,vI x0_1,vI 0] 29,bk b1 #[vI x0_0,vI x0_1,vI x0_2_0,vI x0_2_1,.slice A0_2_2 l0_2_2.length c0_2_2,vI x0_3_0,vI x0_3_1_0,vI x0_3_1_1,.slice A0_3_1_2 l0_3_1_2.length c0_3_1_2,vI x0_3_2_0,vI x0_3_2_1,.slice A0_3_2_2 l0_3_2_2.length c0_3_2_2,.slice A0_4 l0_4.length c0_4,.slice A0_5 l0_5.length c0_5] 49]) ?_ fun hJ2_0=>?_
    ·rintro ⟨b12,r12,v19⟩ _ W1 ⟨rfl,hq14,hS69⟩
     replace hS69:St w0 W1 [Own.of v19 29 r12,bk b12 #[vI 16,vI x0_1,vI 0] 29,bk b1 #[vI x0_0,vI x0_1,vI x0_2_0,vI x0_2_1,.slice A0_2_2 l0_2_2.length c0_2_2,vI x0_3_0,vI x0_3_1_0,vI x0_3_1_1,.slice A0_3_1_2 l0_3_1_2.length c0_3_1_2,vI x0_3_2_0,vI x0_3_2_1,.slice A0_3_2_2 l0_3_2_2.length c0_3_2_2,.slice A0_4 l0_4.length c0_4,.slice A0_5 l0_5.length c0_5] 49]:=hS69
     rw [hq14] at h
     simp only [] at h
     refine go_alt3 (fun KK hKK=>?_) ?_
     ·refine ge_one2 ?_
      obtain ⟨Z16,cz16,rfl⟩:=hS69.open 0 rfl
      rcases hq15:punctualref_join.f K ([(⟨16,x0_1,0⟩:SIns)]:List SIns) r12 with _ | r13
      ·rw [hq15] at h; cases h
      rw [hq15] at h
      simp only [] at h
      refine ge_call (d:=some 151) (f:=89) (args:=#[.slice (some ⟨b12,0,none⟩) 1 1,(.slice Z16 r12.length cz16)]) (by kernel_rfl) (punctualref_join_ok K ([(⟨16,x0_1,0⟩:SIns)]:List SIns) (some ⟨b12,0,none⟩) 1 r12 Z16 cz16 _ (hS69.rdBlk 1 ([(⟨16,x0_1,0⟩:SIns)]:List SIns) rfl rfl rfl) (Nat.le_refl _) (hS69.rdAt 0 rfl) (hS69.capAt 0 rfl) _ hq15) ?_
      rintro _ w36 ⟨v20,rfl,hS70⟩
      refine ⟨_,rfl,hS70.below,?_⟩
      have hS71:=hS69.call hS70
      refine ge_nil fun a hF=>hKK _ _ (RS.of2 (l:=[ld b1 1 (vI x0_1)]) (by kernel_rfl) ⟨hS69.c 2,trivial⟩ ⟨hS71.c 3,trivial⟩) ?_ a hF
      refine go_alt3 (fun KK hKK=>?_) ?_
      ·refine ge_one2<|gw (some 155) (.cells #[vI 17,vI x0_1,vI 0] 29) (fun b=>.slice (some ⟨b,0,none⟩) 1 1) hS71 fun b13 w37 hx13 hS72=>?_
       refine ge_nil fun a hF=>hKK _ _ (RS.of2 (l:=[ld b1 1 (vI x0_1),ld b1 12 (.slice A0_4 l0_4.length c0_4)]) (by kernel_rfl) ⟨hS71.c 3,hS71.c 3,trivial⟩ ⟨hS72.c 4,hS72.c 4,trivial⟩) ?_ a hF
       have hS81:=((((hS72.b 4).b 4).b 4).b 4).b 4
       exact go3_keep [(151,v20),(155,.slice (some ⟨b13,0,none⟩) 1 1)] ea (hJ2_1 (b12,r12,Z16,cz16,r13,v20,b13) _ _ ⟨rfl,hq14,hq15,hS81⟩)
      exact go_nomore3
     refine go_alt3 (fun KK hKK=>?_) ?_
     ·refine ge_one2<|gw (some 155) (.cells #[vI 17,vI x0_1,vI 0] 29) (fun b=>.slice (some ⟨b,0,none⟩) 1 1) hS69 fun b13 w36 hx13 hS70=>?_
      refine ge_nil fun a hF=>hKK _ _ (RS.of2 (l:=[ld b1 1 (vI x0_1),ld b1 12 (.slice A0_4 l0_4.length c0_4)]) (by kernel_rfl) ⟨hS69.c 2,hS69.c 2,trivial⟩ ⟨hS70.c 3,hS70.c 3,trivial⟩) ?_ a hF
      have hS82:=(((hS70.b 3).b 3).b 3).b 3
      exact go3_keep [(146,.slice (some ⟨b12,0,none⟩) 1 1),(150,v19),(155,.slice (some ⟨b13,0,none⟩) 1 1)] ea (hJ2_2 (b12,r12,v19,b13) _ _ ⟨rfl,hq14,hS82⟩)
     exact go_nomore3
    refine go3_join punctualref_piece.t2_3 (fun (x:Nat×Nat) e w=>match x with | (b12,b13)=>e=[(146,.slice (some ⟨b12,0,none⟩) 1 1),(148,.slice A0_4 l0_4.length c0_4),(149,vI x1),(155,.slice (some ⟨b13,0,none⟩) 1 1)]∧St w0 w [bk b13 #[vI 17,vI x0_1,vI 0] 29,bk b12 #[vI 16,vI x0_1,vI 0] 29,bk b1 #[vI x0_0,vI x0_1,vI x0_2_0,vI x0_2_1,.slice A0_2_2 l0_2_2.length c0_2_2,vI x0_3_0,vI x0_3_1_0,vI x0_3_1_1,.slice A0_3_1_2 l0_3_1_2.length c0_3_1_2,vI x0_3_2_0,vI x0_3_2_1,.slice A0_3_2_2 l0_3_2_2.length c0_3_2_2,.slice A0_4 l0_4.length c0_4,.slice A0_5 l0_5.length c0_5] 49]) ?_ fun hJ2_3=>?_
    ·rintro ⟨b12,b13⟩ _ W1 ⟨rfl,hS68⟩
     replace hS68:St w0 W1 [bk b13 #[vI 17,vI x0_1,vI 0] 29,bk b12 #[vI 16,vI x0_1,vI 0] 29,bk b1 #[vI x0_0,vI x0_1,vI x0_2_0,vI x0_2_1,.slice A0_2_2 l0_2_2.length c0_2_2,vI x0_3_0,vI x0_3_1_0,vI x0_3_1_1,.slice A0_3_1_2 l0_3_1_2.length c0_3_1_2,vI x0_3_2_0,vI x0_3_2_1,.slice A0_3_2_2 l0_3_2_2.length c0_3_2_2,.slice A0_4 l0_4.length c0_4,.slice A0_5 l0_5.length c0_5] 49]:=hS68
     refine go_alt3 (fun KK hKK=>?_) ?_
     ·refine ge_one2 ?_
      rcases hq14:rec_punctualref_pieces l0_4 x1 with _ | r12
      ·rw [hq14] at h; cases h
      rw [hq14] at h
      simp only [] at h
      refine ge_call (d:=some 150) (f:=66) (args:=#[.slice A0_4 l0_4.length c0_4,vI x1]) (by kernel_rfl) (hr_punctualref_pieces Z l0_4 A0_4 c0_4 x1 _ (fun w' k=>(hZ w' (hS68.subw.trans k))) hR0_4 hL0_4 _ hq14) ?_
      rintro _ w36 ⟨v19,rfl,hS69⟩
      refine ⟨_,rfl,hS69.below,?_⟩
      have hS70:=hS68.call hS69
      refine ge_nil fun a hF=>hKK _ _ (RS.of2 (l:=[ld b1 1 (vI x0_1),ld b1 1 (vI x0_1)]) (by kernel_rfl) ⟨hS68.c 2,hS68.c 2,trivial⟩ ⟨hS70.c 3,hS70.c 3,trivial⟩) ?_ a hF
      have hS74:=(((hS70.b 3).b 3).b 2).b 3
      exact go3_keep [(146,.slice (some ⟨b12,0,none⟩) 1 1),(150,v19),(155,.slice (some ⟨b13,0,none⟩) 1 1)] ea (hJ2_2 (b12,r12,v19,b13) _ _ ⟨rfl,hq14,hS74⟩)
     exact go_nomore3
    refine go3_join punctualref_piece.t2_2 (fun (x:(List SIns)×Value×Nat) e w=>match x with | (r12,v19,b12)=>e=[(145,.agg #[vI 16,vI x0_1,vI 0]),(150,v19),(155,.slice (some ⟨b12,0,none⟩) 1 1)]∧(rec_punctualref_pieces l0_4 x1=some r12)∧St w0 w [bk b12 #[vI 17,vI x0_1,vI 0] 29,Own.of v19 29 r12,bk b1 #[vI x0_0,vI x0_1,vI x0_2_0,vI x0_2_1,.slice A0_2_2 l0_2_2.length c0_2_2,vI x0_3_0,vI x0_3_1_0,vI x0_3_1_1,.slice A0_3_1_2 l0_3_1_2.length c0_3_1_2,vI x0_3_2_0,vI x0_3_2_1,.slice A0_3_2_2 l0_3_2_2.length c0_3_2_2,.slice A0_4 l0_4.length c0_4,.slice A0_5 l0_5.length c0_5] 49]) ?_ fun hJ2_4=>?_
    ·rintro ⟨r12,v19,b12⟩ _ W1 ⟨rfl,hq14,hS69⟩
     replace hS69:St w0 W1 [bk b12 #[vI 17,vI x0_1,vI 0] 29,Own.of v19 29 r12,bk b1 #[vI x0_0,vI x0_1,vI x0_2_0,vI x0_2_1,.slice A0_2_2 l0_2_2.length c0_2_2,vI x0_3_0,vI x0_3_1_0,vI x0_3_1_1,.slice A0_3_1_2 l0_3_1_2.length c0_3_1_2,vI x0_3_2_0,vI x0_3_2_1,.slice A0_3_2_2 l0_3_2_2.length c0_3_2_2,.slice A0_4 l0_4.length c0_4,.slice A0_5 l0_5.length c0_5] 49]:=hS69
     rw [hq14] at h
     simp only [] at h
     refine go_alt3 (fun KK hKK=>?_) ?_
     ·refine ge_one2<|gw (some 146) (.cells #[vI 16,vI x0_1,vI 0] 29) (fun b=>.slice (some ⟨b,0,none⟩) 1 1) hS69 fun b13 w36 hx13 hS70=>?_
      refine ge_nil fun a hF=>hKK _ _ (RS.of2 (l:=[ld b1 12 (.slice A0_4 l0_4.length c0_4),ld b1 1 (vI x0_1)]) (by kernel_rfl) ⟨hS69.c 2,hS69.c 2,trivial⟩ ⟨hS70.c 3,hS70.c 3,trivial⟩) ?_ a hF
      have hS74:=(((hS70.b 3).b 1).b 3).b 3
      exact go3_keep [(146,.slice (some ⟨b13,0,none⟩) 1 1),(150,v19),(155,.slice (some ⟨b12,0,none⟩) 1 1)] ea (hJ2_2 (b13,r12,v19,b12) _ _ ⟨rfl,hq14,hS74⟩)
     exact go_nomore3
    refine g30 [0] [(143,pP b1 1)]<|g3 1 [(144,vI x0_1)] [ld b1 1 (vI x0_1)] ⟨hS65.c 0,trivial⟩<|g30 [2,4] [(147,pP b1 12),(145,.agg #[vI 16,vI x0_1,vI 0])]<|g3 5 [(148,.slice A0_4 l0_4.length c0_4)] [ld b1 12 (.slice A0_4 l0_4.length c0_4)] ⟨hS65.c 0,trivial⟩<|g30 [6,9] [(152,pP b1 1),(149,vI x1)]<|g3 10 [(153,vI x0_1)] [ld b1 1 (vI x0_1)] ⟨hS65.c 0,trivial⟩<|g30 [11] [(154,.agg #[vI 17,vI x0_1,vI 0])]<|go_alt3 (fun KK hKK=>?_) ?_
    ·refine ge_one2<|gw (some 146) (.cells #[vI 16,vI x0_1,vI 0] 29) (fun b=>.slice (some ⟨b,0,none⟩) 1 1) hS65 fun b12 w34 hx12 hS66=>?_
     refine ge_nil fun a hF=>hKK _ _ (RS.of2 (l:=[ld b1 12 (.slice A0_4 l0_4.length c0_4),ld b1 1 (vI x0_1)]) (by kernel_rfl) ⟨hS65.c 0,hS65.c 0,trivial⟩ ⟨hS66.c 1,hS66.c 1,trivial⟩) ?_ a hF
     refine go_alt3 (fun KK hKK=>?_) ?_
     ·refine ge_one2 ?_
      rcases hq14:rec_punctualref_pieces l0_4 x1 with _ | r12
      ·rw [hq14] at h; cases h
      rw [hq14] at h
      simp only [] at h
      refine ge_call (d:=some 150) (f:=66) (args:=#[.slice A0_4 l0_4.length c0_4,vI x1]) (by kernel_rfl) (hr_punctualref_pieces Z l0_4 A0_4 c0_4 x1 _ (fun w' k=>(hZ w' (hS66.subw.trans k))) hR0_4 hL0_4 _ hq14) ?_
      rintro _ w35 ⟨v19,rfl,hS67⟩
      refine ⟨_,rfl,hS67.below,?_⟩
      have hS68:=hS66.call hS67
      refine ge_nil fun a hF=>hKK _ _ (RS.of2 (l:=[ld b1 1 (vI x0_1),ld b1 1 (vI x0_1)]) (by kernel_rfl) ⟨hS66.c 1,hS66.c 1,trivial⟩ ⟨hS68.c 2,hS68.c 2,trivial⟩) ?_ a hF
      have hS85:=((hS68.b 2).b 2).b 2
      exact go3_keep [(146,.slice (some ⟨b12,0,none⟩) 1 1),(150,v19),(154,.agg #[vI 17,vI x0_1,vI 0])] ea (hJ2_0 (b12,r12,v19) _ _ ⟨rfl,hq14,hS85⟩)
     refine go_alt3 (fun KK hKK=>?_) ?_
     ·refine ge_one2<|gw (some 155) (.cells #[vI 17,vI x0_1,vI 0] 29) (fun b=>.slice (some ⟨b,0,none⟩) 1 1) hS66 fun b13 w35 hx13 hS67=>?_
      refine ge_nil fun a hF=>hKK _ _ (RS.of2 (l:=[ld b1 1 (vI x0_1),ld b1 12 (.slice A0_4 l0_4.length c0_4)]) (by kernel_rfl) ⟨hS66.c 1,hS66.c 1,trivial⟩ ⟨hS67.c 2,hS67.c 2,trivial⟩) ?_ a hF
      have hS77:=((hS67.b 2).b 2).b 2
      exact go3_keep [(146,.slice (some ⟨b12,0,none⟩) 1 1),(148,.slice A0_4 l0_4.length c0_4),(149,vI x1),(155,.slice (some ⟨b13,0,none⟩) 1 1)] ea (hJ2_3 (b12,b13) _ _ ⟨rfl,hS77⟩)
     exact go_nomore3
    refine go_alt3 (fun KK hKK=>?_) ?_
    ·refine ge_one2 ?_
     rcases hq14:rec_punctualref_pieces l0_4 x1 with _ | r12
     ·rw [hq14] at h; cases h
     rw [hq14] at h
     simp only [] at h
     refine ge_call (d:=some 150) (f:=66) (args:=#[.slice A0_4 l0_4.length c0_4,vI x1]) (by kernel_rfl) (hr_punctualref_pieces Z l0_4 A0_4 c0_4 x1 _ (fun w' k=>(hZ w' (hS65.subw.trans k))) hR0_4 hL0_4 _ hq14) ?_
     rintro _ w34 ⟨v19,rfl,hS66⟩
     refine ⟨_,rfl,hS66.below,?_⟩
     have hS67:=hS65.call hS66
     refine ge_nil fun a hF=>hKK _ _ (RS.of2 (l:=[ld b1 1 (vI x0_1),ld b1 1 (vI x0_1)]) (by kernel_rfl) ⟨hS65.c 0,hS65.c 0,trivial⟩ ⟨hS67.c 1,hS67.c 1,trivial⟩) ?_ a hF
     refine go_alt3 (fun KK hKK=>?_) ?_
     ·refine ge_one2<|gw (some 146) (.cells #[vI 16,vI x0_1,vI 0] 29) (fun b=>.slice (some ⟨b,0,none⟩) 1 1) hS67 fun b12 w35 hx12 hS68=>?_
      refine ge_nil fun a hF=>hKK _ _ (RS.of2 (l:=[ld b1 12 (.slice A0_4 l0_4.length c0_4),ld b1 1 (vI x0_1)]) (by kernel_rfl) ⟨hS67.c 1,hS67.c 1,trivial⟩ ⟨hS68.c 2,hS68.c 2,trivial⟩) ?_ a hF
      have hS71:=((hS68.b 2).b 1).b 2
      exact go3_keep [(146,.slice (some ⟨b12,0,none⟩) 1 1),(150,v19),(154,.agg #[vI 17,vI x0_1,vI 0])] ea (hJ2_0 (b12,r12,v19) _ _ ⟨rfl,hq14,hS71⟩)
     refine go_alt3 (fun KK hKK=>?_) ?_
     ·refine ge_one2<|gw (some 155) (.cells #[vI 17,vI x0_1,vI 0] 29) (fun b=>.slice (some ⟨b,0,none⟩) 1 1) hS67 fun b12 w35 hx12 hS68=>?_
      refine ge_nil fun a hF=>hKK _ _ (RS.of2 (l:=[ld b1 1 (vI x0_1),ld b1 12 (.slice A0_4 l0_4.length c0_4)]) (by kernel_rfl) ⟨hS67.c 1,hS67.c 1,trivial⟩ ⟨hS68.c 2,hS68.c 2,trivial⟩) ?_ a hF
      have hS77:=((hS68.b 2).b 2).b 2
      exact go3_keep [(145,.agg #[vI 16,vI x0_1,vI 0]),(150,v19),(155,.slice (some ⟨b12,0,none⟩) 1 1)] ea (hJ2_4 (r12,v19,b12) _ _ ⟨rfl,hq14,hS77⟩)
     exact go_nomore3
    refine go_alt3 (fun KK hKK=>?_) ?_
    ·refine ge_one2<|gw (some 155) (.cells #[vI 17,vI x0_1,vI 0] 29) (fun b=>.slice (some ⟨b,0,none⟩) 1 1) hS65 fun b12 w34 hx12 hS66=>?_
     refine ge_nil fun a hF=>hKK _ _ (RS.of2 (l:=[ld b1 1 (vI x0_1),ld b1 12 (.slice A0_4 l0_4.length c0_4)]) (by kernel_rfl) ⟨hS65.c 0,hS65.c 0,trivial⟩ ⟨hS66.c 1,hS66.c 1,trivial⟩) ?_ a hF
     refine go_alt3 (fun KK hKK=>?_) ?_
     ·refine ge_one2<|gw (some 146) (.cells #[vI 16,vI x0_1,vI 0] 29) (fun b=>.slice (some ⟨b,0,none⟩) 1 1) hS66 fun b13 w35 hx13 hS67=>?_
      refine ge_nil fun a hF=>hKK _ _ (RS.of2 (l:=[ld b1 12 (.slice A0_4 l0_4.length c0_4),ld b1 1 (vI x0_1)]) (by kernel_rfl) ⟨hS66.c 1,hS66.c 1,trivial⟩ ⟨hS67.c 2,hS67.c 2,trivial⟩) ?_ a hF
      have hS70:=((hS67.b 2).b 1).b 2
      exact go3_keep [(146,.slice (some ⟨b13,0,none⟩) 1 1),(148,.slice A0_4 l0_4.length c0_4),(149,vI x1),(155,.slice (some ⟨b12,0,none⟩) 1 1)] ea (hJ2_3 (b13,b12) _ _ ⟨rfl,hS70⟩)
     refine go_alt3 (fun KK hKK=>?_) ?_
     ·refine ge_one2 ?_
      rcases hq14:rec_punctualref_pieces l0_4 x1 with _ | r12
      ·rw [hq14] at h; cases h
      rw [hq14] at h
      simp only [] at h
      refine ge_call (d:=some 150) (f:=66) (args:=#[.slice A0_4 l0_4.length c0_4,vI x1]) (by kernel_rfl) (hr_punctualref_pieces Z l0_4 A0_4 c0_4 x1 _ (fun w' k=>(hZ w' (hS66.subw.trans k))) hR0_4 hL0_4 _ hq14) ?_
      rintro _ w35 ⟨v19,rfl,hS67⟩
      refine ⟨_,rfl,hS67.below,?_⟩
      have hS68:=hS66.call hS67
      refine ge_nil fun a hF=>hKK _ _ (RS.of2 (l:=[ld b1 1 (vI x0_1),ld b1 1 (vI x0_1)]) (by kernel_rfl) ⟨hS66.c 1,hS66.c 1,trivial⟩ ⟨hS68.c 2,hS68.c 2,trivial⟩) ?_ a hF
      have hS71:=((hS68.b 2).b 1).b 2
      exact go3_keep [(145,.agg #[vI 16,vI x0_1,vI 0]),(150,v19),(155,.slice (some ⟨b12,0,none⟩) 1 1)] ea (hJ2_4 (r12,v19,b12) _ _ ⟨rfl,hq14,hS71⟩)
     exact go_nomore3
    exact go_nomore3
   rw [if_neg hc16] at h
   refine wk 141 (x0_0==6) false (beq_eq_false_iff_ne.2 hc16)<|wf<|we_skip fun a hF=>hK2 _ _ ?_ a hF
   refine ws fun K33 hK33=>wr [(0,0),(1,0),(2,0),(3,1),(4,0)]<|gb [0,1,2] [(159,.agg #[vI 18,vI x0_1,vI 0]),(158,vI x0_1),(157,pP b1 1)] [ld b1 1 (vI x0_1)] ⟨hS35.c 0,trivial⟩<|gw (some 160) (.cells #[vI 18,vI x0_1,vI 0] 29) (fun b=>.slice (some ⟨b,0,none⟩) 1 1) hS35 fun b13 w36 hx13 hS72=>?_
   refine gb0 [4] [(4,.slice (some ⟨b13,0,none⟩) 1 1)]<|gn hK33 ?_
   have hS74:=(hS72.asRow (α:=SIns) (c:=1) ([(⟨18,x0_1,0⟩:SIns)]:List SIns) (Nat.le_refl _) (by decide) rfl rfl).takeN 1
   obtain rfl:=si h
   exact we_ret (pr0 [.tmp 4] [(.slice (some ⟨b13,0,none⟩) 1 1)] ⟨(.slice (some ⟨b13,0,none⟩) 1 1),rfl,hS74⟩)
  rw [hq8] at h
  simp only [] at h
  refine kp (punctualref_piece_p1 K w0 Z x0_0 x0_1 x0_2_0 x0_2_1 l0_2_2 A0_2_2 c0_2_2 x0_3_0 x0_3_1_0 x0_3_1_1 l0_3_1_2 A0_3_1_2 c0_3_1_2 x0_3_2_0 x0_3_2_1 l0_3_2_2 A0_3_2_2 c0_3_2_2 l0_4 A0_4 c0_4 l0_5 A0_5 c0_5 x1 hZ hR0_2_2 hL0_2_2 hR0_3_1_2 hL0_3_1_2 hR0_3_2_2 hL0_3_2_2 hR0_4 hL0_4 hR0_5 hL0_5 rec_punctualref_pieces hr_punctualref_pieces b1 q2 hc2 hc3 _ hq8 _ hS2 _ ?_)
  rintro _ a w1 ⟨_,rfl,hb⟩
  obtain rfl:=si h
  exact hb
 rw [hq1] at h
 simp only [] at h
 refine kp (punctualref_piece_p0 K w0 Z x0_0 x0_1 x0_2_0 x0_2_1 l0_2_2 A0_2_2 c0_2_2 x0_3_0 x0_3_1_0 x0_3_1_1 l0_3_1_2 A0_3_1_2 c0_3_1_2 x0_3_2_0 x0_3_2_1 l0_3_2_2 A0_3_2_2 c0_3_2_2 l0_4 A0_4 c0_4 l0_5 A0_5 c0_5 x1 hZ hR0_2_2 hL0_2_2 hR0_3_1_2 hL0_3_1_2 hR0_3_2_2 hL0_3_2_2 hR0_4 hL0_4 hR0_5 hL0_5 rec_punctualref_pieces hr_punctualref_pieces b1 _ hq1 _ hS1 _ ?_)
 rintro _ a w1 ⟨_,rfl,hb⟩
 obtain rfl:=si h
 exact hb
def punctualref_pieces.recs (K : Nat) : Nat → ((List SStmt) → Int → Option (List SIns)) × (Int → Int → Int → Int → (List SExpr) → Int → Int → Int → (List SExpr) → Int → Int → (List SExpr) → (List SStmt) → (List SStmt) → Int → Option (List SIns))
 | 0=>(fun _ _=>none,fun _ _ _ _ _ _ _ _ _ _ _ _ _ _ _=>none)
 | n+1=>(punctualref_pieces.b K ((punctualref_pieces.recs K n).2),punctualref_piece.b K ((punctualref_pieces.recs K n).1))
theorem punctualref_pieces_all (K n:Nat):punctualref_pieces.Rec ((punctualref_pieces.recs K n).1)∧punctualref_piece.Rec ((punctualref_pieces.recs K n).2):=by
 induction n with
 | zero=>exact ⟨(by unfold punctualref_pieces.Rec; intros; rename_i h; cases (show none=some _ from h)),(by unfold punctualref_piece.Rec; intros; rename_i h; cases (show none=some _ from h))⟩
 | succ n ih=>exact ⟨punctualref_pieces_step K _ ih.2,punctualref_piece_step K _ ih.1⟩
def punctualref_pieces.f (K : Nat) (l0 : List SStmt) (x1 : Int) : Option (List SIns) := ((punctualref_pieces.recs K K).1) l0 x1
theorem punctualref_pieces_ok (K:Nat) (Z:Zone) (l0:List SStmt) (A0:OA) (c0:Nat) (x1:Int) (w0:World) (hZ:∀ w,Sub w0 w→Z w) (hR0:RdZ Z A0 l0) (hL0:l0.length≤c0) (r:List SIns) (h:punctualref_pieces.f K l0 x1=some r):Calls Try.prog 66 #[.slice A0 l0.length c0,vI x1] w0 (punctualref_pieces.Post w0 r):=(punctualref_pieces_all K K).1 Z l0 A0 c0 x1 w0 hZ hR0 hL0 r h
def punctualref_piece.f (K : Nat) (x0_0 : Int) (x0_1 : Int) (x0_2_0 : Int) (x0_2_1 : Int) (l0_2_2 : List SExpr) (x0_3_0 : Int) (x0_3_1_0 : Int) (x0_3_1_1 : Int) (l0_3_1_2 : List SExpr) (x0_3_2_0 : Int) (x0_3_2_1 : Int) (l0_3_2_2 : List SExpr) (l0_4 : List SStmt) (l0_5 : List SStmt) (x1 : Int) : Option (List SIns) := ((punctualref_pieces.recs K K).2) x0_0 x0_1 x0_2_0 x0_2_1 l0_2_2 x0_3_0 x0_3_1_0 x0_3_1_1 l0_3_1_2 x0_3_2_0 x0_3_2_1 l0_3_2_2 l0_4 l0_5 x1
theorem punctualref_piece_ok (K:Nat) (Z:Zone) (x0_0 x0_1 x0_2_0 x0_2_1:Int) (l0_2_2:List SExpr) (A0_2_2:OA) (c0_2_2:Nat) (x0_3_0 x0_3_1_0 x0_3_1_1:Int) (l0_3_1_2:List SExpr) (A0_3_1_2:OA) (c0_3_1_2:Nat) (x0_3_2_0 x0_3_2_1:Int) (l0_3_2_2:List SExpr) (A0_3_2_2:OA) (c0_3_2_2:Nat) (l0_4:List SStmt) (A0_4:OA) (c0_4:Nat) (l0_5:List SStmt) (A0_5:OA) (c0_5:Nat) (x1:Int) (w0:World) (hZ:∀ w,Sub w0 w→Z w) (hR0_2_2:RdZ Z A0_2_2 l0_2_2) (hL0_2_2:l0_2_2.length≤c0_2_2) (hR0_3_1_2:RdZ Z A0_3_1_2 l0_3_1_2) (hL0_3_1_2:l0_3_1_2.length≤c0_3_1_2) (hR0_3_2_2:RdZ Z A0_3_2_2 l0_3_2_2) (hL0_3_2_2:l0_3_2_2.length≤c0_3_2_2) (hR0_4:RdZ Z A0_4 l0_4) (hL0_4:l0_4.length≤c0_4) (hR0_5:RdZ Z A0_5 l0_5) (hL0_5:l0_5.length≤c0_5) (r:List SIns) (h:punctualref_piece.f K x0_0 x0_1 x0_2_0 x0_2_1 l0_2_2 x0_3_0 x0_3_1_0 x0_3_1_1 l0_3_1_2 x0_3_2_0 x0_3_2_1 l0_3_2_2 l0_4 l0_5 x1=some r):Calls Try.prog 90 #[.agg #[vI x0_0,vI x0_1,vI x0_2_0,vI x0_2_1,.slice A0_2_2 l0_2_2.length c0_2_2,vI x0_3_0,vI x0_3_1_0,vI x0_3_1_1,.slice A0_3_1_2 l0_3_1_2.length c0_3_1_2,vI x0_3_2_0,vI x0_3_2_1,.slice A0_3_2_2 l0_3_2_2.length c0_3_2_2,.slice A0_4 l0_4.length c0_4,.slice A0_5 l0_5.length c0_5],vI x1] w0 (punctualref_piece.Post w0 r):=(punctualref_pieces_all K K).2 Z x0_0 x0_1 x0_2_0 x0_2_1 l0_2_2 A0_2_2 c0_2_2 x0_3_0 x0_3_1_0 x0_3_1_1 l0_3_1_2 A0_3_1_2 c0_3_1_2 x0_3_2_0 x0_3_2_1 l0_3_2_2 A0_3_2_2 c0_3_2_2 l0_4 A0_4 c0_4 l0_5 A0_5 c0_5 x1 w0 hZ hR0_2_2 hL0_2_2 hR0_3_1_2 hL0_3_1_2 hR0_3_2_2 hL0_3_2_2 hR0_4 hL0_4 hR0_5 hL0_5 r h

/-! punctual/punctualref.Compile -/
abbrev punctualref_Compile.Post (w0:World) (r:(List SIns)×SFault) (e:Ending) (w:World):Prop:=∃ (v0:Value),e=.returned (.tuple #[v0,.agg #[vI r.2.Code,vI r.2.At]])∧St w0 w [Own.of v0 29 r.1]
def punctualref_Compile.f (K : Nat) (l0 : List SStmt) : Option ((List SIns) × SFault) :=
 match punctualref_CheckBody.f K l0 with
 | none=>none
 | some r1 =>
  if r1.Code=0 then
   match punctualref_pieces.f K l0 0 with
   | none=>none
   | some r2 =>
    if (r2.length:Int) > 2000 then
     some (([]:List SIns),(punctualref_F.f 2 0))
    else
     some (r2,(⟨0,0⟩:SFault))
  else
   some (([]:List SIns),r1)
theorem punctualref_Compile_ok (K:Nat) (Z:Zone) (l0:List SStmt) (A0:OA) (c0:Nat) (w0:World) (hZ:∀ w,Sub w0 w→Z w) (hR0:RdZ Z A0 l0) (hL0:l0.length≤c0) (r:(List SIns)×SFault) (h:punctualref_Compile.f K l0=some r) :
  Calls Try.prog 42 #[.slice A0 l0.length c0] w0 (punctualref_Compile.Post w0 r):=by
 have hS:=St.start w0
 unfold punctualref_Compile.f at h
 refine calls_enter (n:=20) (args:=[.slice A0 l0.length c0]) (fn:=Try.f42) rfl rfl rfl rfl ?_
 show WE _ _ _ _ [(0,.slice A0 l0.length c0)] _
 refine ws fun K1 hK1=>wr [(0,0),(1,1)]<|gb0 [0] [(2,.slice none 0 0)]<|gw (some 3) (.cells #[vI 0,vI 0] 40) (fun b=>pP b 0) hS fun b1 w1 hx1 hS1=>?_
 refine gn hK1<|ws fun K2 hK2=>ws fun K3 hK3=>wr [(0,0),(1,1),(2,1),(3,2)] ?_
 rcases hq1:punctualref_CheckBody.f K l0 with _ | r1
 ·rw [hq1] at h; cases h
 rw [hq1] at h
 simp only [] at h
 refine gb0 [0] [(6,.slice A0 l0.length c0)]<|ge_call (d:=some 7) (f:=26) (args:=#[.slice A0 l0.length c0]) (by kernel_rfl) (punctualref_CheckBody_ok K Z l0 A0 c0 _ (fun w' k=>(hZ w' (hS1.subw.trans k))) hR0 hL0 _ hq1) ?_
 rintro _ w2 ⟨rfl,hS2⟩
 refine ⟨_,rfl,hS2.below,?_⟩
 have hS3:=hS1.call hS2
 refine gw (some 4) (.cells #[vI 0,vI 0] 40) (fun b=>pP b 0) hS3 fun b2 w3 hx2 hS4=>?_
 refine gs b2 0 #[vI 0,vI 0] 40 [vI r1.Code,vI r1.At] hS4 fun w4 hS5=>?_
 have hS6:=hS5.nc #[vI r1.Code,vI r1.At] (by kernel_rfl)
 refine gn hK3<|ws fun K4 hK4=>wr [(0,0),(1,0),(2,0)]<|gb [0,1,2] [(10,.bool (r1.Code != 0)),(9,vI r1.Code),(8,pP b2 0)] [ld b2 0 (vI r1.Code)] ⟨hS6.c 0,trivial⟩<|gn hK4 ?_
 by_cases hc1:r1.Code=0
 ·rw [if_pos hc1] at h
  refine wk 10 (r1.Code != 0) false (bne_eq_false_iff_eq.2 hc1)<|wf<|we_skip fun a hF=>hK2 _ _ ?_ a hF
  refine ws fun K5 hK5=>wr [(0,0),(1,1),(2,0)] ?_
  rcases hq2:punctualref_pieces.f K l0 0 with _ | r2
  ·rw [hq2] at h; cases h
  rw [hq2] at h
  simp only [] at h
  refine gb0 [0] [(12,.slice A0 l0.length c0)]<|ge_call (d:=some 13) (f:=66) (args:=#[.slice A0 l0.length c0,vI 0]) (by kernel_rfl) (punctualref_pieces_ok K Z l0 A0 c0 0 _ (fun w' k=>(hZ w' (hS6.subw.trans k))) hR0 hL0 _ hq2) ?_
  rintro _ w5 ⟨v1,rfl,hS7⟩
  refine ⟨_,rfl,hS7.below,?_⟩
  have hS8:=hS6.call hS7
  refine gb0 [2] [(5,v1)]<|gn hK5<|ws fun K6 hK6=>ws fun K7 hK7=>wr [(0,0),(1,0),(2,0)]<|gb0 [0] [(14,v1)] ?_
  obtain ⟨Z1,cz1,rfl⟩:=hS8.open 0 rfl
  refine gb0 [1,2] [(16,.bool (decide ((r2.length:Int) > 2000))),(15,vI (r2.length:Int))]<|gn hK7 ?_
  by_cases hc2:(r2.length:Int) > 2000
  ·rw [if_pos hc2] at h
   refine wk 16 (decide ((r2.length:Int) > 2000)) true (decide_eq_true hc2)<|wt<|ws fun K8 hK8=>wr [(0,1),(1,0),(2,2)]<|ge_call (d:=some 17) (f:=22) (args:=#[vI 2,vI 0]) (by kernel_rfl) (punctualref_F_ok 2 0 _ _ rfl) ?_
   rintro _ w6 ⟨rfl,hS9⟩
   refine ⟨_,rfl,hS9.below,?_⟩
   have hS10:=hS8.call hS9
   refine gb0 [1] [(2,.slice none 0 0)] ?_
   have hS11:=hS10.b 2
   refine gs b1 0 #[vI 0,vI 0] 40 [vI ((punctualref_F.f 2 0).Code),vI ((punctualref_F.f 2 0).At)] hS11 fun w7 hS12=>?_
   have hS13:=hS12.nc #[vI ((punctualref_F.f 2 0).Code),vI ((punctualref_F.f 2 0).At)] (by kernel_rfl)
   refine gn hK8 ?_
   have hS14:=hS13.nil (α:=SIns) 29
   have hS15:=hS14.takeN 1
   obtain rfl:=si h
   exact we_ret (pr [.tmp 2,.cell 3 40] [(.slice none 0 0),.agg #[vI ((punctualref_F.f 2 0).Code),vI ((punctualref_F.f 2 0).At)]] [ld b1 0 (vI ((punctualref_F.f 2 0).Code)),ld b1 1 (vI ((punctualref_F.f 2 0).At))] ⟨hS14.c 1,hS14.c 1,trivial⟩ ⟨(.slice none 0 0),rfl,hS15⟩)
  rw [if_neg hc2] at h
  refine wk 16 (decide ((r2.length:Int) > 2000)) false (decide_eq_false hc2)<|wf<|we_skip fun a hF=>hK6 _ _ ?_ a hF
  refine ws fun K9 hK9=>wr [(0,0),(1,0),(2,0),(3,2)]<|gb0 [0,1,2] [(2,(.slice Z1 r2.length cz1)),(19,.agg #[vI 0,vI 0]),(18,(.slice Z1 r2.length cz1))] ?_
  have hS16:=hS8.b 2
  refine gs b1 0 #[vI 0,vI 0] 40 [vI 0,vI 0] hS16 fun w8 hS17=>?_
  have hS18:=hS17.nc #[vI 0,vI 0] (by kernel_rfl)
  refine gn hK9 ?_
  have hS20:=hS18.p [1] rfl
  obtain rfl:=si h
  exact we_ret (pr [.tmp 2,.cell 3 40] [(.slice Z1 r2.length cz1),.agg #[vI 0,vI 0]] [ld b1 0 (vI 0),ld b1 1 (vI 0)] ⟨hS18.c 0,hS18.c 0,trivial⟩ ⟨(.slice Z1 r2.length cz1),rfl,hS20⟩)
 rw [if_neg hc1] at h
 refine wk 10 (r1.Code != 0) true (bne_iff_ne.2 hc1)<|wt<|ws fun K10 hK10=>we_draws (by kernel_rfl) [(0,0),(1,0),(2,2)] (by kernel_rfl) ?_
 have hS21:=hS6.drew
 refine gb [0,1] [(2,.slice none 0 0),(11,.agg #[vI r1.Code,vI r1.At])] [ld b2 0 (vI r1.Code),ld b2 1 (vI r1.At)] ⟨hS21.c 0,hS21.c 0,trivial⟩ ?_
 have hS22:=hS21.b 1
 refine gs b1 0 #[vI 0,vI 0] 40 [vI r1.Code,vI r1.At] hS22 fun w9 hS23=>?_
 have hS24:=hS23.nc #[vI r1.Code,vI r1.At] (by kernel_rfl)
 refine gn hK10 ?_
 have hS25:=hS24.nil (α:=SIns) 29
 have hS26:=hS25.takeN 1
 obtain rfl:=si h
 exact we_ret (pr [.tmp 2,.cell 3 40] [(.slice none 0 0),.agg #[vI r1.Code,vI r1.At]] [ld b1 0 (vI r1.Code),ld b1 1 (vI r1.At)] ⟨hS25.c 1,hS25.c 1,trivial⟩ ⟨(.slice none 0 0),rfl,hS26⟩)

/-! punctual/punctualsame.twinExpr -/
abbrev punctualsame_twinExpr.Post (w0:World) (Z:Zone) (r:SExpr) (e:Ending) (w:World):Prop:=∃ (A2:OA) (c2:Nat) (ft:List Nat) (wf:World),e=.returned (.agg #[vI r.Kind,vI r.N,.slice A2 r.A.length c2])∧r.A.length≤c2∧RdZ (Zand Z wf) A2 r.A∧St w0 w [Own.frz ft wf]
abbrev punctualsame_twinExpr.Rec (rec_punctualsame_twinExpr:Int→Int→(List SExpr)→Option SExpr):Prop:=∀ (Z:Zone) (x0_0:Int) (x0_1:Int) (l0_2:List SExpr) (A0_2:OA) (c0_2:Nat) (w0:World) (hZ:∀ w,Sub w0 w→Z w) (hR0_2:RdZ Z A0_2 l0_2) (hL0_2:l0_2.length≤c0_2) (r:SExpr) (h:rec_punctualsame_twinExpr x0_0 x0_1 l0_2=some r),Calls Try.prog 53 #[.agg #[vI x0_0,vI x0_1,.slice A0_2 l0_2.length c0_2]] w0 (punctualsame_twinExpr.Post w0 Z r)
def punctualsame_twinExpr.r0 (l0_2 : List SExpr) (rec_punctualsame_twinExpr : Int → Int → (List SExpr) → Option SExpr) : (List SExpr) × Nat → Option (((List SExpr) × Nat) ⊕ ((List SExpr) ⊕ SExpr))
 | (m1,i1) =>
  if (i1:Int)<(l0_2.length:Int) then
   match l0_2[i1]? with
   | none=>none
   | some e1 =>
    match rec_punctualsame_twinExpr e1.Kind e1.N e1.A with
    | none=>none
    | some r1 =>
     if m1.length<3518437208883 then
      some (.inl ((m1++[r1]),(i1+1)))
     else
      none
  else
   some (.inr (.inl m1))
def punctualsame_twinExpr.b (K : Nat) (rec_punctualsame_twinExpr : Int → Int → (List SExpr) → Option SExpr) (x0_0 : Int) (x0_1 : Int) (l0_2 : List SExpr) : Option SExpr :=
 match iter (punctualsame_twinExpr.r0 l0_2 rec_punctualsame_twinExpr) K (([]:List SExpr),0) with
 | none=>none
 | some (.inl m3) =>
  some (⟨x0_0,x0_1,m3⟩:SExpr)
 | some (.inr rr1) =>
  some rr1
abbrev punctualsame_twinExpr.A0 (w0:World) (Z:Zone) (x0_0 x0_1:Int) (l0_2:List SExpr) (A0_2:OA) (c0_2:Nat) (wf1:World) (b1 b2:Nat):((List SExpr)×Nat)→Act→World→Prop:=fun (s:(List SExpr)×Nat) a w=>∃ (ft2:List Nat) (wf2:World) (v1:Value) (hds1:List HExpr),Sub wf1 wf2∧DRows (Zand Z wf2) hds1 s.1∧St w0 w [bk b2 #[vI 0,vI 0,.slice none 0 0] 45,bk b1 #[vI x0_0,vI x0_1,.slice A0_2 l0_2.length c0_2] 45,Own.of v1 45 hds1,Own.frz ft2 wf2]∧Frm 22 a [(1,pP b1 0),(2,pP b2 0),(3,v1),(7,.slice A0_2 l0_2.length c0_2),(8,vI (l0_2.length:Int)),(9,vI (s.2:Int))]
abbrev punctualsame_twinExpr.B0 (w0:World) (Z:Zone) (x0_0 x0_1:Int) (l0_2:List SExpr) (A0_2:OA) (c0_2:Nat) (wf1:World) (b1 b2:Nat):((List SExpr) ⊕ SExpr)→Exit→Act→World→Prop:=Exits 0 (fun (s:(List SExpr)) a w=>∃ (ft3:List Nat) (wf3:World) (v2:Value) (hds2:List HExpr),Sub wf1 wf3∧DRows (Zand Z wf3) hds2 s∧St w0 w [bk b2 #[vI 0,vI 0,.slice none 0 0] 45,bk b1 #[vI x0_0,vI x0_1,.slice A0_2 l0_2.length c0_2] 45,Own.of v2 45 hds2,Own.frz ft3 wf3]∧Frm 22 a [(1,pP b1 0),(2,pP b2 0),(3,v2)]) (Rets Try.prog Try.f53 (punctualsame_twinExpr.Post w0 Z))
theorem punctualsame_twinExpr_r0 (K:Nat) (w0:World) (Z:Zone) (x0_0 x0_1:Int) (l0_2:List SExpr) (A0_2:OA) (c0_2:Nat) (hZ:∀ w,Sub w0 w→Z w) (hR0_2:RdZ Z A0_2 l0_2) (hL0_2:l0_2.length≤c0_2) (rec_punctualsame_twinExpr:Int→Int→(List SExpr)→Option SExpr) (hr_punctualsame_twinExpr:punctualsame_twinExpr.Rec rec_punctualsame_twinExpr) (ft1:List Nat) (wf1:World) (b1 b2:Nat) (s:(List SExpr)×Nat) (o:((List SExpr)×Nat) ⊕ ((List SExpr) ⊕ SExpr)) (h:punctualsame_twinExpr.r0 l0_2 rec_punctualsame_twinExpr s=some o) (a:Act) (w:World) (hA:punctualsame_twinExpr.A0 w0 Z x0_0 x0_1 l0_2 A0_2 c0_2 wf1 b1 b2 s a w) (Q:Exit→Act→World→Prop) (hQ:∀ x a w,Outs (punctualsame_twinExpr.A0 w0 Z x0_0 x0_1 l0_2 A0_2 c0_2 wf1 b1 b2) (punctualsame_twinExpr.B0 w0 Z x0_0 x0_1 l0_2 A0_2 c0_2 wf1 b1 b2) o x a w→Q x a w):(subF Try.f53 [1,1,0,1,0,0]).wp Try.prog Q a w:=by
 obtain ⟨m1,i1⟩:=s
 obtain ⟨ft2,wf2,v1,hds1,hsb1,hd1,hS,hF⟩:=hA
 replace hS:St w0 w [bk b2 #[vI 0,vI 0,.slice none 0 0] 45,bk b1 #[vI x0_0,vI x0_1,.slice A0_2 l0_2.length c0_2] 45,Own.of v1 45 hds1,Own.frz ft2 wf2]:=hS
 simp only [punctualsame_twinExpr.r0] at h
 refine (?_:WE Try.prog 22 (subF Try.f53 [1,1,0,1,0,0]) Q [(1,pP b1 0),(2,pP b2 0),(3,v1),(7,.slice A0_2 l0_2.length c0_2),(8,vI (l0_2.length:Int)),(9,vI (i1:Int))] w) a hF
 clear hF a
 refine ws fun K5 hK5=>wr [(0,0)]<|gb0 [0] [(10,.bool (decide ((i1:Int)<(l0_2.length:Int))))]<|gn hK5<|ws fun K6 hK6=>?_
 by_cases hc1:(i1:Int)<(l0_2.length:Int)
 ·rw [if_pos hc1] at h
  refine wk 10 (decide ((i1:Int)<(l0_2.length:Int))) true (decide_eq_true hc1)<|wt<|we_skip fun a hF=>hK6 _ _ ?_ a hF
  refine ws fun K7 hK7=>we_block<|ws fun K8 hK8=>wr [(0,0),(1,0),(2,1),(3,2)] ?_
  rcases hx3:l0_2[i1]? with _ | e1
  ·rw [hx3] at h; cases h
  rw [hx3] at h
  simp only [] at h
  obtain ⟨An1,cn1,hCs1,hLn1,hRn1⟩:=SExpr.getZ hR0_2 hx3
  refine gi 11 0 43 45 3 l0_2.length c0_2 (.tmp 7) (.tmp 9) A0_2 .i64 (i1:Int) i1 (hR0_2.eqSome (hZ _ hS.subw) (pos_of_get hx3)) rfl (lt_of_get hx3) ?_
  refine gb [1] [(12,.agg #[vI e1.Kind,vI e1.N,.slice An1 e1.A.length cn1])] [.loaded ⟨blkOf A0_2,offOf A0_2+i1*3,none⟩ (vI e1.Kind),.loaded ⟨blkOf A0_2,offOf A0_2+i1*3+1,none⟩ (vI e1.N),.loaded ⟨blkOf A0_2,offOf A0_2+i1*3+2,none⟩ (.slice An1 e1.A.length cn1)] ⟨hCs1 _ (hZ _ hS.subw) 0 _ rfl,hCs1 _ (hZ _ hS.subw) 1 _ rfl,hCs1 _ (hZ _ hS.subw) 2 _ rfl,trivial⟩<|gw (some 5) (.cells #[vI 0,vI 0,.slice none 0 0] 45) (fun b=>pP b 0) hS fun b3 w3 hx4 hS9=>?_
  refine gs b3 0 #[vI 0,vI 0,.slice none 0 0] 45 [vI e1.Kind,vI e1.N,.slice An1 e1.A.length cn1] hS9 fun w4 hS10=>?_
  have hS11:=hS10.nc #[vI e1.Kind,vI e1.N,.slice An1 e1.A.length cn1] (by kernel_rfl)
  refine gn hK8<|wr [(0,0),(1,0),(2,1),(3,1),(4,2),(5,0)] ?_
  rcases hq1:rec_punctualsame_twinExpr e1.Kind e1.N e1.A with _ | r1
  ·rw [hq1] at h; cases h
  rw [hq1] at h
  simp only [] at h
  refine gb [0,1] [(14,.agg #[vI e1.Kind,vI e1.N,.slice An1 e1.A.length cn1]),(13,v1)] [ld b3 0 (vI e1.Kind),ld b3 1 (vI e1.N),ld b3 2 (.slice An1 e1.A.length cn1)] ⟨hS11.c 0,hS11.c 0,hS11.c 0,trivial⟩<|ge_call (d:=some 15) (f:=53) (args:=#[.agg #[vI e1.Kind,vI e1.N,.slice An1 e1.A.length cn1]]) (by kernel_rfl) (hr_punctualsame_twinExpr (Zand Z wf2) e1.Kind e1.N e1.A An1 cn1 _ (fun w' k=>⟨(hZ w' (hS11.subw.trans k)),(hS11.frzSub 4 rfl).trans k⟩) (hRn1.up (ZLe.in _ _)) hLn1 _ hq1) ?_
  rintro _ w5 ⟨A1,c1,ft4,wf4,rfl,hL1,hR1,hS12⟩
  refine ⟨_,rfl,hS12.below,?_⟩
  have hS15:=((hS11.call hS12).b 5).b 1
  obtain ⟨ft5,wf5,hsb3,hsb4,hS16⟩:=hS15.frzMerge
  replace hR1:RdZ (Zand Z wf5) A1 r1.A:=hR1.up (ZLe.both hsb4 hsb3)
  refine gw (some 16) (.cells #[vI r1.Kind,vI r1.N,.slice A1 r1.A.length c1] 45) (fun b=>.slice (some ⟨b,0,none⟩) 1 1) hS16 fun b4 w6 hx5 hS17=>?_
  have hS18:=hS17.b 5
  by_cases hc2:m1.length<3518437208883
  ·rw [if_pos hc2] at h
   have hd3:DRows (Zand Z wf5) (hds1++[(⟨r1.Kind,r1.N,⟨A1,r1.A.length,c1⟩⟩:HExpr)]) (m1++[r1]):=DRows.add (hd1.up (ZLe.up hsb4)) (SExpr.mkZ r1 hL1 hR1)
   refine ge_append (α:=HExpr) (m:=0) (d:=17) (t:=43) (el:=45) (bytes:=40) (c1:=1) (b1:=b4) (x:=(.tmp 13)) (y:=(.tmp 16)) (ty:=43) (v:=v1) (z:=.agg #[vI 0,vI 0,.slice none 0 0]) (l:=hds1) (u:=(⟨r1.Kind,r1.N,⟨A1,r1.A.length,c1⟩⟩:HExpr)) (by kernel_rfl) (by kernel_rfl) (by kernel_rfl) (by kernel_rfl) (by kernel_rfl) rfl hS18 rfl (by have h0:hds1.length=m1.length:=DRows.len (hd1.up (ZLe.up hsb4)); omega) fun v3 w7 hS19=>?_
   refine gb0 [5] [(3,v3)]<|gn hK7<|wr [(0,0),(1,0)]<|ge_addn (d:=18) (ty:=3) (x:=(.tmp 9)) (y:=(.const (vI 1))) (t:=3) (t2:=3) (k:=.i64) (m:=i1) (by kernel_rfl) (by kernel_rfl) (by kernel_rfl) (by have h0:=RdZ.small hR0_2 (hZ _ hS19.subw); omega) ?_
   refine gb0 [1] [(9,vI ((i1+1:Nat):Int))] ?_
   have hS24:=hS19.p [3,4,0,1] rfl
   obtain rfl:=si h
   exact ge_nil fun a hF=>hQ _ _ _ (Outs.again ⟨ft5,wf5,v3,(hds1++[(⟨r1.Kind,r1.N,⟨A1,r1.A.length,c1⟩⟩:HExpr)]),(hsb1.trans hsb4),hd3,hS24,hF.weaken ea⟩)
  rw [if_neg hc2] at h
  cases h
 rw [if_neg hc1] at h
 refine wk 10 (decide ((i1:Int)<(l0_2.length:Int))) false (decide_eq_false hc1)<|wf ?_
 have hS28:=(((hS.b 3).b 3).b 3).b 3
 obtain rfl:=si h
 exact we_exit fun a hF=>hQ _ _ _ (Outs.out nofun (Exits.here ⟨ft2,wf2,v1,hds1,hsb1,hd1,hS28,hF.weaken ea⟩))
theorem punctualsame_twinExpr_step (K:Nat) (rec_punctualsame_twinExpr:Int→Int→(List SExpr)→Option SExpr) (hr_punctualsame_twinExpr:punctualsame_twinExpr.Rec rec_punctualsame_twinExpr) (Z:Zone) (x0_0 x0_1:Int) (l0_2:List SExpr) (A0_2:OA) (c0_2:Nat) (w0:World) (hZ:∀ w,Sub w0 w→Z w) (hR0_2:RdZ Z A0_2 l0_2) (hL0_2:l0_2.length≤c0_2) (r:SExpr) (h:punctualsame_twinExpr.b K rec_punctualsame_twinExpr x0_0 x0_1 l0_2=some r) :
  Calls Try.prog 53 #[.agg #[vI x0_0,vI x0_1,.slice A0_2 l0_2.length c0_2]] w0 (punctualsame_twinExpr.Post w0 Z r):=by
 have hS:=St.start w0
 unfold punctualsame_twinExpr.b at h
 refine calls_enter (n:=22) (args:=[.agg #[vI x0_0,vI x0_1,.slice A0_2 l0_2.length c0_2]]) (fn:=Try.f53) rfl rfl rfl rfl ?_
 show WE _ _ _ _ [(0,.agg #[vI x0_0,vI x0_1,.slice A0_2 l0_2.length c0_2])] _
 obtain ⟨ft1,wf1,hS1⟩:=hS.frz0
 refine ws fun K1 hK1=>wr [(0,1),(1,1)]<|gw (some 1) (.cells #[vI x0_0,vI x0_1,.slice A0_2 l0_2.length c0_2] 45) (fun b=>pP b 0) hS1 fun b1 w1 hx1 hS2=>?_
 refine gw (some 2) (.cells #[vI 0,vI 0,.slice none 0 0] 45) (fun b=>pP b 0) hS2 fun b2 w2 hx2 hS3=>?_
 refine gn hK1<|ws fun K2 hK2=>wr [(0,0)]<|gb0 [0] [(3,.slice none 0 0)]<|gn hK2<|ws fun K3 hK3=>ws fun K4 hK4=>wr [(0,0),(1,0),(2,0),(3,0)]<|gb [0,1,2,3] [(9,vI 0),(8,vI (l0_2.length:Int)),(7,.slice A0_2 l0_2.length c0_2),(6,pP b1 2)] [ld b1 2 (.slice A0_2 l0_2.length c0_2)] ⟨hS3.c 1,trivial⟩<|gn hK4<|we_block ?_
 have hS8:=((((hS3.nil (α:=HExpr) 45).b 3).b 1).b 3).b 3
 rcases hq2:iter (punctualsame_twinExpr.r0 l0_2 rec_punctualsame_twinExpr) K (([]:List SExpr),0) with _ | (m3 | rr1)
 ·rw [hq2] at h; cases h
 ·rw [hq2] at h
  simp only [] at h
  refine we_iter (A:=punctualsame_twinExpr.A0 w0 Z x0_0 x0_1 l0_2 A0_2 c0_2 wf1 b1 b2) (B:=punctualsame_twinExpr.B0 w0 Z x0_0 x0_1 l0_2 A0_2 c0_2 wf1 b1 b2) hq2 (fun a hF=>⟨ft1,wf1,(.slice none 0 0),([]:List HExpr),(Sub.refl _),(DRows.nil _),hS8,hF.weaken ea⟩) (fun s o hf a w hA Q hQ=>punctualsame_twinExpr_r0 K w0 Z x0_0 x0_1 l0_2 A0_2 c0_2 hZ hR0_2 hL0_2 rec_punctualsame_twinExpr hr_punctualsame_twinExpr ft1 wf1 b1 b2 s o hf a w hA Q hQ) ?_
  rintro _ a w8 _ ⟨rfl,ft6,wf6,v4,hds3,hRz1,hRz2,hS29,hF⟩
  replace hS29:St w0 w8 [bk b2 #[vI 0,vI 0,.slice none 0 0] 45,bk b1 #[vI x0_0,vI x0_1,.slice A0_2 l0_2.length c0_2] 45,Own.of v4 45 hds3,Own.frz ft6 wf6]:=hS29
  refine hK3 [(1,pP b1 0),(2,pP b2 0),(3,v4)] w8 ?_ a hF
  refine ws fun K9 hK9=>wr [(0,0),(1,0),(2,2)]<|gb0 [0,1] [(20,pP b1 2),(19,v4)] ?_
  obtain ⟨Z1,cz1,rfl⟩:=hS29.dopen 2 rfl hRz2
  have hS31:=(hS29.b 3).b 3
  obtain ⟨ft7,wf7,hsb5,-,hRd1,hLd1,hS32⟩:=hS31.dfrz (Z:=Z) hRz2
  have hS33:=hS32.b 2
  refine gs b1 2 #[vI x0_0,vI x0_1,.slice A0_2 l0_2.length c0_2] 45 [.slice Z1 m3.length cz1] hS33 fun w9 hS34=>?_
  have hS35:=hS34.nc #[vI x0_0,vI x0_1,.slice Z1 m3.length cz1] (by kernel_rfl)
  refine gn hK9<|ws fun K10 hK10=>wr [(0,0),(1,2)]<|gb [0] [(21,.agg #[vI x0_0,vI x0_1,.slice Z1 m3.length cz1])] [ld b1 0 (vI x0_0),ld b1 1 (vI x0_1),ld b1 2 (.slice Z1 m3.length cz1)] ⟨hS35.c 0,hS35.c 0,hS35.c 0,trivial⟩ ?_
  have hS36:=hS35.b 2
  refine gs b2 0 #[vI 0,vI 0,.slice none 0 0] 45 [vI x0_0,vI x0_1,.slice Z1 m3.length cz1] hS36 fun w10 hS37=>?_
  have hS38:=hS37.nc #[vI x0_0,vI x0_1,.slice Z1 m3.length cz1] (by kernel_rfl)
  refine gn hK10 ?_
  have hS40:=hS38.p [2] rfl
  obtain rfl:=si h
  exact we_ret (pr [.cell 2 45] [.agg #[vI x0_0,vI x0_1,.slice Z1 m3.length cz1]] [ld b2 0 (vI x0_0),ld b2 1 (vI x0_1),ld b2 2 (.slice Z1 m3.length cz1)] ⟨hS38.c 0,hS38.c 0,hS38.c 0,trivial⟩ ⟨Z1,cz1,ft7,wf7,rfl,hLd1,hRd1,hS40⟩)
 rw [hq2] at h
 simp only [] at h
 refine we_iter (A:=punctualsame_twinExpr.A0 w0 Z x0_0 x0_1 l0_2 A0_2 c0_2 wf1 b1 b2) (B:=punctualsame_twinExpr.B0 w0 Z x0_0 x0_1 l0_2 A0_2 c0_2 wf1 b1 b2) hq2 (fun a hF=>⟨ft1,wf1,(.slice none 0 0),([]:List HExpr),(Sub.refl _),(DRows.nil _),hS8,hF.weaken ea⟩) (fun s o hf a w hA Q hQ=>punctualsame_twinExpr_r0 K w0 Z x0_0 x0_1 l0_2 A0_2 c0_2 hZ hR0_2 hL0_2 rec_punctualsame_twinExpr hr_punctualsame_twinExpr ft1 wf1 b1 b2 s o hf a w hA Q hQ) ?_
 rintro _ a w1 _ ⟨rfl,hb⟩
 obtain rfl:=si h
 exact hb
def punctualsame_twinExpr.recs (K : Nat) : Nat → (Int → Int → (List SExpr) → Option SExpr)
 | 0=>fun _ _ _=>none
 | n+1=>punctualsame_twinExpr.b K (punctualsame_twinExpr.recs K n)
theorem punctualsame_twinExpr_all (K n:Nat):punctualsame_twinExpr.Rec (punctualsame_twinExpr.recs K n):=by
 induction n with
 | zero=>exact (by unfold punctualsame_twinExpr.Rec; intros; rename_i h; cases (show none=some _ from h))
 | succ n ih=>exact punctualsame_twinExpr_step K _ ih
def punctualsame_twinExpr.f (K : Nat) (x0_0 : Int) (x0_1 : Int) (l0_2 : List SExpr) : Option SExpr := (punctualsame_twinExpr.recs K K) x0_0 x0_1 l0_2
theorem punctualsame_twinExpr_ok (K:Nat) (Z:Zone) (x0_0 x0_1:Int) (l0_2:List SExpr) (A0_2:OA) (c0_2:Nat) (w0:World) (hZ:∀ w,Sub w0 w→Z w) (hR0_2:RdZ Z A0_2 l0_2) (hL0_2:l0_2.length≤c0_2) (r:SExpr) (h:punctualsame_twinExpr.f K x0_0 x0_1 l0_2=some r):Calls Try.prog 53 #[.agg #[vI x0_0,vI x0_1,.slice A0_2 l0_2.length c0_2]] w0 (punctualsame_twinExpr.Post w0 Z r):=(punctualsame_twinExpr_all K K) Z x0_0 x0_1 l0_2 A0_2 c0_2 w0 hZ hR0_2 hL0_2 r h

/-! punctual/punctualsame.Twin -/
abbrev punctualsame_Twin.Post (w0:World) (Z:Zone) (r:List SStmt) (e:Ending) (w:World):Prop:=∃ (v1:Value) (hds1:List HStmt) (ft:List Nat) (wf:World),e=.returned (v1)∧DRows (Zand Z wf) hds1 r∧St w0 w [Own.of v1 49 hds1,Own.frz ft wf]
abbrev punctualsame_Twin.Rec (rec_punctualsame_Twin:(List SStmt)→Option (List SStmt)):Prop:=∀ (Z:Zone) (l0:List SStmt) (A0:OA) (c0:Nat) (w0:World) (hZ:∀ w,Sub w0 w→Z w) (hR0:RdZ Z A0 l0) (hL0:l0.length≤c0) (r:List SStmt) (h:rec_punctualsame_Twin l0=some r),Calls Try.prog 25 #[.slice A0 l0.length c0] w0 (punctualsame_Twin.Post w0 Z r)
def punctualsame_Twin.p1 (K : Nat) (e1 : SStmt) : Option ((Int × Int × (List SExpr) × Int × Int × (List SExpr) × Int × Int × (List SExpr)) ⊕ (List SStmt)) :=
  match punctualsame_twinExpr.f K e1.E.Kind e1.E.N e1.E.A with
  | none=>none
  | some r1 =>
   match punctualsame_twinExpr.f K e1.If.A.Kind e1.If.A.N e1.If.A.A with
   | none=>none
   | some r2 =>
    match punctualsame_twinExpr.f K e1.If.B.Kind e1.If.B.N e1.If.B.A with
    | none=>none
    | some r3 =>
     some (.inl (r1.Kind,r1.N,r1.A,r2.Kind,r2.N,r2.A,r3.Kind,r3.N,r3.A))
def punctualsame_Twin.r0 (K : Nat) (l0 : List SStmt) (rec_punctualsame_Twin : (List SStmt) → Option (List SStmt)) : (List SStmt) × Nat → Option (((List SStmt) × Nat) ⊕ ((List SStmt) ⊕ (List SStmt)))
 | (m1,i1) =>
  if (i1:Int)<(l0.length:Int) then
   match l0[i1]? with
   | none=>none
   | some e1 =>
    match punctualsame_Twin.p1 K e1 with
    | none=>none
    | some (.inl (z7,z8,m6,z9,z10,m7,z11,z12,m8)) =>
     match rec_punctualsame_Twin e1.Body with
     | none=>none
     | some r4 =>
      match rec_punctualsame_Twin e1.Else with
      | none=>none
      | some r5 =>
       if m1.length<733007751850 then
        some (.inl ((m1++[(⟨e1.Kind,e1.N,(⟨z7,z8,m6⟩:SExpr),(⟨e1.If.Kind,(⟨z9,z10,m7⟩:SExpr),(⟨z11,z12,m8⟩:SExpr)⟩:SCond),r4,r5⟩:SStmt)]),(i1+1)))
       else
        none
    | some (.inr rr1) =>
     some (.inr (.inr rr1))
  else
   some (.inr (.inl m1))
def punctualsame_Twin.b (K : Nat) (rec_punctualsame_Twin : (List SStmt) → Option (List SStmt)) (l0 : List SStmt) : Option (List SStmt) :=
 match iter (punctualsame_Twin.r0 K l0 rec_punctualsame_Twin) K (([]:List SStmt),0) with
 | none=>none
 | some (.inl m9) =>
  some m9
 | some (.inr rr2) =>
  some rr2
abbrev punctualsame_Twin.A1 (w0:World) (Z:Zone) (l0:List SStmt) (A0:OA) (c0:Nat) (wf2:World) (v1:Value) (hds1:List HStmt) (i1:Nat) (e1:SStmt) (An4:OA) (cn4:Nat) (An5:OA) (cn5 b1:Nat):(Int×Int×(List SExpr)×Int×Int×(List SExpr)×Int×Int×(List SExpr))→Act→World→Prop:=fun (s:Int×Int×(List SExpr)×Int×Int×(List SExpr)×Int×Int×(List SExpr)) a w=>∃ (ft4:List Nat) (wf4:World) (Z1:OA) (cz1:Nat) (Z2:OA) (cz2:Nat) (Z3:OA) (cz3:Nat),Sub wf2 wf4∧RdZ (Zand Z wf4) Z1 s.2.2.1∧s.2.2.1.length≤cz1∧RdZ (Zand Z wf4) Z2 s.2.2.2.2.2.1∧s.2.2.2.2.2.1.length≤cz2∧RdZ (Zand Z wf4) Z3 s.2.2.2.2.2.2.2.2∧s.2.2.2.2.2.2.2.2.length≤cz3∧St w0 w [bk b1 #[vI e1.Kind,vI e1.N,vI s.1,vI s.2.1,.slice Z1 s.2.2.1.length cz1,vI e1.If.Kind,vI s.2.2.2.1,vI s.2.2.2.2.1,.slice Z2 s.2.2.2.2.2.1.length cz2,vI s.2.2.2.2.2.2.1,vI s.2.2.2.2.2.2.2.1,.slice Z3 s.2.2.2.2.2.2.2.2.length cz3,.slice An4 e1.Body.length cn4,.slice An5 e1.Else.length cn5] 49,Own.of v1 49 hds1,Own.frz ft4 wf4]∧Frm 42 a [(3,v1),(5,pP b1 0),(6,.slice A0 l0.length c0),(7,vI (l0.length:Int)),(8,vI (i1:Int))]
abbrev punctualsame_Twin.B1 (w0:World) (Z:Zone):(List SStmt)→Exit→Act→World→Prop:=Rets Try.prog Try.f25 (punctualsame_Twin.Post w0 Z)
theorem punctualsame_Twin_p1 (K:Nat) (w0:World) (Z:Zone) (l0:List SStmt) (A0:OA) (c0:Nat) (hZ:∀ w,Sub w0 w→Z w) (hR0:RdZ Z A0 l0) (hL0:l0.length≤c0) (rec_punctualsame_Twin:(List SStmt)→Option (List SStmt)) (hr_punctualsame_Twin:punctualsame_Twin.Rec rec_punctualsame_Twin) (ft1:List Nat) (wf1:World) (ft2:List Nat) (wf2:World) (m1:List SStmt) (v1:Value) (hds1:List HStmt) (i1:Nat) (hsb1:Sub wf1 wf2) (hd1:DRows (Zand Z wf2) hds1 m1) (hc1:(i1:Int)<(l0.length:Int)) (e1:SStmt) (hx1:l0[i1]?=some e1) (An1:OA) (cn1:Nat) (An2:OA) (cn2:Nat) (An3:OA) (cn3:Nat) (An4:OA) (cn4:Nat) (An5:OA) (cn5:Nat) (hCs1:CellsAt Z A0 (i1*14) [vI e1.Kind,vI e1.N,vI e1.E.Kind,vI e1.E.N,.slice An1 e1.E.A.length cn1,vI e1.If.Kind,vI e1.If.A.Kind,vI e1.If.A.N,.slice An2 e1.If.A.A.length cn2,vI e1.If.B.Kind,vI e1.If.B.N,.slice An3 e1.If.B.A.length cn3,.slice An4 e1.Body.length cn4,.slice An5 e1.Else.length cn5]) (hLn1:e1.E.A.length≤cn1) (hRn1:RdZ Z An1 e1.E.A) (hLn2:e1.If.A.A.length≤cn2) (hRn2:RdZ Z An2 e1.If.A.A) (hLn3:e1.If.B.A.length≤cn3) (hRn3:RdZ Z An3 e1.If.B.A) (hLn4:e1.Body.length≤cn4) (hRn4:RdZ Z An4 e1.Body) (hLn5:e1.Else.length≤cn5) (hRn5:RdZ Z An5 e1.Else) (b1:Nat) (o:(Int×Int×(List SExpr)×Int×Int×(List SExpr)×Int×Int×(List SExpr)) ⊕ (List SStmt)) (h:punctualsame_Twin.p1 K e1=some o) (w:World) (hS:St w0 w [bk b1 #[vI e1.Kind,vI e1.N,vI e1.E.Kind,vI e1.E.N,.slice An1 e1.E.A.length cn1,vI e1.If.Kind,vI e1.If.A.Kind,vI e1.If.A.N,.slice An2 e1.If.A.A.length cn2,vI e1.If.B.Kind,vI e1.If.B.N,.slice An3 e1.If.B.A.length cn3,.slice An4 e1.Body.length cn4,.slice An5 e1.Else.length cn5] 49,Own.of v1 49 hds1,Own.frz ft2 wf2]) (Q:Exit→Act→World→Prop) (hQ:∀ x a w,Outs (punctualsame_Twin.A1 w0 Z l0 A0 c0 wf2 v1 hds1 i1 e1 An4 cn4 An5 cn5 b1) (punctualsame_Twin.B1 w0 Z) o x a w→Q x a w):WE Try.prog 42 (subF Try.f25 [1,1,0,1,0,0,1,1,0,0,1,0]) Q [(3,v1),(5,pP b1 0),(6,.slice A0 l0.length c0),(7,vI (l0.length:Int)),(8,vI (i1:Int)),(9,.bool true),(10,.pointer (some ⟨blkOf A0,offOf A0+i1*14,none⟩)),(11,.agg #[vI e1.Kind,vI e1.N,vI e1.E.Kind,vI e1.E.N,.slice An1 e1.E.A.length cn1,vI e1.If.Kind,vI e1.If.A.Kind,vI e1.If.A.N,.slice An2 e1.If.A.A.length cn2,vI e1.If.B.Kind,vI e1.If.B.N,.slice An3 e1.If.B.A.length cn3,.slice An4 e1.Body.length cn4,.slice An5 e1.Else.length cn5])] w:=by
 simp only [punctualsame_Twin.p1] at h
 refine we_orders3 (by kernel_rfl) [(1,[⟨b1,2,none⟩,⟨b1,3,none⟩,⟨b1,4,none⟩],[2,6,10],[]),(5,[⟨b1,6,none⟩,⟨b1,7,none⟩,⟨b1,8,none⟩],[6,10],[]),(9,[⟨b1,9,none⟩,⟨b1,10,none⟩,⟨b1,11,none⟩],[],[])] (.vals [0] (.vals [1] (.vals [3] (.vals [4] (.vals [5] (.vals [7] (.vals [8] (.vals [9] (.alt 2 1 (.vals [11] (.alt 6 1 (.alt 10 1 (.alt 12 2 (.vals [13] (.vals [14] (.alt 15 2 (.vals [16] (.vals [17] (.alt 18 2 .fin .nomore))) .nomore))) .nomore) .nomore) .nomore)) .nomore))))))))) (by kernel_rfl) (by kernel_rfl) ?_
 have hS8:=hS.drew
 refine g30 [0] [(12,pP b1 2)]<|g3 1 [(13,.agg #[vI e1.E.Kind,vI e1.E.N,.slice An1 e1.E.A.length cn1])] [ld b1 2 (vI e1.E.Kind),ld b1 3 (vI e1.E.N),ld b1 4 (.slice An1 e1.E.A.length cn1)] ⟨hS8.c 0,hS8.c 0,hS8.c 0,trivial⟩<|g30 [3,4] [(16,pP b1 6),(15,pP b1 5)]<|g3 5 [(17,.agg #[vI e1.If.A.Kind,vI e1.If.A.N,.slice An2 e1.If.A.A.length cn2])] [ld b1 6 (vI e1.If.A.Kind),ld b1 7 (vI e1.If.A.N),ld b1 8 (.slice An2 e1.If.A.A.length cn2)] ⟨hS8.c 0,hS8.c 0,hS8.c 0,trivial⟩<|g30 [7,8] [(20,pP b1 9),(19,pP b1 5)]<|g3 9 [(21,.agg #[vI e1.If.B.Kind,vI e1.If.B.N,.slice An3 e1.If.B.A.length cn3])] [ld b1 9 (vI e1.If.B.Kind),ld b1 10 (vI e1.If.B.N),ld b1 11 (.slice An3 e1.If.B.A.length cn3)] ⟨hS8.c 0,hS8.c 0,hS8.c 0,trivial⟩<|go_alt3 (fun KK hKK=>?_) ?_
 ·refine ge_one2 ?_
  rcases hq1:punctualsame_twinExpr.f K e1.E.Kind e1.E.N e1.E.A with _ | r1
  ·rw [hq1] at h; cases h
  rw [hq1] at h
  simp only [] at h
  refine ge_call (d:=some 14) (f:=53) (args:=#[.agg #[vI e1.E.Kind,vI e1.E.N,.slice An1 e1.E.A.length cn1]]) (by kernel_rfl) (punctualsame_twinExpr_ok K (Zand Z wf2) e1.E.Kind e1.E.N e1.E.A An1 cn1 _ (fun w' k=>⟨(hZ w' (hS8.subw.trans k)),(hS8.frzSub 2 rfl).trans k⟩) (hRn1.up (ZLe.in _ _)) hLn1 _ hq1) ?_
  rintro _ w3 ⟨A1,c1,ft5,wf5,rfl,hL1,hR1,hS9⟩
  refine ⟨_,rfl,hS9.below,?_⟩
  have hS12:=((hS8.call hS9).b 3).b 1
  obtain ⟨ft6,wf6,hsb4,hsb5,hS13⟩:=hS12.frzMerge
  replace hR1:RdZ (Zand Z wf6) A1 r1.A:=hR1.up (ZLe.both hsb5 hsb4)
  refine ge_nil fun a hF=>hKK _ _ (RS.of2 (l:=[ld b1 6 (vI e1.If.A.Kind),ld b1 7 (vI e1.If.A.N),ld b1 8 (.slice An2 e1.If.A.A.length cn2),ld b1 9 (vI e1.If.B.Kind),ld b1 10 (vI e1.If.B.N),ld b1 11 (.slice An3 e1.If.B.A.length cn3)]) (by kernel_rfl) ⟨hS8.c 0,hS8.c 0,hS8.c 0,hS8.c 0,hS8.c 0,hS8.c 0,trivial⟩ ⟨hS13.c 1,hS13.c 1,hS13.c 1,hS13.c 1,hS13.c 1,hS13.c 1,trivial⟩) ?_ a hF
  refine g30 [11] [(23,pP b1 2)]<|go_alt3 (fun KK hKK=>?_) ?_
  ·refine ge_one2 ?_
   rcases hq2:punctualsame_twinExpr.f K e1.If.A.Kind e1.If.A.N e1.If.A.A with _ | r2
   ·rw [hq2] at h; cases h
   rw [hq2] at h
   simp only [] at h
   refine ge_call (d:=some 18) (f:=53) (args:=#[.agg #[vI e1.If.A.Kind,vI e1.If.A.N,.slice An2 e1.If.A.A.length cn2]]) (by kernel_rfl) (punctualsame_twinExpr_ok K (Zand Z wf6) e1.If.A.Kind e1.If.A.N e1.If.A.A An2 cn2 _ (fun w' k=>⟨(hZ w' (hS13.subw.trans k)),(hS13.frzSub 0 rfl).trans k⟩) (hRn2.up (ZLe.in _ _)) hLn2 _ hq2) ?_
   rintro _ w4 ⟨A2,c2,ft7,wf7,rfl,hL2,hR2,hS14⟩
   refine ⟨_,rfl,hS14.below,?_⟩
   have hS17:=((hS13.call hS14).b 1).b 1
   obtain ⟨ft8,wf8,hsb6,hsb7,hS18⟩:=hS17.frzMerge
   replace hR2:RdZ (Zand Z wf8) A2 r2.A:=hR2.up (ZLe.both hsb7 hsb6)
   refine ge_nil fun a hF=>hKK _ _ (RS.of2 (l:=[ld b1 9 (vI e1.If.B.Kind),ld b1 10 (vI e1.If.B.N),ld b1 11 (.slice An3 e1.If.B.A.length cn3)]) (by kernel_rfl) ⟨hS13.c 1,hS13.c 1,hS13.c 1,trivial⟩ ⟨hS18.c 1,hS18.c 1,hS18.c 1,trivial⟩) ?_ a hF
   refine go_alt3 (fun KK hKK=>?_) ?_
   ·refine ge_one2 ?_
    rcases hq3:punctualsame_twinExpr.f K e1.If.B.Kind e1.If.B.N e1.If.B.A with _ | r3
    ·rw [hq3] at h; cases h
    rw [hq3] at h
    simp only [] at h
    refine ge_call (d:=some 22) (f:=53) (args:=#[.agg #[vI e1.If.B.Kind,vI e1.If.B.N,.slice An3 e1.If.B.A.length cn3]]) (by kernel_rfl) (punctualsame_twinExpr_ok K (Zand Z wf8) e1.If.B.Kind e1.If.B.N e1.If.B.A An3 cn3 _ (fun w' k=>⟨(hZ w' (hS18.subw.trans k)),(hS18.frzSub 0 rfl).trans k⟩) (hRn3.up (ZLe.in _ _)) hLn3 _ hq3) ?_
    rintro _ w5 ⟨A3,c3,ft9,wf9,rfl,hL3,hR3,hS19⟩
    refine ⟨_,rfl,hS19.below,?_⟩
    have hS22:=((hS18.call hS19).b 1).b 1
    obtain ⟨ft10,wf10,hsb8,hsb9,hS23⟩:=hS22.frzMerge
    replace hR3:RdZ (Zand Z wf10) A3 r3.A:=hR3.up (ZLe.both hsb9 hsb8)
    refine g2 hKK<|go_alt3 (fun KK hKK=>?_) ?_
    ·have hS24:=hS23.b 1
     refine gs b1 2 #[vI e1.Kind,vI e1.N,vI e1.E.Kind,vI e1.E.N,.slice An1 e1.E.A.length cn1,vI e1.If.Kind,vI e1.If.A.Kind,vI e1.If.A.N,.slice An2 e1.If.A.A.length cn2,vI e1.If.B.Kind,vI e1.If.B.N,.slice An3 e1.If.B.A.length cn3,.slice An4 e1.Body.length cn4,.slice An5 e1.Else.length cn5] 49 [vI r1.Kind,vI r1.N,.slice A1 r1.A.length c1] hS24 fun w6 hS25=>?_
     have hS26:=hS25.nc #[vI e1.Kind,vI e1.N,vI r1.Kind,vI r1.N,.slice A1 r1.A.length c1,vI e1.If.Kind,vI e1.If.A.Kind,vI e1.If.A.N,.slice An2 e1.If.A.A.length cn2,vI e1.If.B.Kind,vI e1.If.B.N,.slice An3 e1.If.B.A.length cn3,.slice An4 e1.Body.length cn4,.slice An5 e1.Else.length cn5] (by kernel_rfl)
     refine g2 hKK<|g30 [13,14] [(25,pP b1 6),(24,pP b1 5)]<|go_alt3 (fun KK hKK=>?_) ?_
     ·refine gs b1 6 #[vI e1.Kind,vI e1.N,vI r1.Kind,vI r1.N,.slice A1 r1.A.length c1,vI e1.If.Kind,vI e1.If.A.Kind,vI e1.If.A.N,.slice An2 e1.If.A.A.length cn2,vI e1.If.B.Kind,vI e1.If.B.N,.slice An3 e1.If.B.A.length cn3,.slice An4 e1.Body.length cn4,.slice An5 e1.Else.length cn5] 49 [vI r2.Kind,vI r2.N,.slice A2 r2.A.length c2] hS26 fun w7 hS27=>?_
      have hS28:=hS27.nc #[vI e1.Kind,vI e1.N,vI r1.Kind,vI r1.N,.slice A1 r1.A.length c1,vI e1.If.Kind,vI r2.Kind,vI r2.N,.slice A2 r2.A.length c2,vI e1.If.B.Kind,vI e1.If.B.N,.slice An3 e1.If.B.A.length cn3,.slice An4 e1.Body.length cn4,.slice An5 e1.Else.length cn5] (by kernel_rfl)
      refine g2 hKK<|g30 [16,17] [(27,pP b1 9),(26,pP b1 5)]<|go_alt3 (fun KK hKK=>?_) ?_
      ·refine gs b1 9 #[vI e1.Kind,vI e1.N,vI r1.Kind,vI r1.N,.slice A1 r1.A.length c1,vI e1.If.Kind,vI r2.Kind,vI r2.N,.slice A2 r2.A.length c2,vI e1.If.B.Kind,vI e1.If.B.N,.slice An3 e1.If.B.A.length cn3,.slice An4 e1.Body.length cn4,.slice An5 e1.Else.length cn5] 49 [vI r3.Kind,vI r3.N,.slice A3 r3.A.length c3] hS28 fun w8 hS29=>?_
       have hS30:=hS29.nc #[vI e1.Kind,vI e1.N,vI r1.Kind,vI r1.N,.slice A1 r1.A.length c1,vI e1.If.Kind,vI r2.Kind,vI r2.N,.slice A2 r2.A.length c2,vI r3.Kind,vI r3.N,.slice A3 r3.A.length c3,.slice An4 e1.Body.length cn4,.slice An5 e1.Else.length cn5] (by kernel_rfl)
       refine g2 hKK ?_
       have hS33:=((hS30.b 1).b 2).b 2
       obtain rfl:=si h
       exact go_fin3 fun a hF=>hQ _ _ _ (Outs.again ⟨ft10,wf10,A1,c1,A2,c2,A3,c3,((hsb5.trans hsb7).trans hsb9),(hR1.up (ZLe.up (hsb7.trans hsb9))),hL1,(hR2.up (ZLe.up hsb9)),hL2,hR3,hL3,hS33,hF.weaken ea⟩)
      exact go_nomore3
     exact go_nomore3
    exact go_nomore3
   exact go_nomore3
  exact go_nomore3
 exact go_nomore3
abbrev punctualsame_Twin.A0 (w0:World) (Z:Zone) (l0:List SStmt) (A0:OA) (c0:Nat) (wf1:World):((List SStmt)×Nat)→Act→World→Prop:=fun (s:(List SStmt)×Nat) a w=>∃ (ft2:List Nat) (wf2:World) (v1:Value) (hds1:List HStmt),Sub wf1 wf2∧DRows (Zand Z wf2) hds1 s.1∧St w0 w [Own.of v1 49 hds1,Own.frz ft2 wf2]∧Frm 42 a [(3,v1),(6,.slice A0 l0.length c0),(7,vI (l0.length:Int)),(8,vI (s.2:Int))]
abbrev punctualsame_Twin.B0 (w0:World) (Z:Zone) (wf1:World):((List SStmt) ⊕ (List SStmt))→Exit→Act→World→Prop:=Exits 0 (fun (s:(List SStmt)) a w=>∃ (ft3:List Nat) (wf3:World) (v2:Value) (hds2:List HStmt),Sub wf1 wf3∧DRows (Zand Z wf3) hds2 s∧St w0 w [Own.of v2 49 hds2,Own.frz ft3 wf3]∧Frm 42 a [(3,v2)]) (Rets Try.prog Try.f25 (punctualsame_Twin.Post w0 Z))
theorem punctualsame_Twin_r0 (K:Nat) (w0:World) (Z:Zone) (l0:List SStmt) (A0:OA) (c0:Nat) (hZ:∀ w,Sub w0 w→Z w) (hR0:RdZ Z A0 l0) (hL0:l0.length≤c0) (rec_punctualsame_Twin:(List SStmt)→Option (List SStmt)) (hr_punctualsame_Twin:punctualsame_Twin.Rec rec_punctualsame_Twin) (ft1:List Nat) (wf1:World) (s:(List SStmt)×Nat) (o:((List SStmt)×Nat) ⊕ ((List SStmt) ⊕ (List SStmt))) (h:punctualsame_Twin.r0 K l0 rec_punctualsame_Twin s=some o) (a:Act) (w:World) (hA:punctualsame_Twin.A0 w0 Z l0 A0 c0 wf1 s a w) (Q:Exit→Act→World→Prop) (hQ:∀ x a w,Outs (punctualsame_Twin.A0 w0 Z l0 A0 c0 wf1) (punctualsame_Twin.B0 w0 Z wf1) o x a w→Q x a w):(subF Try.f25 [1,1,0,1,0,0]).wp Try.prog Q a w:=by
 obtain ⟨m1,i1⟩:=s
 obtain ⟨ft2,wf2,v1,hds1,hsb1,hd1,hS,hF⟩:=hA
 replace hS:St w0 w [Own.of v1 49 hds1,Own.frz ft2 wf2]:=hS
 simp only [punctualsame_Twin.r0] at h
 refine (?_:WE Try.prog 42 (subF Try.f25 [1,1,0,1,0,0]) Q [(3,v1),(6,.slice A0 l0.length c0),(7,vI (l0.length:Int)),(8,vI (i1:Int))] w) a hF
 clear hF a
 refine ws fun K5 hK5=>wr [(0,0)]<|gb0 [0] [(9,.bool (decide ((i1:Int)<(l0.length:Int))))]<|gn hK5<|ws fun K6 hK6=>?_
 by_cases hc1:(i1:Int)<(l0.length:Int)
 ·rw [if_pos hc1] at h
  refine wk 9 (decide ((i1:Int)<(l0.length:Int))) true (decide_eq_true hc1)<|wt<|we_skip fun a hF=>hK6 _ _ ?_ a hF
  refine ws fun K7 hK7=>we_block<|ws fun K8 hK8=>wr [(0,0),(1,0),(2,1),(3,2)] ?_
  rcases hx1:l0[i1]? with _ | e1
  ·rw [hx1] at h; cases h
  rw [hx1] at h
  simp only [] at h
  obtain ⟨An1,cn1,An2,cn2,An3,cn3,An4,cn4,An5,cn5,hCs1,hLn1,hRn1,hLn2,hRn2,hLn3,hRn3,hLn4,hRn4,hLn5,hRn5⟩:=SStmt.getZ hR0 hx1
  refine gi 10 0 38 49 14 l0.length c0 (.tmp 6) (.tmp 8) A0 .i64 (i1:Int) i1 (hR0.eqSome (hZ _ hS.subw) (pos_of_get hx1)) rfl (lt_of_get hx1) ?_
  refine gb [1] [(11,.agg #[vI e1.Kind,vI e1.N,vI e1.E.Kind,vI e1.E.N,.slice An1 e1.E.A.length cn1,vI e1.If.Kind,vI e1.If.A.Kind,vI e1.If.A.N,.slice An2 e1.If.A.A.length cn2,vI e1.If.B.Kind,vI e1.If.B.N,.slice An3 e1.If.B.A.length cn3,.slice An4 e1.Body.length cn4,.slice An5 e1.Else.length cn5])] [.loaded ⟨blkOf A0,offOf A0+i1*14,none⟩ (vI e1.Kind),.loaded ⟨blkOf A0,offOf A0+i1*14+1,none⟩ (vI e1.N),.loaded ⟨blkOf A0,offOf A0+i1*14+2,none⟩ (vI e1.E.Kind),.loaded ⟨blkOf A0,offOf A0+i1*14+3,none⟩ (vI e1.E.N),.loaded ⟨blkOf A0,offOf A0+i1*14+4,none⟩ (.slice An1 e1.E.A.length cn1),.loaded ⟨blkOf A0,offOf A0+i1*14+5,none⟩ (vI e1.If.Kind),.loaded ⟨blkOf A0,offOf A0+i1*14+6,none⟩ (vI e1.If.A.Kind),.loaded ⟨blkOf A0,offOf A0+i1*14+7,none⟩ (vI e1.If.A.N),.loaded ⟨blkOf A0,offOf A0+i1*14+8,none⟩ (.slice An2 e1.If.A.A.length cn2),.loaded ⟨blkOf A0,offOf A0+i1*14+9,none⟩ (vI e1.If.B.Kind),.loaded ⟨blkOf A0,offOf A0+i1*14+10,none⟩ (vI e1.If.B.N),.loaded ⟨blkOf A0,offOf A0+i1*14+11,none⟩ (.slice An3 e1.If.B.A.length cn3),.loaded ⟨blkOf A0,offOf A0+i1*14+12,none⟩ (.slice An4 e1.Body.length cn4),.loaded ⟨blkOf A0,offOf A0+i1*14+13,none⟩ (.slice An5 e1.Else.length cn5)] ⟨hCs1 _ (hZ _ hS.subw) 0 _ rfl,hCs1 _ (hZ _ hS.subw) 1 _ rfl,hCs1 _ (hZ _ hS.subw) 2 _ rfl,hCs1 _ (hZ _ hS.subw) 3 _ rfl,hCs1 _ (hZ _ hS.subw) 4 _ rfl,hCs1 _ (hZ _ hS.subw) 5 _ rfl,hCs1 _ (hZ _ hS.subw) 6 _ rfl,hCs1 _ (hZ _ hS.subw) 7 _ rfl,hCs1 _ (hZ _ hS.subw) 8 _ rfl,hCs1 _ (hZ _ hS.subw) 9 _ rfl,hCs1 _ (hZ _ hS.subw) 10 _ rfl,hCs1 _ (hZ _ hS.subw) 11 _ rfl,hCs1 _ (hZ _ hS.subw) 12 _ rfl,hCs1 _ (hZ _ hS.subw) 13 _ rfl,trivial⟩<|gw (some 5) (.cells #[vI 0,vI 0,vI 0,vI 0,.slice none 0 0,vI 0,vI 0,vI 0,.slice none 0 0,vI 0,vI 0,.slice none 0 0,.slice none 0 0,.slice none 0 0] 49) (fun b=>pP b 0) hS fun b1 w1 hx2 hS5=>?_
  refine gs b1 0 #[vI 0,vI 0,vI 0,vI 0,.slice none 0 0,vI 0,vI 0,vI 0,.slice none 0 0,vI 0,vI 0,.slice none 0 0,.slice none 0 0,.slice none 0 0] 49 [vI e1.Kind,vI e1.N,vI e1.E.Kind,vI e1.E.N,.slice An1 e1.E.A.length cn1,vI e1.If.Kind,vI e1.If.A.Kind,vI e1.If.A.N,.slice An2 e1.If.A.A.length cn2,vI e1.If.B.Kind,vI e1.If.B.N,.slice An3 e1.If.B.A.length cn3,.slice An4 e1.Body.length cn4,.slice An5 e1.Else.length cn5] hS5 fun w2 hS6=>?_
  have hS7:=hS6.nc #[vI e1.Kind,vI e1.N,vI e1.E.Kind,vI e1.E.N,.slice An1 e1.E.A.length cn1,vI e1.If.Kind,vI e1.If.A.Kind,vI e1.If.A.N,.slice An2 e1.If.A.A.length cn2,vI e1.If.B.Kind,vI e1.If.B.N,.slice An3 e1.If.B.A.length cn3,.slice An4 e1.Body.length cn4,.slice An5 e1.Else.length cn5] (by kernel_rfl)
  refine gn hK8<|ws fun K9 hK9=>?_
  rcases hq4:punctualsame_Twin.p1 K e1 with _ | (⟨z7,z8,m6,z9,z10,m7,z11,z12,m8⟩ | rr1)
  ·rw [hq4] at h; cases h
  ·rw [hq4] at h
   simp only [] at h
   refine kp (punctualsame_Twin_p1 K w0 Z l0 A0 c0 hZ hR0 hL0 rec_punctualsame_Twin hr_punctualsame_Twin ft1 wf1 ft2 wf2 m1 v1 hds1 i1 hsb1 hd1 hc1 e1 hx1 An1 cn1 An2 cn2 An3 cn3 An4 cn4 An5 cn5 hCs1 hLn1 hRn1 hLn2 hRn2 hLn3 hRn3 hLn4 hRn4 hLn5 hRn5 b1 _ hq4 _ hS7 _ ?_)
   rintro _ a w9 ⟨rfl,ft11,wf11,Z4,cz4,Z5,cz5,Z6,cz6,hRz4,hRz5,hRz6,hRz7,hRz8,hRz9,hRz10,hS34,hF⟩
   replace hS34:St w0 w9 [bk b1 #[vI e1.Kind,vI e1.N,vI z7,vI z8,.slice Z4 m6.length cz4,vI e1.If.Kind,vI z9,vI z10,.slice Z5 m7.length cz5,vI z11,vI z12,.slice Z6 m8.length cz6,.slice An4 e1.Body.length cn4,.slice An5 e1.Else.length cn5] 49,Own.of v1 49 hds1,Own.frz ft11 wf11]:=hS34
   refine hK9 [(3,v1),(5,pP b1 0),(6,.slice A0 l0.length c0),(7,vI (l0.length:Int)),(8,vI (i1:Int))] w9 ?_ a hF
   refine ws fun K10 hK10=>we_draws (by kernel_rfl) [(0,0),(1,0),(3,0),(4,0),(2,1),(6,0),(5,1),(7,2),(8,0),(9,2)] (by kernel_rfl) ?_
   have hS35:=hS34.drew
   rcases hq5:rec_punctualsame_Twin e1.Body with _ | r4
   ·rw [hq5] at h; cases h
   rw [hq5] at h
   simp only [] at h
   refine gb [0,1,3,4] [(32,.slice An5 e1.Else.length cn5),(31,pP b1 13),(29,.slice An4 e1.Body.length cn4),(28,pP b1 12)] [ld b1 12 (.slice An4 e1.Body.length cn4),ld b1 13 (.slice An5 e1.Else.length cn5)] ⟨hS35.c 0,hS35.c 0,trivial⟩<|ge_call (d:=some 30) (f:=25) (args:=#[.slice An4 e1.Body.length cn4]) (by kernel_rfl) (hr_punctualsame_Twin (Zand Z wf11) e1.Body An4 cn4 _ (fun w' k=>⟨(hZ w' (hS35.subw.trans k)),(hS35.frzSub 2 rfl).trans k⟩) (hRn4.up (ZLe.in _ _)) hLn4 _ hq5) ?_
   rintro _ w10 ⟨v3,hds3,ft12,wf12,rfl,hd3,hS36⟩
   refine ⟨_,rfl,hS36.below,?_⟩
   have hS39:=((hS35.call hS36).b 4).b 2
   obtain ⟨ft13,wf13,hsb10,hsb11,hS40⟩:=hS39.frzMerge
   replace hd3:DRows (Zand Z wf13) hds3 r4:=hd3.up (ZLe.both hsb11 hsb10)
   rcases hq6:rec_punctualsame_Twin e1.Else with _ | r5
   ·rw [hq6] at h; cases h
   rw [hq6] at h
   simp only [] at h
   refine gb0 [6] [(34,pP b1 12)]<|ge_call (d:=some 33) (f:=25) (args:=#[.slice An5 e1.Else.length cn5]) (by kernel_rfl) (hr_punctualsame_Twin (Zand Z wf13) e1.Else An5 cn5 _ (fun w' k=>⟨(hZ w' (hS40.subw.trans k)),(hS40.frzSub 0 rfl).trans k⟩) (hRn5.up (ZLe.in _ _)) hLn5 _ hq6) ?_
   rintro _ w11 ⟨v4,hds4,ft14,wf14,rfl,hd4,hS41⟩
   refine ⟨_,rfl,hS41.below,?_⟩
   have hS44:=((hS40.call hS41).b 2).b 2
   obtain ⟨ft15,wf15,hsb12,hsb13,hS45⟩:=hS44.frzMerge
   replace hd4:DRows (Zand Z wf15) hds4 r5:=hd4.up (ZLe.both hsb13 hsb12)
   obtain ⟨Z7,cz7,rfl⟩:=hS45.dopen 2 rfl hd3
   have hS46:=hS45.b 2
   obtain ⟨ft16,wf16,hsb14,-,hRd1,hLd1,hS47⟩:=hS46.dfrz (Z:=Z) (hd3.up (ZLe.up hsb13))
   have hS48:=hS47.b 2
   refine gs b1 12 #[vI e1.Kind,vI e1.N,vI z7,vI z8,.slice Z4 m6.length cz4,vI e1.If.Kind,vI z9,vI z10,.slice Z5 m7.length cz5,vI z11,vI z12,.slice Z6 m8.length cz6,.slice An4 e1.Body.length cn4,.slice An5 e1.Else.length cn5] 49 [.slice Z7 r4.length cz7] hS48 fun w12 hS49=>?_
   have hS50:=hS49.nc #[vI e1.Kind,vI e1.N,vI z7,vI z8,.slice Z4 m6.length cz4,vI e1.If.Kind,vI z9,vI z10,.slice Z5 m7.length cz5,vI z11,vI z12,.slice Z6 m8.length cz6,.slice Z7 r4.length cz7,.slice An5 e1.Else.length cn5] (by kernel_rfl)
   refine gb0 [8] [(35,pP b1 13)] ?_
   obtain ⟨Z8,cz8,rfl⟩:=hS50.dopen 2 rfl hd4
   have hS52:=(hS50.b 1).b 2
   obtain ⟨ft17,wf17,hsb15,-,hRd2,hLd2,hS53⟩:=hS52.dfrz (Z:=Z) (hd4.up (ZLe.up hsb14))
   have hS54:=hS53.b 1
   refine gs b1 13 #[vI e1.Kind,vI e1.N,vI z7,vI z8,.slice Z4 m6.length cz4,vI e1.If.Kind,vI z9,vI z10,.slice Z5 m7.length cz5,vI z11,vI z12,.slice Z6 m8.length cz6,.slice Z7 r4.length cz7,.slice An5 e1.Else.length cn5] 49 [.slice Z8 r5.length cz8] hS54 fun w13 hS55=>?_
   have hS56:=hS55.nc #[vI e1.Kind,vI e1.N,vI z7,vI z8,.slice Z4 m6.length cz4,vI e1.If.Kind,vI z9,vI z10,.slice Z5 m7.length cz5,vI z11,vI z12,.slice Z6 m8.length cz6,.slice Z7 r4.length cz7,.slice Z8 r5.length cz8] (by kernel_rfl)
   refine gn hK10<|wr [(0,0),(1,0),(2,1),(3,2),(4,0)]<|gb [0,1] [(37,.agg #[vI e1.Kind,vI e1.N,vI z7,vI z8,.slice Z4 m6.length cz4,vI e1.If.Kind,vI z9,vI z10,.slice Z5 m7.length cz5,vI z11,vI z12,.slice Z6 m8.length cz6,.slice Z7 r4.length cz7,.slice Z8 r5.length cz8]),(36,v1)] [ld b1 0 (vI e1.Kind),ld b1 1 (vI e1.N),ld b1 2 (vI z7),ld b1 3 (vI z8),ld b1 4 (.slice Z4 m6.length cz4),ld b1 5 (vI e1.If.Kind),ld b1 6 (vI z9),ld b1 7 (vI z10),ld b1 8 (.slice Z5 m7.length cz5),ld b1 9 (vI z11),ld b1 10 (vI z12),ld b1 11 (.slice Z6 m8.length cz6),ld b1 12 (.slice Z7 r4.length cz7),ld b1 13 (.slice Z8 r5.length cz8)] ⟨hS56.c 0,hS56.c 0,hS56.c 0,hS56.c 0,hS56.c 0,hS56.c 0,hS56.c 0,hS56.c 0,hS56.c 0,hS56.c 0,hS56.c 0,hS56.c 0,hS56.c 0,hS56.c 0,trivial⟩<|gw (some 38) (.cells #[vI e1.Kind,vI e1.N,vI z7,vI z8,.slice Z4 m6.length cz4,vI e1.If.Kind,vI z9,vI z10,.slice Z5 m7.length cz5,vI z11,vI z12,.slice Z6 m8.length cz6,.slice Z7 r4.length cz7,.slice Z8 r5.length cz8] 49) (fun b=>.slice (some ⟨b,0,none⟩) 1 1) hS56 fun b2 w14 hx3 hS57=>?_
   have hS58:=hS57.b 3
   by_cases hc2:m1.length<733007751850
   ·rw [if_pos hc2] at h
    have hd5:DRows (Zand Z wf17) (hds1++[(⟨e1.Kind,e1.N,z7,z8,⟨Z4,m6.length,cz4⟩,e1.If.Kind,z9,z10,⟨Z5,m7.length,cz5⟩,z11,z12,⟨Z6,m8.length,cz6⟩,⟨Z7,r4.length,cz7⟩,⟨Z8,r5.length,cz8⟩⟩:HStmt)]) (m1++[(⟨e1.Kind,e1.N,(⟨z7,z8,m6⟩:SExpr),(⟨e1.If.Kind,(⟨z9,z10,m7⟩:SExpr),(⟨z11,z12,m8⟩:SExpr)⟩:SCond),r4,r5⟩:SStmt)]):=DRows.add (hd1.up (ZLe.up ((((hRz4.trans hsb11).trans hsb13).trans hsb14).trans hsb15))) (SStmt.mkZ (⟨e1.Kind,e1.N,(⟨z7,z8,m6⟩:SExpr),(⟨e1.If.Kind,(⟨z9,z10,m7⟩:SExpr),(⟨z11,z12,m8⟩:SExpr)⟩:SCond),r4,r5⟩:SStmt) hRz6 (hRz5.up (ZLe.up (((hsb11.trans hsb13).trans hsb14).trans hsb15))) hRz8 (hRz7.up (ZLe.up (((hsb11.trans hsb13).trans hsb14).trans hsb15))) hRz10 (hRz9.up (ZLe.up (((hsb11.trans hsb13).trans hsb14).trans hsb15))) hLd1 (hRd1.up (ZLe.up hsb15)) hLd2 hRd2)
    refine ge_append (α:=HStmt) (m:=0) (d:=39) (t:=38) (el:=49) (bytes:=192) (c1:=1) (b1:=b2) (x:=(.tmp 36)) (y:=(.tmp 38)) (ty:=38) (v:=v1) (z:=.agg #[vI 0,vI 0,vI 0,vI 0,.slice none 0 0,vI 0,vI 0,vI 0,.slice none 0 0,vI 0,vI 0,.slice none 0 0,.slice none 0 0,.slice none 0 0]) (l:=hds1) (u:=(⟨e1.Kind,e1.N,z7,z8,⟨Z4,m6.length,cz4⟩,e1.If.Kind,z9,z10,⟨Z5,m7.length,cz5⟩,z11,z12,⟨Z6,m8.length,cz6⟩,⟨Z7,r4.length,cz7⟩,⟨Z8,r5.length,cz8⟩⟩:HStmt)) (by kernel_rfl) (by kernel_rfl) (by kernel_rfl) (by kernel_rfl) (by kernel_rfl) rfl hS58 rfl (by have h0:hds1.length=m1.length:=DRows.len (hd1.up (ZLe.up ((((hRz4.trans hsb11).trans hsb13).trans hsb14).trans hsb15))); omega) fun v5 w15 hS59=>?_
    refine gb0 [4] [(3,v5)]<|gn hK7<|wr [(0,0),(1,0)]<|ge_addn (d:=40) (ty:=3) (x:=(.tmp 8)) (y:=(.const (vI 1))) (t:=3) (t2:=3) (k:=.i64) (m:=i1) (by kernel_rfl) (by kernel_rfl) (by kernel_rfl) (by have h0:=RdZ.small hR0 (hZ _ hS59.subw); omega) ?_
    refine gb0 [1] [(8,vI ((i1+1:Nat):Int))] ?_
    have hS62:=hS59.p [0,2] rfl
    obtain rfl:=si h
    exact ge_nil fun a hF=>hQ _ _ _ (Outs.again ⟨ft17,wf17,v5,(hds1++[(⟨e1.Kind,e1.N,z7,z8,⟨Z4,m6.length,cz4⟩,e1.If.Kind,z9,z10,⟨Z5,m7.length,cz5⟩,z11,z12,⟨Z6,m8.length,cz6⟩,⟨Z7,r4.length,cz7⟩,⟨Z8,r5.length,cz8⟩⟩:HStmt)]),(((((hsb1.trans hRz4).trans hsb11).trans hsb13).trans hsb14).trans hsb15),hd5,hS62,hF.weaken ea⟩)
   rw [if_neg hc2] at h
   cases h
  rw [hq4] at h
  simp only [] at h
  refine kp (punctualsame_Twin_p1 K w0 Z l0 A0 c0 hZ hR0 hL0 rec_punctualsame_Twin hr_punctualsame_Twin ft1 wf1 ft2 wf2 m1 v1 hds1 i1 hsb1 hd1 hc1 e1 hx1 An1 cn1 An2 cn2 An3 cn3 An4 cn4 An5 cn5 hCs1 hLn1 hRn1 hLn2 hRn2 hLn3 hRn3 hLn4 hRn4 hLn5 hRn5 b1 _ hq4 _ hS7 _ ?_)
  rintro _ a w1 ⟨_,rfl,hb⟩
  obtain rfl:=si h
  exact hQ _ _ _ (Outs.out nofun (Exits.on ⟨rfl,hb⟩))
 rw [if_neg hc1] at h
 refine wk 9 (decide ((i1:Int)<(l0.length:Int))) false (decide_eq_false hc1)<|wf ?_
 have hS64:=(hS.b 1).b 1
 obtain rfl:=si h
 exact we_exit fun a hF=>hQ _ _ _ (Outs.out nofun (Exits.here ⟨ft2,wf2,v1,hds1,hsb1,hd1,hS64,hF.weaken ea⟩))
theorem punctualsame_Twin_step (K:Nat) (rec_punctualsame_Twin:(List SStmt)→Option (List SStmt)) (hr_punctualsame_Twin:punctualsame_Twin.Rec rec_punctualsame_Twin) (Z:Zone) (l0:List SStmt) (A0:OA) (c0:Nat) (w0:World) (hZ:∀ w,Sub w0 w→Z w) (hR0:RdZ Z A0 l0) (hL0:l0.length≤c0) (r:List SStmt) (h:punctualsame_Twin.b K rec_punctualsame_Twin l0=some r) :
  Calls Try.prog 25 #[.slice A0 l0.length c0] w0 (punctualsame_Twin.Post w0 Z r):=by
 have hS:=St.start w0
 unfold punctualsame_Twin.b at h
 refine calls_enter (n:=42) (args:=[.slice A0 l0.length c0]) (fn:=Try.f25) rfl rfl rfl rfl ?_
 show WE _ _ _ _ [(0,.slice A0 l0.length c0)] _
 obtain ⟨ft1,wf1,hS1⟩:=hS.frz0
 refine ws fun K1 hK1=>wr [(0,0)]<|gb0 [0] [(2,.slice none 0 0)]<|gn hK1<|ws fun K2 hK2=>wr [(0,0)]<|gb0 [0] [(3,.slice none 0 0)]<|gn hK2<|ws fun K3 hK3=>ws fun K4 hK4=>wr [(0,0),(1,0),(2,0)]<|gb0 [0,1,2] [(8,vI 0),(7,vI (l0.length:Int)),(6,.slice A0 l0.length c0)]<|gn hK4<|we_block ?_
 have hS4:=((hS1.nil (α:=HStmt) 49).b 1).b 1
 rcases hq7:iter (punctualsame_Twin.r0 K l0 rec_punctualsame_Twin) K (([]:List SStmt),0) with _ | (m9 | rr2)
 ·rw [hq7] at h; cases h
 ·rw [hq7] at h
  simp only [] at h
  refine we_iter (A:=punctualsame_Twin.A0 w0 Z l0 A0 c0 wf1) (B:=punctualsame_Twin.B0 w0 Z wf1) hq7 (fun a hF=>⟨ft1,wf1,(.slice none 0 0),([]:List HStmt),(Sub.refl _),(DRows.nil _),hS4,hF.weaken ea⟩) (fun s o hf a w hA Q hQ=>punctualsame_Twin_r0 K w0 Z l0 A0 c0 hZ hR0 hL0 rec_punctualsame_Twin hr_punctualsame_Twin ft1 wf1 s o hf a w hA Q hQ) ?_
  rintro _ a w16 _ ⟨rfl,ft18,wf18,v6,hds5,hRz11,hRz12,hS65,hF⟩
  replace hS65:St w0 w16 [Own.of v6 49 hds5,Own.frz ft18 wf18]:=hS65
  refine hK3 [(3,v6)] w16 ?_ a hF
  refine ws fun K11 hK11=>wr [(0,0),(1,0)]<|gb0 [0,1] [(2,v6),(41,v6)]<|gn hK11 ?_
  have hS67:=(hS65.b 1).b 1
  obtain rfl:=si h
  exact we_ret (pr0 [.tmp 2] [v6] ⟨v6,hds5,ft18,wf18,rfl,hRz12,hS67⟩)
 rw [hq7] at h
 simp only [] at h
 refine we_iter (A:=punctualsame_Twin.A0 w0 Z l0 A0 c0 wf1) (B:=punctualsame_Twin.B0 w0 Z wf1) hq7 (fun a hF=>⟨ft1,wf1,(.slice none 0 0),([]:List HStmt),(Sub.refl _),(DRows.nil _),hS4,hF.weaken ea⟩) (fun s o hf a w hA Q hQ=>punctualsame_Twin_r0 K w0 Z l0 A0 c0 hZ hR0 hL0 rec_punctualsame_Twin hr_punctualsame_Twin ft1 wf1 s o hf a w hA Q hQ) ?_
 rintro _ a w1 _ ⟨rfl,hb⟩
 obtain rfl:=si h
 exact hb
def punctualsame_Twin.recs (K : Nat) : Nat → ((List SStmt) → Option (List SStmt))
 | 0=>fun _=>none
 | n+1=>punctualsame_Twin.b K (punctualsame_Twin.recs K n)
theorem punctualsame_Twin_all (K n:Nat):punctualsame_Twin.Rec (punctualsame_Twin.recs K n):=by
 induction n with
 | zero=>exact (by unfold punctualsame_Twin.Rec; intros; rename_i h; cases (show none=some _ from h))
 | succ n ih=>exact punctualsame_Twin_step K _ ih
def punctualsame_Twin.f (K : Nat) (l0 : List SStmt) : Option (List SStmt) := (punctualsame_Twin.recs K K) l0
theorem punctualsame_Twin_ok (K:Nat) (Z:Zone) (l0:List SStmt) (A0:OA) (c0:Nat) (w0:World) (hZ:∀ w,Sub w0 w→Z w) (hR0:RdZ Z A0 l0) (hL0:l0.length≤c0) (r:List SStmt) (h:punctualsame_Twin.f K l0=some r):Calls Try.prog 25 #[.slice A0 l0.length c0] w0 (punctualsame_Twin.Post w0 Z r):=(punctualsame_Twin_all K K) Z l0 A0 c0 w0 hZ hR0 hL0 r h

/-! punctual/punctualsame.Exprs -/
abbrev punctualsame_Exprs.Post (w0:World) (r:Bool) (e:Ending) (w:World):Prop:=e=.returned (.bool r)∧St w0 w []
abbrev punctualsame_Exprs.Rec (rec_punctualsame_Exprs:Int→Int→(List SExpr)→Int→Int→(List SExpr)→Option Bool):Prop:=∀ (Z:Zone) (x0_0:Int) (x0_1:Int) (l0_2:List SExpr) (A0_2:OA) (c0_2:Nat) (x1_0:Int) (x1_1:Int) (l1_2:List SExpr) (A1_2:OA) (c1_2:Nat) (w0:World) (hZ:∀ w,Sub w0 w→Z w) (hR0_2:RdZ Z A0_2 l0_2) (hL0_2:l0_2.length≤c0_2) (hR1_2:RdZ Z A1_2 l1_2) (hL1_2:l1_2.length≤c1_2) (r:Bool) (h:rec_punctualsame_Exprs x0_0 x0_1 l0_2 x1_0 x1_1 l1_2=some r),Calls Try.prog 56 #[.agg #[vI x0_0,vI x0_1,.slice A0_2 l0_2.length c0_2],.agg #[vI x1_0,vI x1_1,.slice A1_2 l1_2.length c1_2]] w0 (punctualsame_Exprs.Post w0 r)
def punctualsame_Exprs.p0 (x0_0 : Int) (x0_1 : Int) (l0_2 : List SExpr) (x1_0 : Int) (x1_1 : Int) (l1_2 : List SExpr) : Option (Unit ⊕ Bool) :=
  if x0_0=x1_0 then
   if x0_1=x1_1 then
    if (l0_2.length:Int)=(l1_2.length:Int) then
     some (.inl ())
    else
     some (.inr false)
   else
    some (.inr false)
  else
   some (.inr false)
def punctualsame_Exprs.r1 (l0_2 : List SExpr) (l1_2 : List SExpr) (rec_punctualsame_Exprs : Int → Int → (List SExpr) → Int → Int → (List SExpr) → Option Bool) : Nat → Option (Nat ⊕ (Unit ⊕ Bool))
 | i1 =>
  if (i1:Int)<(l0_2.length:Int) then
   match l0_2[i1]? with
   | none=>none
   | some e1 =>
    match l1_2[i1]? with
    | none=>none
    | some e2 =>
     match rec_punctualsame_Exprs e1.Kind e1.N e1.A e2.Kind e2.N e2.A with
     | none=>none
     | some r1 =>
      if r1=true then
       some (.inl (i1+1))
      else
       some (.inr (.inr false))
  else
   some (.inr (.inl ()))
def punctualsame_Exprs.b (K : Nat) (rec_punctualsame_Exprs : Int → Int → (List SExpr) → Int → Int → (List SExpr) → Option Bool) (x0_0 : Int) (x0_1 : Int) (l0_2 : List SExpr) (x1_0 : Int) (x1_1 : Int) (l1_2 : List SExpr) : Option Bool :=
 match punctualsame_Exprs.p0 x0_0 x0_1 l0_2 x1_0 x1_1 l1_2 with
 | none=>none
 | some (.inl _) =>
  match iter (punctualsame_Exprs.r1 l0_2 l1_2 rec_punctualsame_Exprs) K 0 with
  | none=>none
  | some (.inl _) =>
   some true
  | some (.inr rr1) =>
   some rr1
 | some (.inr rr2) =>
  some rr2
abbrev punctualsame_Exprs.A0 (w0:World) (x0_0 x0_1:Int) (l0_2:List SExpr) (A0_2:OA) (c0_2:Nat) (x1_0 x1_1:Int) (l1_2:List SExpr) (A1_2:OA) (c1_2 b1 b2:Nat):Unit→Act→World→Prop:=fun (s:Unit) a w=>St w0 w [bk b2 #[vI x1_0,vI x1_1,.slice A1_2 l1_2.length c1_2] 45,bk b1 #[vI x0_0,vI x0_1,.slice A0_2 l0_2.length c0_2] 45]∧Frm 46 a [(2,pP b1 0),(3,pP b2 0)]
abbrev punctualsame_Exprs.B0 (w0:World):Bool→Exit→Act→World→Prop:=Rets Try.prog Try.f56 (punctualsame_Exprs.Post w0)
theorem punctualsame_Exprs_p0 (K:Nat) (w0:World) (Z:Zone) (x0_0 x0_1:Int) (l0_2:List SExpr) (A0_2:OA) (c0_2:Nat) (x1_0 x1_1:Int) (l1_2:List SExpr) (A1_2:OA) (c1_2:Nat) (hZ:∀ w,Sub w0 w→Z w) (hR0_2:RdZ Z A0_2 l0_2) (hL0_2:l0_2.length≤c0_2) (hR1_2:RdZ Z A1_2 l1_2) (hL1_2:l1_2.length≤c1_2) (rec_punctualsame_Exprs:Int→Int→(List SExpr)→Int→Int→(List SExpr)→Option Bool) (hr_punctualsame_Exprs:punctualsame_Exprs.Rec rec_punctualsame_Exprs) (b1 b2:Nat) (o:Unit ⊕ Bool) (h:punctualsame_Exprs.p0 x0_0 x0_1 l0_2 x1_0 x1_1 l1_2=some o) (w:World) (hS:St w0 w [bk b2 #[vI x1_0,vI x1_1,.slice A1_2 l1_2.length c1_2] 45,bk b1 #[vI x0_0,vI x0_1,.slice A0_2 l0_2.length c0_2] 45]) (Q:Exit→Act→World→Prop) (hQ:∀ x a w,Outs (punctualsame_Exprs.A0 w0 x0_0 x0_1 l0_2 A0_2 c0_2 x1_0 x1_1 l1_2 A1_2 c1_2 b1 b2) (punctualsame_Exprs.B0 w0) o x a w→Q x a w):WE Try.prog 46 (subF Try.f56 [1,0]) Q [(0,.agg #[vI x0_0,vI x0_1,.slice A0_2 l0_2.length c0_2]),(1,.agg #[vI x1_0,vI x1_1,.slice A1_2 l1_2.length c1_2]),(2,pP b1 0),(3,pP b2 0),(4,.bool false)] w:=by
 simp only [punctualsame_Exprs.p0] at h
 refine ws fun K3 hK3=>wr [(0,0),(1,0),(2,0),(3,0),(4,0),(5,0),(6,0),(7,0),(8,0),(9,0),(10,0),(11,0),(12,0),(13,0),(14,0),(15,0),(16,0),(17,0),(18,0),(19,0),(20,0)]<|gb [0,1,2,3,4,5] [(11,.bool (x0_0 != x1_0)),(10,.bool (x0_0 != x1_0)),(9,vI x1_0),(8,pP b2 0),(7,vI x0_0),(6,pP b1 0)] [ld b1 0 (vI x0_0),ld b2 0 (vI x1_0)] ⟨hS.c 1,hS.c 0,trivial⟩ ?_
 by_cases hc1:x0_0=x1_0
 ·rw [if_pos hc1] at h
  refine gk 11 (x0_0 != x1_0) false (bne_eq_false_iff_eq.2 hc1)<|gb [6,7,8,9,10,11,12] [(18,.bool (x0_1 != x1_1)),(17,.bool (x0_1 != x1_1)),(16,.bool (x0_1 != x1_1)),(15,vI x1_1),(14,pP b2 1),(13,vI x0_1),(12,pP b1 1)] [ld b1 1 (vI x0_1),ld b2 1 (vI x1_1)] ⟨hS.c 1,hS.c 0,trivial⟩ ?_
  by_cases hc2:x0_1=x1_1
  ·rw [if_pos hc2] at h
   refine gk 18 (x0_1 != x1_1) false (bne_eq_false_iff_eq.2 hc2)<|gb [13,14,15,16,17,18,19,20] [(26,.bool ((l0_2.length:Int) != (l1_2.length:Int))),(25,.bool ((l0_2.length:Int) != (l1_2.length:Int))),(24,vI (l1_2.length:Int)),(23,.slice A1_2 l1_2.length c1_2),(22,pP b2 2),(21,vI (l0_2.length:Int)),(20,.slice A0_2 l0_2.length c0_2),(19,pP b1 2)] [ld b1 2 (.slice A0_2 l0_2.length c0_2),ld b2 2 (.slice A1_2 l1_2.length c1_2)] ⟨hS.c 1,hS.c 0,trivial⟩<|gn hK3 ?_
   by_cases hc3:(l0_2.length:Int)=(l1_2.length:Int)
   ·rw [if_pos hc3] at h
    refine wk 26 ((l0_2.length:Int) != (l1_2.length:Int)) false (bne_eq_false_iff_eq.2 hc3)<|wf ?_
    have hS4:=(hS.b 1).b 1
    obtain rfl:=si h
    exact we_skip fun a hF=>hQ _ _ _ (Outs.again ⟨hS4,hF.weaken ea⟩)
   rw [if_neg hc3] at h
   refine wk 26 ((l0_2.length:Int) != (l1_2.length:Int)) true (bne_iff_ne.2 hc3)<|wt<|ws fun K4 hK4=>wr [(0,0)]<|gb0 [0] [(4,.bool false)]<|gn hK4 ?_
   have hS5:=hS.takeN 0
   obtain rfl:=si h
   exact rq hQ fun a hF=>⟨rfl,(pr0 [.tmp 4] [.bool false] ⟨rfl,hS5⟩) a hF⟩
  rw [if_neg hc2] at h
  refine gk 18 (x0_1 != x1_1) true (bne_iff_ne.2 hc2)<|gb0 [13,14,15,16,17,18,19,20] [(26,.bool true),(25,undef),(24,undef),(23,undef),(22,undef),(21,undef),(20,undef),(19,undef)]<|gn hK3<|wt<|ws fun K5 hK5=>wr [(0,0)]<|gb0 [0] [(4,.bool false)]<|gn hK5 ?_
  have hS6:=hS.takeN 0
  obtain rfl:=si h
  exact rq hQ fun a hF=>⟨rfl,(pr0 [.tmp 4] [.bool false] ⟨rfl,hS6⟩) a hF⟩
 rw [if_neg hc1] at h
 refine gk 11 (x0_0 != x1_0) true (bne_iff_ne.2 hc1)<|gb0 [6,7,8,9,10,11,12,13,14,15,16,17,18,19,20] [(26,.bool true),(25,undef),(24,undef),(23,undef),(22,undef),(21,undef),(20,undef),(19,undef),(18,.bool true),(17,.bool true),(16,undef),(15,undef),(14,undef),(13,undef),(12,undef)]<|gn hK3<|wt<|ws fun K6 hK6=>wr [(0,0)]<|gb0 [0] [(4,.bool false)]<|gn hK6 ?_
 have hS7:=hS.takeN 0
 obtain rfl:=si h
 exact rq hQ fun a hF=>⟨rfl,(pr0 [.tmp 4] [.bool false] ⟨rfl,hS7⟩) a hF⟩
abbrev punctualsame_Exprs.A1 (w0:World) (x0_0 x0_1:Int) (l0_2:List SExpr) (A0_2:OA) (c0_2:Nat) (x1_0 x1_1:Int) (l1_2:List SExpr) (A1_2:OA) (c1_2 b1 b2:Nat):Nat→Act→World→Prop:=fun (s:Nat) a w=>St w0 w [bk b2 #[vI x1_0,vI x1_1,.slice A1_2 l1_2.length c1_2] 45,bk b1 #[vI x0_0,vI x0_1,.slice A0_2 l0_2.length c0_2] 45]∧Frm 46 a [(2,pP b1 0),(3,pP b2 0),(29,vI (l0_2.length:Int)),(30,vI (s:Int))]
abbrev punctualsame_Exprs.B1 (w0:World):(Unit ⊕ Bool)→Exit→Act→World→Prop:=Exits 0 (fun (s:Unit) a w=>St w0 w []∧Frm 46 a []) (Rets Try.prog Try.f56 (punctualsame_Exprs.Post w0))
theorem punctualsame_Exprs_r1 (K:Nat) (w0:World) (Z:Zone) (x0_0 x0_1:Int) (l0_2:List SExpr) (A0_2:OA) (c0_2:Nat) (x1_0 x1_1:Int) (l1_2:List SExpr) (A1_2:OA) (c1_2:Nat) (hZ:∀ w,Sub w0 w→Z w) (hR0_2:RdZ Z A0_2 l0_2) (hL0_2:l0_2.length≤c0_2) (hR1_2:RdZ Z A1_2 l1_2) (hL1_2:l1_2.length≤c1_2) (rec_punctualsame_Exprs:Int→Int→(List SExpr)→Int→Int→(List SExpr)→Option Bool) (hr_punctualsame_Exprs:punctualsame_Exprs.Rec rec_punctualsame_Exprs) (b1 b2 s:Nat) (o:Nat ⊕ (Unit ⊕ Bool)) (h:punctualsame_Exprs.r1 l0_2 l1_2 rec_punctualsame_Exprs s=some o) (a:Act) (w:World) (hA:punctualsame_Exprs.A1 w0 x0_0 x0_1 l0_2 A0_2 c0_2 x1_0 x1_1 l1_2 A1_2 c1_2 b1 b2 s a w) (Q:Exit→Act→World→Prop) (hQ:∀ x a w,Outs (punctualsame_Exprs.A1 w0 x0_0 x0_1 l0_2 A0_2 c0_2 x1_0 x1_1 l1_2 A1_2 c1_2 b1 b2) (punctualsame_Exprs.B1 w0) o x a w→Q x a w):(subF Try.f56 [1,1,0,1,0,0]).wp Try.prog Q a w:=by
 obtain ⟨i1,hs⟩:∃ z,z=s:=⟨s,rfl⟩
 subst hs
 obtain ⟨hS,hF⟩:=hA
 replace hS:St w0 w [bk b2 #[vI x1_0,vI x1_1,.slice A1_2 l1_2.length c1_2] 45,bk b1 #[vI x0_0,vI x0_1,.slice A0_2 l0_2.length c0_2] 45]:=hS
 simp only [punctualsame_Exprs.r1] at h
 refine (?_:WE Try.prog 46 (subF Try.f56 [1,1,0,1,0,0]) Q [(2,pP b1 0),(3,pP b2 0),(29,vI (l0_2.length:Int)),(30,vI (i1:Int))] w) a hF
 clear hF a
 refine ws fun K9 hK9=>wr [(0,0)]<|gb0 [0] [(31,.bool (decide ((i1:Int)<(l0_2.length:Int))))]<|gn hK9<|ws fun K10 hK10=>?_
 by_cases hc4:(i1:Int)<(l0_2.length:Int)
 ·rw [if_pos hc4] at h
  refine wk 31 (decide ((i1:Int)<(l0_2.length:Int))) true (decide_eq_true hc4)<|wt<|we_skip fun a hF=>hK10 _ _ ?_ a hF
  refine ws fun K11 hK11=>we_block<|ws fun K12 hK12=>wr [(0,0),(1,0)]<|gb0 [0,1] [(5,vI (i1:Int)),(32,vI (i1:Int))]<|gn hK12<|ws fun K13 hK13=>we_draws (by kernel_rfl) [(0,0),(1,0),(2,0),(3,0),(4,0),(5,0),(6,0),(7,0),(8,0),(9,0),(10,1),(11,0)] (by kernel_rfl) ?_
  have hS11:=hS.drew
  refine gb [0,1,2] [(35,vI (i1:Int)),(34,.slice A0_2 l0_2.length c0_2),(33,pP b1 2)] [ld b1 2 (.slice A0_2 l0_2.length c0_2)] ⟨hS11.c 1,trivial⟩ ?_
  rcases hx3:l0_2[i1]? with _ | e1
  ·rw [hx3] at h; cases h
  rw [hx3] at h
  simp only [] at h
  obtain ⟨An1,cn1,hCs1,hLn1,hRn1⟩:=SExpr.getZ hR0_2 hx3
  refine gi 36 0 43 45 3 l0_2.length c0_2 (.tmp 34) (.tmp 35) A0_2 .i64 (i1:Int) i1 (hR0_2.eqSome (hZ _ hS11.subw) (pos_of_get hx3)) rfl (lt_of_get hx3) ?_
  refine gb [4,5,6,7] [(40,vI (i1:Int)),(39,.slice A1_2 l1_2.length c1_2),(38,pP b2 2),(37,.agg #[vI e1.Kind,vI e1.N,.slice An1 e1.A.length cn1])] [.loaded ⟨blkOf A0_2,offOf A0_2+i1*3,none⟩ (vI e1.Kind),.loaded ⟨blkOf A0_2,offOf A0_2+i1*3+1,none⟩ (vI e1.N),.loaded ⟨blkOf A0_2,offOf A0_2+i1*3+2,none⟩ (.slice An1 e1.A.length cn1),ld b2 2 (.slice A1_2 l1_2.length c1_2)] ⟨hCs1 _ (hZ _ hS11.subw) 0 _ rfl,hCs1 _ (hZ _ hS11.subw) 1 _ rfl,hCs1 _ (hZ _ hS11.subw) 2 _ rfl,hS11.c 0,trivial⟩ ?_
  rcases hx4:l1_2[i1]? with _ | e2
  ·rw [hx4] at h; cases h
  rw [hx4] at h
  simp only [] at h
  obtain ⟨An2,cn2,hCs2,hLn2,hRn2⟩:=SExpr.getZ hR1_2 hx4
  refine gi 41 0 43 45 3 l1_2.length c1_2 (.tmp 39) (.tmp 40) A1_2 .i64 (i1:Int) i1 (hR1_2.eqSome (hZ _ hS11.subw) (pos_of_get hx4)) rfl (lt_of_get hx4) ?_
  rcases hq2:rec_punctualsame_Exprs e1.Kind e1.N e1.A e2.Kind e2.N e2.A with _ | r1
  ·rw [hq2] at h; cases h
  rw [hq2] at h
  simp only [] at h
  refine gb [9] [(42,.agg #[vI e2.Kind,vI e2.N,.slice An2 e2.A.length cn2])] [.loaded ⟨blkOf A1_2,offOf A1_2+i1*3,none⟩ (vI e2.Kind),.loaded ⟨blkOf A1_2,offOf A1_2+i1*3+1,none⟩ (vI e2.N),.loaded ⟨blkOf A1_2,offOf A1_2+i1*3+2,none⟩ (.slice An2 e2.A.length cn2)] ⟨hCs2 _ (hZ _ hS11.subw) 0 _ rfl,hCs2 _ (hZ _ hS11.subw) 1 _ rfl,hCs2 _ (hZ _ hS11.subw) 2 _ rfl,trivial⟩<|ge_call (d:=some 43) (f:=56) (args:=#[.agg #[vI e1.Kind,vI e1.N,.slice An1 e1.A.length cn1],.agg #[vI e2.Kind,vI e2.N,.slice An2 e2.A.length cn2]]) (by kernel_rfl) (hr_punctualsame_Exprs Z e1.Kind e1.N e1.A An1 cn1 e2.Kind e2.N e2.A An2 cn2 _ (fun w' k=>(hZ w' (hS11.subw.trans k))) hRn1 hLn1 hRn2 hLn2 _ hq2) ?_
  rintro _ w4 ⟨rfl,hS12⟩
  refine ⟨_,rfl,hS12.below,?_⟩
  have hS13:=hS11.call hS12
  refine gb0 [11] [(44,.bool (!r1))]<|gn hK13 ?_
  by_cases hc5:r1=true
  ·rw [if_pos hc5] at h
   refine wk 44 (!r1) false (congrArg (fun z=>!z) hc5)<|wf<|we_skip fun a hF=>hK11 _ _ ?_ a hF
   refine wr [(0,0),(1,0)]<|ge_addn (d:=45) (ty:=3) (x:=(.tmp 30)) (y:=(.const (vI 1))) (t:=3) (t2:=3) (k:=.i64) (m:=i1) (by kernel_rfl) (by kernel_rfl) (by kernel_rfl) (by have h0:=RdZ.small hR0_2 (hZ _ hS13.subw); omega) ?_
   refine gb0 [1] [(30,vI ((i1+1:Nat):Int))] ?_
   have hS15:=(hS13.b 1).b 1
   obtain rfl:=si h
   exact ge_nil fun a hF=>hQ _ _ _ (Outs.again ⟨hS15,hF.weaken ea⟩)
  rw [if_neg hc5] at h
  refine wk 44 (!r1) true (congrArg (fun z=>!z) (Bool.eq_false_iff.2 hc5))<|wt<|ws fun K14 hK14=>wr [(0,0)]<|gb0 [0] [(4,.bool false)]<|gn hK14 ?_
  have hS16:=hS13.takeN 0
  obtain rfl:=si h
  exact we_ret fun a hF=>hQ _ _ _ (Outs.out nofun (Exits.on ⟨rfl,(pr0 [.tmp 4] [.bool false] ⟨rfl,hS16⟩) a hF⟩))
 rw [if_neg hc4] at h
 refine wk 31 (decide ((i1:Int)<(l0_2.length:Int))) false (decide_eq_false hc4)<|wf ?_
 have hS17:=hS.takeN 0
 obtain rfl:=si h
 exact we_exit fun a hF=>hQ _ _ _ (Outs.out nofun (Exits.here ⟨hS17,hF.weaken trivial⟩))
theorem punctualsame_Exprs_step (K:Nat) (rec_punctualsame_Exprs:Int→Int→(List SExpr)→Int→Int→(List SExpr)→Option Bool) (hr_punctualsame_Exprs:punctualsame_Exprs.Rec rec_punctualsame_Exprs) (Z:Zone) (x0_0 x0_1:Int) (l0_2:List SExpr) (A0_2:OA) (c0_2:Nat) (x1_0 x1_1:Int) (l1_2:List SExpr) (A1_2:OA) (c1_2:Nat) (w0:World) (hZ:∀ w,Sub w0 w→Z w) (hR0_2:RdZ Z A0_2 l0_2) (hL0_2:l0_2.length≤c0_2) (hR1_2:RdZ Z A1_2 l1_2) (hL1_2:l1_2.length≤c1_2) (r:Bool) (h:punctualsame_Exprs.b K rec_punctualsame_Exprs x0_0 x0_1 l0_2 x1_0 x1_1 l1_2=some r) :
  Calls Try.prog 56 #[.agg #[vI x0_0,vI x0_1,.slice A0_2 l0_2.length c0_2],.agg #[vI x1_0,vI x1_1,.slice A1_2 l1_2.length c1_2]] w0 (punctualsame_Exprs.Post w0 r):=by
 have hS:=St.start w0
 unfold punctualsame_Exprs.b at h
 refine calls_enter (n:=46) (args:=[.agg #[vI x0_0,vI x0_1,.slice A0_2 l0_2.length c0_2],.agg #[vI x1_0,vI x1_1,.slice A1_2 l1_2.length c1_2]]) (fn:=Try.f56) rfl rfl rfl rfl ?_
 show WE _ _ _ _ [(0,.agg #[vI x0_0,vI x0_1,.slice A0_2 l0_2.length c0_2]),(1,.agg #[vI x1_0,vI x1_1,.slice A1_2 l1_2.length c1_2])] _
 refine ws fun K1 hK1=>wr [(0,1),(1,1),(2,0)]<|gw (some 2) (.cells #[vI x0_0,vI x0_1,.slice A0_2 l0_2.length c0_2] 45) (fun b=>pP b 0) hS fun b1 w1 hx1 hS1=>?_
 refine gw (some 3) (.cells #[vI x1_0,vI x1_1,.slice A1_2 l1_2.length c1_2] 45) (fun b=>pP b 0) hS1 fun b2 w2 hx2 hS2=>?_
 refine gb0 [2] [(4,.bool false)]<|gn hK1<|ws fun K2 hK2=>?_
 rcases hq1:punctualsame_Exprs.p0 x0_0 x0_1 l0_2 x1_0 x1_1 l1_2 with _ | (_ | rr2)
 ·rw [hq1] at h; cases h
 ·rw [hq1] at h
  simp only [] at h
  refine kp (punctualsame_Exprs_p0 K w0 Z x0_0 x0_1 l0_2 A0_2 c0_2 x1_0 x1_1 l1_2 A1_2 c1_2 hZ hR0_2 hL0_2 hR1_2 hL1_2 rec_punctualsame_Exprs hr_punctualsame_Exprs b1 b2 _ hq1 _ hS2 _ ?_)
  rintro _ a w3 ⟨rfl,hS8,hF⟩
  replace hS8:St w0 w3 [bk b2 #[vI x1_0,vI x1_1,.slice A1_2 l1_2.length c1_2] 45,bk b1 #[vI x0_0,vI x0_1,.slice A0_2 l0_2.length c0_2] 45]:=hS8
  refine hK2 [(2,pP b1 0),(3,pP b2 0)] w3 ?_ a hF
  refine ws fun K7 hK7=>ws fun K8 hK8=>wr [(0,0),(1,0),(2,0),(3,0)]<|gb [0,1,2,3] [(30,vI 0),(29,vI (l0_2.length:Int)),(28,.slice A0_2 l0_2.length c0_2),(27,pP b1 2)] [ld b1 2 (.slice A0_2 l0_2.length c0_2)] ⟨hS8.c 1,trivial⟩<|gn hK8<|we_block ?_
  have hS10:=(hS8.b 1).b 1
  rcases hq3:iter (punctualsame_Exprs.r1 l0_2 l1_2 rec_punctualsame_Exprs) K 0 with _ | (_ | rr1)
  ·rw [hq3] at h; cases h
  ·rw [hq3] at h
   simp only [] at h
   refine we_iter (A:=punctualsame_Exprs.A1 w0 x0_0 x0_1 l0_2 A0_2 c0_2 x1_0 x1_1 l1_2 A1_2 c1_2 b1 b2) (B:=punctualsame_Exprs.B1 w0) hq3 (fun a hF=>⟨hS10,hF.weaken ea⟩) (fun s o hf a w hA Q hQ=>punctualsame_Exprs_r1 K w0 Z x0_0 x0_1 l0_2 A0_2 c0_2 x1_0 x1_1 l1_2 A1_2 c1_2 hZ hR0_2 hL0_2 hR1_2 hL1_2 rec_punctualsame_Exprs hr_punctualsame_Exprs b1 b2 s o hf a w hA Q hQ) ?_
   rintro _ a w5 _ ⟨rfl,hS18,hF⟩
   replace hS18:St w0 w5 []:=hS18
   refine hK7 [] w5 ?_ a hF
   refine ws fun K15 hK15=>wr [(0,0)]<|gb0 [0] [(4,.bool true)]<|gn hK15 ?_
   obtain rfl:=si h
   exact we_ret (pr0 [.tmp 4] [.bool true] ⟨rfl,hS18⟩)
  rw [hq3] at h
  simp only [] at h
  refine we_iter (A:=punctualsame_Exprs.A1 w0 x0_0 x0_1 l0_2 A0_2 c0_2 x1_0 x1_1 l1_2 A1_2 c1_2 b1 b2) (B:=punctualsame_Exprs.B1 w0) hq3 (fun a hF=>⟨hS10,hF.weaken ea⟩) (fun s o hf a w hA Q hQ=>punctualsame_Exprs_r1 K w0 Z x0_0 x0_1 l0_2 A0_2 c0_2 x1_0 x1_1 l1_2 A1_2 c1_2 hZ hR0_2 hL0_2 hR1_2 hL1_2 rec_punctualsame_Exprs hr_punctualsame_Exprs b1 b2 s o hf a w hA Q hQ) ?_
  rintro _ a w1 _ ⟨rfl,hb⟩
  obtain rfl:=si h
  exact hb
 rw [hq1] at h
 simp only [] at h
 refine kp (punctualsame_Exprs_p0 K w0 Z x0_0 x0_1 l0_2 A0_2 c0_2 x1_0 x1_1 l1_2 A1_2 c1_2 hZ hR0_2 hL0_2 hR1_2 hL1_2 rec_punctualsame_Exprs hr_punctualsame_Exprs b1 b2 _ hq1 _ hS2 _ ?_)
 rintro _ a w1 ⟨_,rfl,hb⟩
 obtain rfl:=si h
 exact hb
def punctualsame_Exprs.recs (K : Nat) : Nat → (Int → Int → (List SExpr) → Int → Int → (List SExpr) → Option Bool)
 | 0=>fun _ _ _ _ _ _=>none
 | n+1=>punctualsame_Exprs.b K (punctualsame_Exprs.recs K n)
theorem punctualsame_Exprs_all (K n:Nat):punctualsame_Exprs.Rec (punctualsame_Exprs.recs K n):=by
 induction n with
 | zero=>exact (by unfold punctualsame_Exprs.Rec; intros; rename_i h; cases (show none=some _ from h))
 | succ n ih=>exact punctualsame_Exprs_step K _ ih
def punctualsame_Exprs.f (K : Nat) (x0_0 : Int) (x0_1 : Int) (l0_2 : List SExpr) (x1_0 : Int) (x1_1 : Int) (l1_2 : List SExpr) : Option Bool := (punctualsame_Exprs.recs K K) x0_0 x0_1 l0_2 x1_0 x1_1 l1_2
theorem punctualsame_Exprs_ok (K:Nat) (Z:Zone) (x0_0 x0_1:Int) (l0_2:List SExpr) (A0_2:OA) (c0_2:Nat) (x1_0 x1_1:Int) (l1_2:List SExpr) (A1_2:OA) (c1_2:Nat) (w0:World) (hZ:∀ w,Sub w0 w→Z w) (hR0_2:RdZ Z A0_2 l0_2) (hL0_2:l0_2.length≤c0_2) (hR1_2:RdZ Z A1_2 l1_2) (hL1_2:l1_2.length≤c1_2) (r:Bool) (h:punctualsame_Exprs.f K x0_0 x0_1 l0_2 x1_0 x1_1 l1_2=some r):Calls Try.prog 56 #[.agg #[vI x0_0,vI x0_1,.slice A0_2 l0_2.length c0_2],.agg #[vI x1_0,vI x1_1,.slice A1_2 l1_2.length c1_2]] w0 (punctualsame_Exprs.Post w0 r):=(punctualsame_Exprs_all K K) Z x0_0 x0_1 l0_2 A0_2 c0_2 x1_0 x1_1 l1_2 A1_2 c1_2 w0 hZ hR0_2 hL0_2 hR1_2 hL1_2 r h

/-! punctual/punctualsame.Bodies -/
abbrev punctualsame_Bodies.Post (w0:World) (r:Bool) (e:Ending) (w:World):Prop:=e=.returned (.bool r)∧St w0 w []
abbrev punctualsame_Bodies.Rec (rec_punctualsame_Bodies:(List SStmt)→(List SStmt)→Option Bool):Prop:=∀ (Z:Zone) (l0:List SStmt) (A0:OA) (c0:Nat) (l1:List SStmt) (A1:OA) (c1:Nat) (w0:World) (hZ:∀ w,Sub w0 w→Z w) (hR0:RdZ Z A0 l0) (hL0:l0.length≤c0) (hR1:RdZ Z A1 l1) (hL1:l1.length≤c1) (r:Bool) (h:rec_punctualsame_Bodies l0 l1=some r),Calls Try.prog 28 #[.slice A0 l0.length c0,.slice A1 l1.length c1] w0 (punctualsame_Bodies.Post w0 r)
def punctualsame_Bodies.r0 (K : Nat) (l0 : List SStmt) (l1 : List SStmt) (rec_punctualsame_Bodies : (List SStmt) → (List SStmt) → Option Bool) : Nat → Option (Nat ⊕ (Unit ⊕ Bool))
 | i1 =>
  if (i1:Int)<(l0.length:Int) then
   match l0[i1]? with
   | none=>none
   | some e1 =>
    match l1[i1]? with
    | none=>none
    | some e2 =>
     if e1.Kind=e2.Kind then
      if e1.N=e2.N then
       if e1.If.Kind=e2.If.Kind then
        match punctualsame_Exprs.f K e1.E.Kind e1.E.N e1.E.A e2.E.Kind e2.E.N e2.E.A with
        | none=>none
        | some r1 =>
         if r1=true then
          match punctualsame_Exprs.f K e1.If.A.Kind e1.If.A.N e1.If.A.A e2.If.A.Kind e2.If.A.N e2.If.A.A with
          | none=>none
          | some r2 =>
           if r2=true then
            match punctualsame_Exprs.f K e1.If.B.Kind e1.If.B.N e1.If.B.A e2.If.B.Kind e2.If.B.N e2.If.B.A with
            | none=>none
            | some r3 =>
             if r3=true then
              match rec_punctualsame_Bodies e1.Body e2.Body with
              | none=>none
              | some r4 =>
               if r4=true then
                match rec_punctualsame_Bodies e1.Else e2.Else with
                | none=>none
                | some r5 =>
                 if r5=true then
                  some (.inl (i1+1))
                 else
                  some (.inr (.inr false))
               else
                some (.inr (.inr false))
             else
              some (.inr (.inr false))
           else
            some (.inr (.inr false))
         else
          some (.inr (.inr false))
       else
        some (.inr (.inr false))
      else
       some (.inr (.inr false))
     else
      some (.inr (.inr false))
  else
   some (.inr (.inl ()))
def punctualsame_Bodies.b (K : Nat) (rec_punctualsame_Bodies : (List SStmt) → (List SStmt) → Option Bool) (l0 : List SStmt) (l1 : List SStmt) : Option Bool :=
 if (l0.length:Int)=(l1.length:Int) then
  match iter (punctualsame_Bodies.r0 K l0 l1 rec_punctualsame_Bodies) K 0 with
  | none=>none
  | some (.inl _) =>
   some true
  | some (.inr rr1) =>
   some rr1
 else
  some false
abbrev punctualsame_Bodies.A0 (w0:World) (l0:List SStmt) (A0:OA) (c0:Nat) (l1:List SStmt) (A1:OA) (c1:Nat):Nat→Act→World→Prop:=fun (s:Nat) a w=>St w0 w []∧Frm 90 a [(1,.slice A1 l1.length c1),(13,.slice A0 l0.length c0),(14,vI (l0.length:Int)),(15,vI (s:Int))]
abbrev punctualsame_Bodies.B0 (w0:World):(Unit ⊕ Bool)→Exit→Act→World→Prop:=Exits 0 (fun (s:Unit) a w=>St w0 w []∧Frm 90 a []) (Rets Try.prog Try.f28 (punctualsame_Bodies.Post w0))
theorem punctualsame_Bodies_r0 (K:Nat) (w0:World) (Z:Zone) (l0:List SStmt) (A0:OA) (c0:Nat) (l1:List SStmt) (A1:OA) (c1:Nat) (hZ:∀ w,Sub w0 w→Z w) (hR0:RdZ Z A0 l0) (hL0:l0.length≤c0) (hR1:RdZ Z A1 l1) (hL1:l1.length≤c1) (rec_punctualsame_Bodies:(List SStmt)→(List SStmt)→Option Bool) (hr_punctualsame_Bodies:punctualsame_Bodies.Rec rec_punctualsame_Bodies) (hc1:(l0.length:Int)=(l1.length:Int)) (s:Nat) (o:Nat ⊕ (Unit ⊕ Bool)) (h:punctualsame_Bodies.r0 K l0 l1 rec_punctualsame_Bodies s=some o) (a:Act) (w:World) (hA:punctualsame_Bodies.A0 w0 l0 A0 c0 l1 A1 c1 s a w) (Q:Exit→Act→World→Prop) (hQ:∀ x a w,Outs (punctualsame_Bodies.A0 w0 l0 A0 c0 l1 A1 c1) (punctualsame_Bodies.B0 w0) o x a w→Q x a w):(subF Try.f28 [1,1,0,1,0,0]).wp Try.prog Q a w:=by
 obtain ⟨i1,hs⟩:∃ z,z=s:=⟨s,rfl⟩
 subst hs
 obtain ⟨hS,hF⟩:=hA
 replace hS:St w0 w []:=hS
 simp only [punctualsame_Bodies.r0] at h
 refine (?_:WE Try.prog 90 (subF Try.f28 [1,1,0,1,0,0]) Q [(1,.slice A1 l1.length c1),(13,.slice A0 l0.length c0),(14,vI (l0.length:Int)),(15,vI (i1:Int))] w) a hF
 clear hF a
 refine ws fun K6 hK6=>wr [(0,0)]<|gb0 [0] [(16,.bool (decide ((i1:Int)<(l0.length:Int))))]<|gn hK6<|ws fun K7 hK7=>?_
 by_cases hc2:(i1:Int)<(l0.length:Int)
 ·rw [if_pos hc2] at h
  refine wk 16 (decide ((i1:Int)<(l0.length:Int))) true (decide_eq_true hc2)<|wt<|we_skip fun a hF=>hK7 _ _ ?_ a hF
  refine ws fun K8 hK8=>we_block<|ws fun K9 hK9=>wr [(0,0),(1,0),(2,0),(3,1),(4,0),(5,2)]<|gb0 [0] [(17,vI (i1:Int))] ?_
  rcases hx1:l0[i1]? with _ | e1
  ·rw [hx1] at h; cases h
  rw [hx1] at h
  simp only [] at h
  obtain ⟨An1,cn1,An2,cn2,An3,cn3,An4,cn4,An5,cn5,hCs1,hLn1,hRn1,hLn2,hRn2,hLn3,hRn3,hLn4,hRn4,hLn5,hRn5⟩:=SStmt.getZ hR0 hx1
  refine gi 18 0 38 49 14 l0.length c0 (.tmp 13) (.tmp 15) A0 .i64 (i1:Int) i1 (hR0.eqSome (hZ _ hS.subw) (pos_of_get hx1)) rfl (lt_of_get hx1) ?_
  refine gb [2] [(19,.agg #[vI e1.Kind,vI e1.N,vI e1.E.Kind,vI e1.E.N,.slice An1 e1.E.A.length cn1,vI e1.If.Kind,vI e1.If.A.Kind,vI e1.If.A.N,.slice An2 e1.If.A.A.length cn2,vI e1.If.B.Kind,vI e1.If.B.N,.slice An3 e1.If.B.A.length cn3,.slice An4 e1.Body.length cn4,.slice An5 e1.Else.length cn5])] [.loaded ⟨blkOf A0,offOf A0+i1*14,none⟩ (vI e1.Kind),.loaded ⟨blkOf A0,offOf A0+i1*14+1,none⟩ (vI e1.N),.loaded ⟨blkOf A0,offOf A0+i1*14+2,none⟩ (vI e1.E.Kind),.loaded ⟨blkOf A0,offOf A0+i1*14+3,none⟩ (vI e1.E.N),.loaded ⟨blkOf A0,offOf A0+i1*14+4,none⟩ (.slice An1 e1.E.A.length cn1),.loaded ⟨blkOf A0,offOf A0+i1*14+5,none⟩ (vI e1.If.Kind),.loaded ⟨blkOf A0,offOf A0+i1*14+6,none⟩ (vI e1.If.A.Kind),.loaded ⟨blkOf A0,offOf A0+i1*14+7,none⟩ (vI e1.If.A.N),.loaded ⟨blkOf A0,offOf A0+i1*14+8,none⟩ (.slice An2 e1.If.A.A.length cn2),.loaded ⟨blkOf A0,offOf A0+i1*14+9,none⟩ (vI e1.If.B.Kind),.loaded ⟨blkOf A0,offOf A0+i1*14+10,none⟩ (vI e1.If.B.N),.loaded ⟨blkOf A0,offOf A0+i1*14+11,none⟩ (.slice An3 e1.If.B.A.length cn3),.loaded ⟨blkOf A0,offOf A0+i1*14+12,none⟩ (.slice An4 e1.Body.length cn4),.loaded ⟨blkOf A0,offOf A0+i1*14+13,none⟩ (.slice An5 e1.Else.length cn5)] ⟨hCs1 _ (hZ _ hS.subw) 0 _ rfl,hCs1 _ (hZ _ hS.subw) 1 _ rfl,hCs1 _ (hZ _ hS.subw) 2 _ rfl,hCs1 _ (hZ _ hS.subw) 3 _ rfl,hCs1 _ (hZ _ hS.subw) 4 _ rfl,hCs1 _ (hZ _ hS.subw) 5 _ rfl,hCs1 _ (hZ _ hS.subw) 6 _ rfl,hCs1 _ (hZ _ hS.subw) 7 _ rfl,hCs1 _ (hZ _ hS.subw) 8 _ rfl,hCs1 _ (hZ _ hS.subw) 9 _ rfl,hCs1 _ (hZ _ hS.subw) 10 _ rfl,hCs1 _ (hZ _ hS.subw) 11 _ rfl,hCs1 _ (hZ _ hS.subw) 12 _ rfl,hCs1 _ (hZ _ hS.subw) 13 _ rfl,trivial⟩<|gw (some 6) (.cells #[vI 0,vI 0,vI 0,vI 0,.slice none 0 0,vI 0,vI 0,vI 0,.slice none 0 0,vI 0,vI 0,.slice none 0 0,.slice none 0 0,.slice none 0 0] 49) (fun b=>pP b 0) hS fun b1 w1 hx2 hS1=>?_
  refine gb0 [4] [(5,vI (i1:Int))]<|gs b1 0 #[vI 0,vI 0,vI 0,vI 0,.slice none 0 0,vI 0,vI 0,vI 0,.slice none 0 0,vI 0,vI 0,.slice none 0 0,.slice none 0 0,.slice none 0 0] 49 [vI e1.Kind,vI e1.N,vI e1.E.Kind,vI e1.E.N,.slice An1 e1.E.A.length cn1,vI e1.If.Kind,vI e1.If.A.Kind,vI e1.If.A.N,.slice An2 e1.If.A.A.length cn2,vI e1.If.B.Kind,vI e1.If.B.N,.slice An3 e1.If.B.A.length cn3,.slice An4 e1.Body.length cn4,.slice An5 e1.Else.length cn5] hS1 fun w2 hS2=>?_
  have hS3:=hS2.nc #[vI e1.Kind,vI e1.N,vI e1.E.Kind,vI e1.E.N,.slice An1 e1.E.A.length cn1,vI e1.If.Kind,vI e1.If.A.Kind,vI e1.If.A.N,.slice An2 e1.If.A.A.length cn2,vI e1.If.B.Kind,vI e1.If.B.N,.slice An3 e1.If.B.A.length cn3,.slice An4 e1.Body.length cn4,.slice An5 e1.Else.length cn5] (by kernel_rfl)
  refine gn hK9<|ws fun K10 hK10=>wr [(0,0),(1,0),(2,0),(3,0),(4,1),(5,2)]<|gb0 [0,1] [(21,vI (i1:Int)),(20,.slice A1 l1.length c1)] ?_
  rcases hx3:l1[i1]? with _ | e2
  ·rw [hx3] at h; cases h
  rw [hx3] at h
  simp only [] at h
  obtain ⟨An6,cn6,An7,cn7,An8,cn8,An9,cn9,An10,cn10,hCs2,hLn6,hRn6,hLn7,hRn7,hLn8,hRn8,hLn9,hRn9,hLn10,hRn10⟩:=SStmt.getZ hR1 hx3
  refine gi 22 0 38 49 14 l1.length c1 (.tmp 20) (.tmp 21) A1 .i64 (i1:Int) i1 (hR1.eqSome (hZ _ hS3.subw) (pos_of_get hx3)) rfl (lt_of_get hx3) ?_
  refine gb [3] [(23,.agg #[vI e2.Kind,vI e2.N,vI e2.E.Kind,vI e2.E.N,.slice An6 e2.E.A.length cn6,vI e2.If.Kind,vI e2.If.A.Kind,vI e2.If.A.N,.slice An7 e2.If.A.A.length cn7,vI e2.If.B.Kind,vI e2.If.B.N,.slice An8 e2.If.B.A.length cn8,.slice An9 e2.Body.length cn9,.slice An10 e2.Else.length cn10])] [.loaded ⟨blkOf A1,offOf A1+i1*14,none⟩ (vI e2.Kind),.loaded ⟨blkOf A1,offOf A1+i1*14+1,none⟩ (vI e2.N),.loaded ⟨blkOf A1,offOf A1+i1*14+2,none⟩ (vI e2.E.Kind),.loaded ⟨blkOf A1,offOf A1+i1*14+3,none⟩ (vI e2.E.N),.loaded ⟨blkOf A1,offOf A1+i1*14+4,none⟩ (.slice An6 e2.E.A.length cn6),.loaded ⟨blkOf A1,offOf A1+i1*14+5,none⟩ (vI e2.If.Kind),.loaded ⟨blkOf A1,offOf A1+i1*14+6,none⟩ (vI e2.If.A.Kind),.loaded ⟨blkOf A1,offOf A1+i1*14+7,none⟩ (vI e2.If.A.N),.loaded ⟨blkOf A1,offOf A1+i1*14+8,none⟩ (.slice An7 e2.If.A.A.length cn7),.loaded ⟨blkOf A1,offOf A1+i1*14+9,none⟩ (vI e2.If.B.Kind),.loaded ⟨blkOf A1,offOf A1+i1*14+10,none⟩ (vI e2.If.B.N),.loaded ⟨blkOf A1,offOf A1+i1*14+11,none⟩ (.slice An8 e2.If.B.A.length cn8),.loaded ⟨blkOf A1,offOf A1+i1*14+12,none⟩ (.slice An9 e2.Body.length cn9),.loaded ⟨blkOf A1,offOf A1+i1*14+13,none⟩ (.slice An10 e2.Else.length cn10)] ⟨hCs2 _ (hZ _ hS3.subw) 0 _ rfl,hCs2 _ (hZ _ hS3.subw) 1 _ rfl,hCs2 _ (hZ _ hS3.subw) 2 _ rfl,hCs2 _ (hZ _ hS3.subw) 3 _ rfl,hCs2 _ (hZ _ hS3.subw) 4 _ rfl,hCs2 _ (hZ _ hS3.subw) 5 _ rfl,hCs2 _ (hZ _ hS3.subw) 6 _ rfl,hCs2 _ (hZ _ hS3.subw) 7 _ rfl,hCs2 _ (hZ _ hS3.subw) 8 _ rfl,hCs2 _ (hZ _ hS3.subw) 9 _ rfl,hCs2 _ (hZ _ hS3.subw) 10 _ rfl,hCs2 _ (hZ _ hS3.subw) 11 _ rfl,hCs2 _ (hZ _ hS3.subw) 12 _ rfl,hCs2 _ (hZ _ hS3.subw) 13 _ rfl,trivial⟩<|gw (some 7) (.cells #[vI 0,vI 0,vI 0,vI 0,.slice none 0 0,vI 0,vI 0,vI 0,.slice none 0 0,vI 0,vI 0,.slice none 0 0,.slice none 0 0,.slice none 0 0] 49) (fun b=>pP b 0) hS3 fun b2 w3 hx4 hS4=>?_
  refine gs b2 0 #[vI 0,vI 0,vI 0,vI 0,.slice none 0 0,vI 0,vI 0,vI 0,.slice none 0 0,vI 0,vI 0,.slice none 0 0,.slice none 0 0,.slice none 0 0] 49 [vI e2.Kind,vI e2.N,vI e2.E.Kind,vI e2.E.N,.slice An6 e2.E.A.length cn6,vI e2.If.Kind,vI e2.If.A.Kind,vI e2.If.A.N,.slice An7 e2.If.A.A.length cn7,vI e2.If.B.Kind,vI e2.If.B.N,.slice An8 e2.If.B.A.length cn8,.slice An9 e2.Body.length cn9,.slice An10 e2.Else.length cn10] hS4 fun w4 hS5=>?_
  have hS6:=hS5.nc #[vI e2.Kind,vI e2.N,vI e2.E.Kind,vI e2.E.N,.slice An6 e2.E.A.length cn6,vI e2.If.Kind,vI e2.If.A.Kind,vI e2.If.A.N,.slice An7 e2.If.A.A.length cn7,vI e2.If.B.Kind,vI e2.If.B.N,.slice An8 e2.If.B.A.length cn8,.slice An9 e2.Body.length cn9,.slice An10 e2.Else.length cn10] (by kernel_rfl)
  refine gn hK10<|ws fun K11 hK11=>wr [(0,0),(1,0),(2,0),(3,0),(4,0),(5,0),(6,0),(7,0),(8,0),(9,0),(10,0),(11,0),(12,0),(13,0),(14,0),(15,0),(16,0),(17,0),(18,0),(19,0),(20,0),(21,0),(22,0),(23,0),(24,0),(25,0),(26,1),(27,0),(28,0),(29,0),(30,0),(31,0),(32,0),(33,0),(34,0),(35,0),(36,1),(37,0),(38,0),(39,0),(40,0),(41,0),(42,0),(43,0),(44,0),(45,0),(46,1),(47,0),(48,0),(49,0),(50,0),(51,0),(52,0),(53,0),(54,1),(55,0),(56,0),(57,0),(58,0),(59,0),(60,0),(61,0),(62,1),(63,0),(64,0)]<|gb [0,1,2,3,4,5] [(29,.bool (e1.Kind != e2.Kind)),(28,.bool (e1.Kind != e2.Kind)),(27,vI e2.Kind),(26,pP b2 0),(25,vI e1.Kind),(24,pP b1 0)] [ld b1 0 (vI e1.Kind),ld b2 0 (vI e2.Kind)] ⟨hS6.c 1,hS6.c 0,trivial⟩ ?_
  by_cases hc3:e1.Kind=e2.Kind
  ·rw [if_pos hc3] at h
   refine gk 29 (e1.Kind != e2.Kind) false (bne_eq_false_iff_eq.2 hc3)<|gb [6,7,8,9,10,11,12] [(36,.bool (e1.N != e2.N)),(35,.bool (e1.N != e2.N)),(34,.bool (e1.N != e2.N)),(33,vI e2.N),(32,pP b2 1),(31,vI e1.N),(30,pP b1 1)] [ld b1 1 (vI e1.N),ld b2 1 (vI e2.N)] ⟨hS6.c 1,hS6.c 0,trivial⟩ ?_
   by_cases hc4:e1.N=e2.N
   ·rw [if_pos hc4] at h
    refine gk 36 (e1.N != e2.N) false (bne_eq_false_iff_eq.2 hc4)<|gb [13,14,15,16,17,18,19,20,21] [(45,.bool (e1.If.Kind != e2.If.Kind)),(44,.bool (e1.If.Kind != e2.If.Kind)),(43,.bool (e1.If.Kind != e2.If.Kind)),(42,vI e2.If.Kind),(41,pP b2 5),(40,pP b2 5),(39,vI e1.If.Kind),(38,pP b1 5),(37,pP b1 5)] [ld b1 5 (vI e1.If.Kind),ld b2 5 (vI e2.If.Kind)] ⟨hS6.c 1,hS6.c 0,trivial⟩ ?_
    by_cases hc5:e1.If.Kind=e2.If.Kind
    ·rw [if_pos hc5] at h
     refine gk 45 (e1.If.Kind != e2.If.Kind) false (bne_eq_false_iff_eq.2 hc5) ?_
     rcases hq1:punctualsame_Exprs.f K e1.E.Kind e1.E.N e1.E.A e2.E.Kind e2.E.N e2.E.A with _ | r1
     ·rw [hq1] at h; cases h
     rw [hq1] at h
     simp only [] at h
     refine gb [22,23,24,25] [(49,.agg #[vI e2.E.Kind,vI e2.E.N,.slice An6 e2.E.A.length cn6]),(48,pP b2 2),(47,.agg #[vI e1.E.Kind,vI e1.E.N,.slice An1 e1.E.A.length cn1]),(46,pP b1 2)] [ld b1 2 (vI e1.E.Kind),ld b1 3 (vI e1.E.N),ld b1 4 (.slice An1 e1.E.A.length cn1),ld b2 2 (vI e2.E.Kind),ld b2 3 (vI e2.E.N),ld b2 4 (.slice An6 e2.E.A.length cn6)] ⟨hS6.c 1,hS6.c 1,hS6.c 1,hS6.c 0,hS6.c 0,hS6.c 0,trivial⟩<|ge_call (d:=some 50) (f:=56) (args:=#[.agg #[vI e1.E.Kind,vI e1.E.N,.slice An1 e1.E.A.length cn1],.agg #[vI e2.E.Kind,vI e2.E.N,.slice An6 e2.E.A.length cn6]]) (by kernel_rfl) (punctualsame_Exprs_ok K Z e1.E.Kind e1.E.N e1.E.A An1 cn1 e2.E.Kind e2.E.N e2.E.A An6 cn6 _ (fun w' k=>(hZ w' (hS6.subw.trans k))) hRn1 hLn1 hRn6 hLn6 _ hq1) ?_
     rintro _ w5 ⟨rfl,hS7⟩
     refine ⟨_,rfl,hS7.below,?_⟩
     have hS8:=hS6.call hS7
     refine gb0 [27,28,29] [(53,.bool (!r1)),(52,.bool (!r1)),(51,.bool (!r1))] ?_
     by_cases hc6:r1=true
     ·rw [if_pos hc6] at h
      refine gk 53 (!r1) false (congrArg (fun z=>!z) hc6) ?_
      rcases hq2:punctualsame_Exprs.f K e1.If.A.Kind e1.If.A.N e1.If.A.A e2.If.A.Kind e2.If.A.N e2.If.A.A with _ | r2
      ·rw [hq2] at h; cases h
      rw [hq2] at h
      simp only [] at h
      refine gb [30,31,32,33,34,35] [(59,.agg #[vI e2.If.A.Kind,vI e2.If.A.N,.slice An7 e2.If.A.A.length cn7]),(58,pP b2 6),(57,pP b2 5),(56,.agg #[vI e1.If.A.Kind,vI e1.If.A.N,.slice An2 e1.If.A.A.length cn2]),(55,pP b1 6),(54,pP b1 5)] [ld b1 6 (vI e1.If.A.Kind),ld b1 7 (vI e1.If.A.N),ld b1 8 (.slice An2 e1.If.A.A.length cn2),ld b2 6 (vI e2.If.A.Kind),ld b2 7 (vI e2.If.A.N),ld b2 8 (.slice An7 e2.If.A.A.length cn7)] ⟨hS8.c 1,hS8.c 1,hS8.c 1,hS8.c 0,hS8.c 0,hS8.c 0,trivial⟩<|ge_call (d:=some 60) (f:=56) (args:=#[.agg #[vI e1.If.A.Kind,vI e1.If.A.N,.slice An2 e1.If.A.A.length cn2],.agg #[vI e2.If.A.Kind,vI e2.If.A.N,.slice An7 e2.If.A.A.length cn7]]) (by kernel_rfl) (punctualsame_Exprs_ok K Z e1.If.A.Kind e1.If.A.N e1.If.A.A An2 cn2 e2.If.A.Kind e2.If.A.N e2.If.A.A An7 cn7 _ (fun w' k=>(hZ w' (hS8.subw.trans k))) hRn2 hLn2 hRn7 hLn7 _ hq2) ?_
      rintro _ w6 ⟨rfl,hS9⟩
      refine ⟨_,rfl,hS9.below,?_⟩
      have hS10:=hS8.call hS9
      refine gb0 [37,38,39] [(63,.bool (!r2)),(62,.bool (!r2)),(61,.bool (!r2))] ?_
      by_cases hc7:r2=true
      ·rw [if_pos hc7] at h
       refine gk 63 (!r2) false (congrArg (fun z=>!z) hc7) ?_
       rcases hq3:punctualsame_Exprs.f K e1.If.B.Kind e1.If.B.N e1.If.B.A e2.If.B.Kind e2.If.B.N e2.If.B.A with _ | r3
       ·rw [hq3] at h; cases h
       rw [hq3] at h
       simp only [] at h
       refine gb [40,41,42,43,44,45] [(69,.agg #[vI e2.If.B.Kind,vI e2.If.B.N,.slice An8 e2.If.B.A.length cn8]),(68,pP b2 9),(67,pP b2 5),(66,.agg #[vI e1.If.B.Kind,vI e1.If.B.N,.slice An3 e1.If.B.A.length cn3]),(65,pP b1 9),(64,pP b1 5)] [ld b1 9 (vI e1.If.B.Kind),ld b1 10 (vI e1.If.B.N),ld b1 11 (.slice An3 e1.If.B.A.length cn3),ld b2 9 (vI e2.If.B.Kind),ld b2 10 (vI e2.If.B.N),ld b2 11 (.slice An8 e2.If.B.A.length cn8)] ⟨hS10.c 1,hS10.c 1,hS10.c 1,hS10.c 0,hS10.c 0,hS10.c 0,trivial⟩<|ge_call (d:=some 70) (f:=56) (args:=#[.agg #[vI e1.If.B.Kind,vI e1.If.B.N,.slice An3 e1.If.B.A.length cn3],.agg #[vI e2.If.B.Kind,vI e2.If.B.N,.slice An8 e2.If.B.A.length cn8]]) (by kernel_rfl) (punctualsame_Exprs_ok K Z e1.If.B.Kind e1.If.B.N e1.If.B.A An3 cn3 e2.If.B.Kind e2.If.B.N e2.If.B.A An8 cn8 _ (fun w' k=>(hZ w' (hS10.subw.trans k))) hRn3 hLn3 hRn8 hLn8 _ hq3) ?_
       rintro _ w7 ⟨rfl,hS11⟩
       refine ⟨_,rfl,hS11.below,?_⟩
       have hS12:=hS10.call hS11
       refine gb0 [47,48,49] [(73,.bool (!r3)),(72,.bool (!r3)),(71,.bool (!r3))] ?_
       by_cases hc8:r3=true
       ·rw [if_pos hc8] at h
        refine gk 73 (!r3) false (congrArg (fun z=>!z) hc8) ?_
        rcases hq4:rec_punctualsame_Bodies e1.Body e2.Body with _ | r4
        ·rw [hq4] at h; cases h
        rw [hq4] at h
        simp only [] at h
        refine gb [50,51,52,53] [(77,.slice An9 e2.Body.length cn9),(76,pP b2 12),(75,.slice An4 e1.Body.length cn4),(74,pP b1 12)] [ld b1 12 (.slice An4 e1.Body.length cn4),ld b2 12 (.slice An9 e2.Body.length cn9)] ⟨hS12.c 1,hS12.c 0,trivial⟩<|ge_call (d:=some 78) (f:=28) (args:=#[.slice An4 e1.Body.length cn4,.slice An9 e2.Body.length cn9]) (by kernel_rfl) (hr_punctualsame_Bodies Z e1.Body An4 cn4 e2.Body An9 cn9 _ (fun w' k=>(hZ w' (hS12.subw.trans k))) hRn4 hLn4 hRn9 hLn9 _ hq4) ?_
        rintro _ w8 ⟨rfl,hS13⟩
        refine ⟨_,rfl,hS13.below,?_⟩
        have hS14:=hS12.call hS13
        refine gb0 [55,56,57] [(81,.bool (!r4)),(80,.bool (!r4)),(79,.bool (!r4))] ?_
        by_cases hc9:r4=true
        ·rw [if_pos hc9] at h
         refine gk 81 (!r4) false (congrArg (fun z=>!z) hc9) ?_
         rcases hq5:rec_punctualsame_Bodies e1.Else e2.Else with _ | r5
         ·rw [hq5] at h; cases h
         rw [hq5] at h
         simp only [] at h
         refine gb [58,59,60,61] [(85,.slice An10 e2.Else.length cn10),(84,pP b2 13),(83,.slice An5 e1.Else.length cn5),(82,pP b1 13)] [ld b1 13 (.slice An5 e1.Else.length cn5),ld b2 13 (.slice An10 e2.Else.length cn10)] ⟨hS14.c 1,hS14.c 0,trivial⟩<|ge_call (d:=some 86) (f:=28) (args:=#[.slice An5 e1.Else.length cn5,.slice An10 e2.Else.length cn10]) (by kernel_rfl) (hr_punctualsame_Bodies Z e1.Else An5 cn5 e2.Else An10 cn10 _ (fun w' k=>(hZ w' (hS14.subw.trans k))) hRn5 hLn5 hRn10 hLn10 _ hq5) ?_
         rintro _ w9 ⟨rfl,hS15⟩
         refine ⟨_,rfl,hS15.below,?_⟩
         have hS16:=hS14.call hS15
         refine gb0 [63,64] [(88,.bool (!r5)),(87,.bool (!r5))]<|gn hK11 ?_
         by_cases hc10:r5=true
         ·rw [if_pos hc10] at h
          refine wk 88 (!r5) false (congrArg (fun z=>!z) hc10)<|wf<|we_skip fun a hF=>hK8 _ _ ?_ a hF
          refine wr [(0,0),(1,0)]<|ge_addn (d:=89) (ty:=3) (x:=(.tmp 15)) (y:=(.const (vI 1))) (t:=3) (t2:=3) (k:=.i64) (m:=i1) (by kernel_rfl) (by kernel_rfl) (by kernel_rfl) (by have h0:=RdZ.small hR0 (hZ _ hS16.subw); omega) ?_
          refine gb0 [1] [(15,vI ((i1+1:Nat):Int))] ?_
          have hS17:=hS16.takeN 0
          obtain rfl:=si h
          exact ge_nil fun a hF=>hQ _ _ _ (Outs.again ⟨hS17,hF.weaken ea⟩)
         rw [if_neg hc10] at h
         refine wk 88 (!r5) true (congrArg (fun z=>!z) (Bool.eq_false_iff.2 hc10))<|wt<|ws fun K12 hK12=>wr [(0,0)]<|gb0 [0] [(4,.bool false)]<|gn hK12 ?_
         have hS18:=hS16.takeN 0
         obtain rfl:=si h
         exact we_ret fun a hF=>hQ _ _ _ (Outs.out nofun (Exits.on ⟨rfl,(pr0 [.tmp 4] [.bool false] ⟨rfl,hS18⟩) a hF⟩))
        rw [if_neg hc9] at h
        refine gk 81 (!r4) true (congrArg (fun z=>!z) (Bool.eq_false_iff.2 hc9))<|gb0 [58,59,60,61] [(85,undef),(84,undef),(83,undef),(82,undef)]<|ge_off rfl rfl rfl (by kernel_rfl) ?_
        refine gb0 [63,64] [(88,.bool true),(87,undef)]<|gn hK11<|wt<|ws fun K13 hK13=>wr [(0,0)]<|gb0 [0] [(4,.bool false)]<|gn hK13 ?_
        have hS19:=hS14.takeN 0
        obtain rfl:=si h
        exact we_ret fun a hF=>hQ _ _ _ (Outs.out nofun (Exits.on ⟨rfl,(pr0 [.tmp 4] [.bool false] ⟨rfl,hS19⟩) a hF⟩))
       rw [if_neg hc8] at h
       refine gk 73 (!r3) true (congrArg (fun z=>!z) (Bool.eq_false_iff.2 hc8))<|gb0 [50,51,52,53] [(77,undef),(76,undef),(75,undef),(74,undef)]<|ge_off rfl rfl rfl (by kernel_rfl) ?_
       refine gb0 [55,56,57,58,59,60,61] [(85,undef),(84,undef),(83,undef),(82,undef),(81,.bool true),(80,.bool true),(79,undef)]<|ge_off rfl rfl rfl (by kernel_rfl) ?_
       refine gb0 [63,64] [(88,.bool true),(87,undef)]<|gn hK11<|wt<|ws fun K14 hK14=>wr [(0,0)]<|gb0 [0] [(4,.bool false)]<|gn hK14 ?_
       have hS20:=hS12.takeN 0
       obtain rfl:=si h
       exact we_ret fun a hF=>hQ _ _ _ (Outs.out nofun (Exits.on ⟨rfl,(pr0 [.tmp 4] [.bool false] ⟨rfl,hS20⟩) a hF⟩))
      rw [if_neg hc7] at h
      refine gk 63 (!r2) true (congrArg (fun z=>!z) (Bool.eq_false_iff.2 hc7))<|gb0 [40,41,42,43,44,45] [(69,undef),(68,undef),(67,undef),(66,undef),(65,undef),(64,undef)]<|ge_off rfl rfl rfl (by kernel_rfl) ?_
      refine gb0 [47,48,49,50,51,52,53] [(77,undef),(76,undef),(75,undef),(74,undef),(73,.bool true),(72,.bool true),(71,undef)]<|ge_off rfl rfl rfl (by kernel_rfl) ?_
      refine gb0 [55,56,57,58,59,60,61] [(85,undef),(84,undef),(83,undef),(82,undef),(81,.bool true),(80,.bool true),(79,undef)]<|ge_off rfl rfl rfl (by kernel_rfl) ?_
      refine gb0 [63,64] [(88,.bool true),(87,undef)]<|gn hK11<|wt<|ws fun K15 hK15=>wr [(0,0)]<|gb0 [0] [(4,.bool false)]<|gn hK15 ?_
      have hS21:=hS10.takeN 0
      obtain rfl:=si h
      exact we_ret fun a hF=>hQ _ _ _ (Outs.out nofun (Exits.on ⟨rfl,(pr0 [.tmp 4] [.bool false] ⟨rfl,hS21⟩) a hF⟩))
     rw [if_neg hc6] at h
     refine gk 53 (!r1) true (congrArg (fun z=>!z) (Bool.eq_false_iff.2 hc6))<|gb0 [30,31,32,33,34,35] [(59,undef),(58,undef),(57,undef),(56,undef),(55,undef),(54,undef)]<|ge_off rfl rfl rfl (by kernel_rfl) ?_
     refine gb0 [37,38,39,40,41,42,43,44,45] [(69,undef),(68,undef),(67,undef),(66,undef),(65,undef),(64,undef),(63,.bool true),(62,.bool true),(61,undef)]<|ge_off rfl rfl rfl (by kernel_rfl) ?_
     refine gb0 [47,48,49,50,51,52,53] [(77,undef),(76,undef),(75,undef),(74,undef),(73,.bool true),(72,.bool true),(71,undef)]<|ge_off rfl rfl rfl (by kernel_rfl) ?_
     refine gb0 [55,56,57,58,59,60,61] [(85,undef),(84,undef),(83,undef),(82,undef),(81,.bool true),(80,.bool true),(79,undef)]<|ge_off rfl rfl rfl (by kernel_rfl) ?_
     refine gb0 [63,64] [(88,.bool true),(87,undef)]<|gn hK11<|wt<|ws fun K16 hK16=>wr [(0,0)]<|gb0 [0] [(4,.bool false)]<|gn hK16 ?_
     have hS22:=hS8.takeN 0
     obtain rfl:=si h
     exact we_ret fun a hF=>hQ _ _ _ (Outs.out nofun (Exits.on ⟨rfl,(pr0 [.tmp 4] [.bool false] ⟨rfl,hS22⟩) a hF⟩))
    rw [if_neg hc5] at h
    refine gk 45 (e1.If.Kind != e2.If.Kind) true (bne_iff_ne.2 hc5)<|gb0 [22,23,24,25] [(49,undef),(48,undef),(47,undef),(46,undef)]<|ge_off rfl rfl rfl (by kernel_rfl) ?_
    refine gb0 [27,28,29,30,31,32,33,34,35] [(59,undef),(58,undef),(57,undef),(56,undef),(55,undef),(54,undef),(53,.bool true),(52,.bool true),(51,undef)]<|ge_off rfl rfl rfl (by kernel_rfl) ?_
    refine gb0 [37,38,39,40,41,42,43,44,45] [(69,undef),(68,undef),(67,undef),(66,undef),(65,undef),(64,undef),(63,.bool true),(62,.bool true),(61,undef)]<|ge_off rfl rfl rfl (by kernel_rfl) ?_
    refine gb0 [47,48,49,50,51,52,53] [(77,undef),(76,undef),(75,undef),(74,undef),(73,.bool true),(72,.bool true),(71,undef)]<|ge_off rfl rfl rfl (by kernel_rfl) ?_
    refine gb0 [55,56,57,58,59,60,61] [(85,undef),(84,undef),(83,undef),(82,undef),(81,.bool true),(80,.bool true),(79,undef)]<|ge_off rfl rfl rfl (by kernel_rfl) ?_
    refine gb0 [63,64] [(88,.bool true),(87,undef)]<|gn hK11<|wt<|ws fun K17 hK17=>wr [(0,0)]<|gb0 [0] [(4,.bool false)]<|gn hK17 ?_
    have hS23:=hS6.takeN 0
    obtain rfl:=si h
    exact we_ret fun a hF=>hQ _ _ _ (Outs.out nofun (Exits.on ⟨rfl,(pr0 [.tmp 4] [.bool false] ⟨rfl,hS23⟩) a hF⟩))
   rw [if_neg hc4] at h
   refine gk 36 (e1.N != e2.N) true (bne_iff_ne.2 hc4)<|gb0 [13,14,15,16,17,18,19,20,21,22,23,24,25] [(49,undef),(48,undef),(47,undef),(46,undef),(45,.bool true),(44,.bool true),(43,undef),(42,undef),(41,undef),(40,undef),(39,undef),(38,undef),(37,undef)]<|ge_off rfl rfl rfl (by kernel_rfl) ?_
   refine gb0 [27,28,29,30,31,32,33,34,35] [(59,undef),(58,undef),(57,undef),(56,undef),(55,undef),(54,undef),(53,.bool true),(52,.bool true),(51,undef)]<|ge_off rfl rfl rfl (by kernel_rfl) ?_
   refine gb0 [37,38,39,40,41,42,43,44,45] [(69,undef),(68,undef),(67,undef),(66,undef),(65,undef),(64,undef),(63,.bool true),(62,.bool true),(61,undef)]<|ge_off rfl rfl rfl (by kernel_rfl) ?_
   refine gb0 [47,48,49,50,51,52,53] [(77,undef),(76,undef),(75,undef),(74,undef),(73,.bool true),(72,.bool true),(71,undef)]<|ge_off rfl rfl rfl (by kernel_rfl) ?_
   refine gb0 [55,56,57,58,59,60,61] [(85,undef),(84,undef),(83,undef),(82,undef),(81,.bool true),(80,.bool true),(79,undef)]<|ge_off rfl rfl rfl (by kernel_rfl) ?_
   refine gb0 [63,64] [(88,.bool true),(87,undef)]<|gn hK11<|wt<|ws fun K18 hK18=>wr [(0,0)]<|gb0 [0] [(4,.bool false)]<|gn hK18 ?_
   have hS24:=hS6.takeN 0
   obtain rfl:=si h
   exact we_ret fun a hF=>hQ _ _ _ (Outs.out nofun (Exits.on ⟨rfl,(pr0 [.tmp 4] [.bool false] ⟨rfl,hS24⟩) a hF⟩))
  rw [if_neg hc3] at h
  refine gk 29 (e1.Kind != e2.Kind) true (bne_iff_ne.2 hc3)<|gb0 [6,7,8,9,10,11,12,13,14,15,16,17,18,19,20,21,22,23,24,25] [(49,undef),(48,undef),(47,undef),(46,undef),(45,.bool true),(44,.bool true),(43,undef),(42,undef),(41,undef),(40,undef),(39,undef),(38,undef),(37,undef),(36,.bool true),(35,.bool true),(34,undef),(33,undef),(32,undef),(31,undef),(30,undef)]<|ge_off rfl rfl rfl (by kernel_rfl) ?_
  refine gb0 [27,28,29,30,31,32,33,34,35] [(59,undef),(58,undef),(57,undef),(56,undef),(55,undef),(54,undef),(53,.bool true),(52,.bool true),(51,undef)]<|ge_off rfl rfl rfl (by kernel_rfl) ?_
  refine gb0 [37,38,39,40,41,42,43,44,45] [(69,undef),(68,undef),(67,undef),(66,undef),(65,undef),(64,undef),(63,.bool true),(62,.bool true),(61,undef)]<|ge_off rfl rfl rfl (by kernel_rfl) ?_
  refine gb0 [47,48,49,50,51,52,53] [(77,undef),(76,undef),(75,undef),(74,undef),(73,.bool true),(72,.bool true),(71,undef)]<|ge_off rfl rfl rfl (by kernel_rfl) ?_
  refine gb0 [55,56,57,58,59,60,61] [(85,undef),(84,undef),(83,undef),(82,undef),(81,.bool true),(80,.bool true),(79,undef)]<|ge_off rfl rfl rfl (by kernel_rfl) ?_
  refine gb0 [63,64] [(88,.bool true),(87,undef)]<|gn hK11<|wt<|ws fun K19 hK19=>wr [(0,0)]<|gb0 [0] [(4,.bool false)]<|gn hK19 ?_
  have hS25:=hS6.takeN 0
  obtain rfl:=si h
  exact we_ret fun a hF=>hQ _ _ _ (Outs.out nofun (Exits.on ⟨rfl,(pr0 [.tmp 4] [.bool false] ⟨rfl,hS25⟩) a hF⟩))
 rw [if_neg hc2] at h
 refine wk 16 (decide ((i1:Int)<(l0.length:Int))) false (decide_eq_false hc2)<|wf ?_
 obtain rfl:=si h
 exact we_exit fun a hF=>hQ _ _ _ (Outs.out nofun (Exits.here ⟨hS,hF.weaken trivial⟩))
theorem punctualsame_Bodies_step (K:Nat) (rec_punctualsame_Bodies:(List SStmt)→(List SStmt)→Option Bool) (hr_punctualsame_Bodies:punctualsame_Bodies.Rec rec_punctualsame_Bodies) (Z:Zone) (l0:List SStmt) (A0:OA) (c0:Nat) (l1:List SStmt) (A1:OA) (c1:Nat) (w0:World) (hZ:∀ w,Sub w0 w→Z w) (hR0:RdZ Z A0 l0) (hL0:l0.length≤c0) (hR1:RdZ Z A1 l1) (hL1:l1.length≤c1) (r:Bool) (h:punctualsame_Bodies.b K rec_punctualsame_Bodies l0 l1=some r) :
  Calls Try.prog 28 #[.slice A0 l0.length c0,.slice A1 l1.length c1] w0 (punctualsame_Bodies.Post w0 r):=by
 have hS:=St.start w0
 unfold punctualsame_Bodies.b at h
 refine calls_enter (n:=90) (args:=[.slice A0 l0.length c0,.slice A1 l1.length c1]) (fn:=Try.f28) rfl rfl rfl rfl ?_
 show WE _ _ _ _ [(0,.slice A0 l0.length c0),(1,.slice A1 l1.length c1)] _
 refine ws fun K1 hK1=>wr [(0,0)]<|gb0 [0] [(4,.bool false)]<|gn hK1<|ws fun K2 hK2=>ws fun K3 hK3=>wr [(0,0),(1,0),(2,0),(3,0),(4,0)]<|gb0 [0,1,2,3,4] [(12,.bool ((l0.length:Int) != (l1.length:Int))),(11,vI (l1.length:Int)),(10,.slice A1 l1.length c1),(9,vI (l0.length:Int)),(8,.slice A0 l0.length c0)]<|gn hK3 ?_
 by_cases hc1:(l0.length:Int)=(l1.length:Int)
 ·rw [if_pos hc1] at h
  refine wk 12 ((l0.length:Int) != (l1.length:Int)) false (bne_eq_false_iff_eq.2 hc1)<|wf<|we_skip fun a hF=>hK2 _ _ ?_ a hF
  refine ws fun K4 hK4=>ws fun K5 hK5=>wr [(0,0),(1,0),(2,0)]<|gb0 [0,1,2] [(15,vI 0),(14,vI (l0.length:Int)),(13,.slice A0 l0.length c0)]<|gn hK5<|we_block ?_
  rcases hq6:iter (punctualsame_Bodies.r0 K l0 l1 rec_punctualsame_Bodies) K 0 with _ | (_ | rr1)
  ·rw [hq6] at h; cases h
  ·rw [hq6] at h
   simp only [] at h
   refine we_iter (A:=punctualsame_Bodies.A0 w0 l0 A0 c0 l1 A1 c1) (B:=punctualsame_Bodies.B0 w0) hq6 (fun a hF=>⟨hS,hF.weaken ea⟩) (fun s o hf a w hA Q hQ=>punctualsame_Bodies_r0 K w0 Z l0 A0 c0 l1 A1 c1 hZ hR0 hL0 hR1 hL1 rec_punctualsame_Bodies hr_punctualsame_Bodies hc1 s o hf a w hA Q hQ) ?_
   rintro _ a w10 _ ⟨rfl,hS26,hF⟩
   replace hS26:St w0 w10 []:=hS26
   refine hK4 [] w10 ?_ a hF
   refine ws fun K20 hK20=>wr [(0,0)]<|gb0 [0] [(4,.bool true)]<|gn hK20 ?_
   obtain rfl:=si h
   exact we_ret (pr0 [.tmp 4] [.bool true] ⟨rfl,hS26⟩)
  rw [hq6] at h
  simp only [] at h
  refine we_iter (A:=punctualsame_Bodies.A0 w0 l0 A0 c0 l1 A1 c1) (B:=punctualsame_Bodies.B0 w0) hq6 (fun a hF=>⟨hS,hF.weaken ea⟩) (fun s o hf a w hA Q hQ=>punctualsame_Bodies_r0 K w0 Z l0 A0 c0 l1 A1 c1 hZ hR0 hL0 hR1 hL1 rec_punctualsame_Bodies hr_punctualsame_Bodies hc1 s o hf a w hA Q hQ) ?_
  rintro _ a w1 _ ⟨rfl,hb⟩
  obtain rfl:=si h
  exact hb
 rw [if_neg hc1] at h
 refine wk 12 ((l0.length:Int) != (l1.length:Int)) true (bne_iff_ne.2 hc1)<|wt<|ws fun K21 hK21=>wr [(0,0)]<|gb0 [0] [(4,.bool false)]<|gn hK21 ?_
 obtain rfl:=si h
 exact we_ret (pr0 [.tmp 4] [.bool false] ⟨rfl,hS⟩)
def punctualsame_Bodies.recs (K : Nat) : Nat → ((List SStmt) → (List SStmt) → Option Bool)
 | 0=>fun _ _=>none
 | n+1=>punctualsame_Bodies.b K (punctualsame_Bodies.recs K n)
theorem punctualsame_Bodies_all (K n:Nat):punctualsame_Bodies.Rec (punctualsame_Bodies.recs K n):=by
 induction n with
 | zero=>exact (by unfold punctualsame_Bodies.Rec; intros; rename_i h; cases (show none=some _ from h))
 | succ n ih=>exact punctualsame_Bodies_step K _ ih
def punctualsame_Bodies.f (K : Nat) (l0 : List SStmt) (l1 : List SStmt) : Option Bool := (punctualsame_Bodies.recs K K) l0 l1
theorem punctualsame_Bodies_ok (K:Nat) (Z:Zone) (l0:List SStmt) (A0:OA) (c0:Nat) (l1:List SStmt) (A1:OA) (c1:Nat) (w0:World) (hZ:∀ w,Sub w0 w→Z w) (hR0:RdZ Z A0 l0) (hL0:l0.length≤c0) (hR1:RdZ Z A1 l1) (hL1:l1.length≤c1) (r:Bool) (h:punctualsame_Bodies.f K l0 l1=some r):Calls Try.prog 28 #[.slice A0 l0.length c0,.slice A1 l1.length c1] w0 (punctualsame_Bodies.Post w0 r):=(punctualsame_Bodies_all K K) Z l0 A0 c0 l1 A1 c1 w0 hZ hR0 hL0 hR1 hL1 r h

/-! punctual/punctualsame.Spoil[punctual/api.Ins] -/
theorem punctualsame_Spoil_api_Ins_ok (w0 w:World) {L:List Own} (A:OA) (n c:Nat) (l:List SIns) (hS:St w0 w (Own.of (.slice A n c) 29 l::L)):Calls Try.prog 43 #[.slice A n c] w (fun e w'=>e=.returned (.tuple #[])∧St w0 w' L):=by
 refine calls_enter (n:=6) (args:=[.slice A n c]) (fn:=Try.f43) rfl rfl rfl rfl ?_
 show WE _ _ _ _ [(0,.slice A n c)] _
 refine wr [(0,0),(1,0),(2,0),(3,0),(4,2)]<|gb0 [0,1,2] [(4,vI (c:Int)),(3,.slice A n c),(2,.slice A n c)]<|ge_sliceHi (d:=5) (ty:=68) (t:=68) (el:=29) (sz:=3) (m:=n) (c:=c) (hn:=c) (x:=(.tmp 2)) (y:=(.tmp 4)) (A:=A) (k':=.i64) (hi:=(c:Int)) (by kernel_rfl) (by kernel_rfl) (by kernel_rfl) rfl (by kernel_rfl) (by kernel_rfl) (Nat.le_refl _) ?_
 refine ge_clear (α:=SIns) (m:=0) (t:=68) (el:=29) (c:=c) (k:=n) (bytes:=24) (x:=(.tmp 5)) (ty:=0) (A:=A) (z:=.agg #[vI 0,vI 0,vI 0]) (l:=l) (by kernel_rfl) (by kernel_rfl) (by kernel_rfl) (by kernel_rfl) rfl rfl hS fun w1 hS1=>?_
 exact ge_nil (pe0 [] [] ⟨rfl,hS1⟩)

/-! punctual/punctuallaw.CompileMakes -/
abbrev CompileMakes.Post (w0:World) (r:Bool) (e:Ending) (w:World):Prop:=e=.returned (.bool r)∧St w0 w []
def CompileMakes.p0 (K : Nat) : Option (Unit ⊕ Bool) :=
  match compile_Image.f K plain.f with
  | none=>none
  | some r1 =>
   if r1.2.Code=0 then
    match punctualsame_Same_api_Ins.f K r1.1 image.f with
    | none=>none
    | some r2 =>
     if r2=true then
      some (.inl ())
     else
      some (.inr false)
   else
    some (.inr false)
def CompileMakes.r1 (K : Nat) (l0 : List SStmt) (r4 : (List SIns) × SFault) (r5 : List SStmt) : Nat → Option (Nat ⊕ (Unit ⊕ Bool))
 | i1 =>
  if (i1:Int)<2 then
   match compile_Image.f K r5 with
   | none=>none
   | some r6 =>
    if (SFault.eqb r6.2 r4.2)=true then
     match punctualsame_Same_api_Ins.f K r6.1 r4.1 with
     | none=>none
     | some r7 =>
      if r7=true then
       match punctualsame_Bodies.f K r5 l0 with
       | none=>none
       | some r8 =>
        if r8=true then
         some (.inl (i1+1))
        else
         some (.inr (.inr false))
      else
       some (.inr (.inr false))
    else
     some (.inr (.inr false))
  else
   some (.inr (.inl ()))
def CompileMakes.f (K : Nat) (l0 : List SStmt) : Option Bool :=
 match CompileMakes.p0 K with
 | none=>none
 | some (.inl _) =>
  match claims.f K l0 with
  | none=>none
  | some r3 =>
   if r3=true then
    match punctualref_Compile.f K l0 with
    | none=>none
    | some r4 =>
     match punctualsame_Twin.f K l0 with
     | none=>none
     | some r5 =>
      match iter (CompileMakes.r1 K l0 r4 r5) K 0 with
      | none=>none
      | some (.inl _) =>
       some true
      | some (.inr rr1) =>
       some rr1
   else
    some true
 | some (.inr rr2) =>
  some rr2
abbrev CompileMakes.A0 (w0:World) (l0:List SStmt) (A0:OA) (c0:Nat) (wf1:World):Unit→Act→World→Prop:=fun (s:Unit) a w=>∃ (ft2:List Nat) (wf2:World),Sub wf1 wf2∧St w0 w [Own.frz ft2 wf2]∧Frm 59 a [(0,.slice A0 l0.length c0)]
abbrev CompileMakes.B0 (w0:World):Bool→Exit→Act→World→Prop:=Rets Try.prog Try.f10 (CompileMakes.Post w0)
theorem CompileMakes_p0 (K:Nat) (w0:World) (Z:Zone) (l0:List SStmt) (A0:OA) (c0:Nat) (hZ:∀ w,Sub w0 w→Z w) (hR0:RdZ Z A0 l0) (hL0:l0.length≤c0) (ft1:List Nat) (wf1:World) (o:Unit ⊕ Bool) (h:CompileMakes.p0 K=some o) (w:World) (hS:St w0 w [Own.frz ft1 wf1]) (Q:Exit→Act→World→Prop) (hQ:∀ x a w,Outs (CompileMakes.A0 w0 l0 A0 c0 wf1) (CompileMakes.B0 w0) o x a w→Q x a w):WE Try.prog 59 (subF Try.f10 [1,0]) Q [(0,.slice A0 l0.length c0),(2,.bool false)] w:=by
 simp only [CompileMakes.p0] at h
 refine ws fun K3 hK3=>wr [(0,1),(1,1),(2,0),(3,0),(4,0),(5,1),(6,0),(7,2)]<|ge_call (d:=some 11) (f:=21) (args:=#[]) (by kernel_rfl) (plain_ok (Zand Z wf1) _ (fun w' k=>⟨(hZ w' (hS.subw.trans k)),(hS.frzSub 0 rfl).trans k⟩) _ rfl) ?_
 rintro _ w1 ⟨v1,hds1,ft3,wf3,rfl,hd1,hS2⟩
 refine ⟨_,rfl,hS2.below,?_⟩
 have hS5:=((hS.call hS2).b 2).b 2
 obtain ⟨ft4,wf4,hsb2,hsb3,hS6⟩:=hS5.frzMerge
 replace hd1:DRows (Zand Z wf4) hds1 plain.f:=hd1.up (ZLe.both hsb3 hsb2)
 obtain ⟨Z1,cz1,rfl⟩:=hS6.dopen 1 rfl hd1
 have hS7:=hS6.b 1
 obtain ⟨ft5,wf5,hsb4,-,hRd1,hLd1,hS8⟩:=hS7.dfrz (Z:=Z) hd1
 rcases hq2:compile_Image.f K plain.f with _ | r1
 ·rw [hq2] at h; cases h
 rw [hq2] at h
 simp only [] at h
 refine ge_call (d:=some 12) (f:=39) (args:=#[.slice Z1 plain.f.length cz1]) (by kernel_rfl) (compile_Image_ok K (Zand Z wf5) plain.f Z1 cz1 _ (fun w' k=>⟨(hZ w' (hS8.subw.trans k)),(hS8.frzSub 0 rfl).trans k⟩) hRd1 hLd1 _ hq2) ?_
 rintro _ w2 ⟨v2,rfl,hS9⟩
 refine ⟨_,rfl,hS9.below,?_⟩
 have hS10:=hS8.call hS9
 refine gb0 [2,3,4] [(14,.agg #[vI r1.2.Code,vI r1.2.At]),(13,v2),(10,.tuple #[v2,.agg #[vI r1.2.Code,vI r1.2.At]])]<|gw (some 4) (.cells #[vI 0,vI 0] 40) (fun b=>pP b 0) hS10 fun b1 w3 hx1 hS11=>?_
 refine gb0 [6] [(3,v2)]<|gs b1 0 #[vI 0,vI 0] 40 [vI r1.2.Code,vI r1.2.At] hS11 fun w4 hS12=>?_
 have hS13:=hS12.nc #[vI r1.2.Code,vI r1.2.At] (by kernel_rfl)
 refine gn hK3<|ws fun K4 hK4=>wr [(0,0),(1,0),(2,0),(3,0),(4,0),(5,1),(6,1),(7,0),(8,0)]<|gb [0,1,2,3] [(18,.bool (r1.2.Code != 0)),(17,.bool (r1.2.Code != 0)),(16,vI r1.2.Code),(15,pP b1 0)] [ld b1 0 (vI r1.2.Code)] ⟨hS13.c 0,trivial⟩ ?_
 by_cases hc1:r1.2.Code=0
 ·rw [if_pos hc1] at h
  refine gk 18 (r1.2.Code != 0) false (bne_eq_false_iff_eq.2 hc1)<|gb0 [4] [(19,v2)]<|ge_call (d:=some 20) (f:=41) (args:=#[]) (by kernel_rfl) (image_ok _ _ rfl) ?_
  rintro _ w5 ⟨v3,rfl,hS14⟩
  refine ⟨_,rfl,hS14.below,?_⟩
  have hS15:=hS13.call hS14
  obtain ⟨Z2,cz2,rfl⟩:=hS15.open 2 rfl
  obtain ⟨Z3,cz3,rfl⟩:=hS15.open 0 rfl
  rcases hq4:punctualsame_Same_api_Ins.f K r1.1 image.f with _ | r2
  ·rw [hq4] at h; cases h
  rw [hq4] at h
  simp only [] at h
  refine ge_call (d:=some 21) (f:=40) (args:=#[(.slice Z2 r1.1.length cz2),(.slice Z3 image.f.length cz3)]) (by kernel_rfl) (punctualsame_Same_api_Ins_ok K r1.1 Z2 cz2 image.f Z3 cz3 _ (hS15.rdAt 2 rfl) (hS15.capAt 2 rfl) (hS15.rdAt 0 rfl) (hS15.capAt 0 rfl) _ hq4) ?_
  rintro _ w6 ⟨rfl,hS16⟩
  refine ⟨_,rfl,hS16.below,?_⟩
  have hS17:=hS15.call hS16
  refine gb0 [7,8] [(23,.bool (!r2)),(22,.bool (!r2))]<|gn hK4 ?_
  by_cases hc2:r2=true
  ·rw [if_pos hc2] at h
   refine wk 23 (!r2) false (congrArg (fun z=>!z) hc2)<|wf ?_
   have hS19:=hS17.p [3] rfl
   obtain rfl:=si h
   exact we_skip fun a hF=>hQ _ _ _ (Outs.again ⟨ft5,wf5,(hsb3.trans hsb4),hS19,hF.weaken ea⟩)
  rw [if_neg hc2] at h
  refine wk 23 (!r2) true (congrArg (fun z=>!z) (Bool.eq_false_iff.2 hc2))<|wt<|ws fun K5 hK5=>wr [(0,0)]<|gb0 [0] [(2,.bool false)]<|gn hK5 ?_
  have hS20:=hS17.takeN 0
  obtain rfl:=si h
  exact rq hQ fun a hF=>⟨rfl,(pr0 [.tmp 2] [.bool false] ⟨rfl,hS20⟩) a hF⟩
 rw [if_neg hc1] at h
 refine gk 18 (r1.2.Code != 0) true (bne_iff_ne.2 hc1)<|gb0 [4] [(19,undef)]<|ge_off rfl rfl rfl (by kernel_rfl) ?_
 refine ge_off rfl rfl rfl (by kernel_rfl) ?_
 refine gb0 [7,8] [(23,.bool true),(22,undef)]<|gn hK4<|wt<|ws fun K6 hK6=>wr [(0,0)]<|gb0 [0] [(2,.bool false)]<|gn hK6 ?_
 have hS21:=hS13.takeN 0
 obtain rfl:=si h
 exact rq hQ fun a hF=>⟨rfl,(pr0 [.tmp 2] [.bool false] ⟨rfl,hS21⟩) a hF⟩
abbrev CompileMakes.A1 (w0:World) (l0:List SStmt) (A0:OA) (c0:Nat) (r4:(List SIns)×SFault) (b2:Nat) (r5:List SStmt) (Z4:OA) (cz4:Nat) (Z5:OA) (cz5:Nat) (wf9:World):Nat→Act→World→Prop:=fun (s:Nat) a w=>∃ (ft10:List Nat) (wf10:World),Sub wf9 wf10∧St w0 w [bk b2 #[vI r4.2.Code,vI r4.2.At] 40,ro Z4 cz4 29 r4.1,Own.frz ft10 wf10]∧Frm 59 a [(0,.slice A0 l0.length c0),(5,(.slice Z4 r4.1.length cz4)),(6,pP b2 0),(7,.slice Z5 r5.length cz5),(34,vI (s:Int))]
abbrev CompileMakes.B1 (w0 wf9:World):(Unit ⊕ Bool)→Exit→Act→World→Prop:=Exits 0 (fun (s:Unit) a w=>∃ (ft11:List Nat) (wf11:World),Sub wf9 wf11∧St w0 w [Own.frz ft11 wf11]∧Frm 59 a []) (Rets Try.prog Try.f10 (CompileMakes.Post w0))
theorem CompileMakes_r1 (K:Nat) (w0:World) (Z:Zone) (l0:List SStmt) (A0:OA) (c0:Nat) (hZ:∀ w,Sub w0 w→Z w) (hR0:RdZ Z A0 l0) (hL0:l0.length≤c0) (ft1:List Nat) (wf1:World) (ft6:List Nat) (wf6:World) (hRz1:Sub wf1 wf6) (r3:Bool) (hc3:r3=true) (r4:(List SIns)×SFault) (b2:Nat) (r5:List SStmt) (hds2:List HStmt) (ft7:List Nat) (wf7:World) (ft8:List Nat) (wf8:World) (hsb5:Sub wf7 wf8) (hsb6:Sub wf6 wf8) (hd2:DRows (Zand Z wf8) hds2 r5) (Z4:OA) (cz4:Nat) (Z5:OA) (cz5:Nat) (ft9:List Nat) (wf9:World) (hsb7:Sub wf8 wf9) (hRd2:RdZ (Zand Z wf9) Z5 r5) (hLd2:r5.length≤cz5) (s:Nat) (o:Nat ⊕ (Unit ⊕ Bool)) (h:CompileMakes.r1 K l0 r4 r5 s=some o) (a:Act) (w:World) (hA:CompileMakes.A1 w0 l0 A0 c0 r4 b2 r5 Z4 cz4 Z5 cz5 wf9 s a w) (Q:Exit→Act→World→Prop) (hQ:∀ x a w,Outs (CompileMakes.A1 w0 l0 A0 c0 r4 b2 r5 Z4 cz4 Z5 cz5 wf9) (CompileMakes.B1 w0 wf9) o x a w→Q x a w):(subF Try.f10 [1,1,1,1,1,0,1,0,0]).wp Try.prog Q a w:=by
 obtain ⟨i1,hs⟩:∃ z,z=s:=⟨s,rfl⟩
 subst hs
 obtain ⟨ft10,wf10,hsb8,hS,hF⟩:=hA
 replace hS:St w0 w [bk b2 #[vI r4.2.Code,vI r4.2.At] 40,ro Z4 cz4 29 r4.1,Own.frz ft10 wf10]:=hS
 simp only [CompileMakes.r1] at h
 refine (?_:WE Try.prog 59 (subF Try.f10 [1,1,1,1,1,0,1,0,0]) Q [(0,.slice A0 l0.length c0),(5,(.slice Z4 r4.1.length cz4)),(6,pP b2 0),(7,.slice Z5 r5.length cz5),(34,vI (i1:Int))] w) a hF
 clear hF a
 refine ws fun K13 hK13=>wr [(0,0)]<|gb0 [0] [(35,.bool (decide ((i1:Int)<2)))]<|gn hK13<|ws fun K14 hK14=>?_
 by_cases hc4:(i1:Int)<2
 ·rw [if_pos hc4] at h
  refine wk 35 (decide ((i1:Int)<2)) true (decide_eq_true hc4)<|wt<|we_skip fun a hF=>hK14 _ _ ?_ a hF
  refine ws fun K15 hK15=>we_block<|ws fun K16 hK16=>wr [(0,0),(1,1),(2,0),(3,0),(4,0),(5,1),(6,0),(7,2)] ?_
  rcases hq9:compile_Image.f K r5 with _ | r6
  ·rw [hq9] at h; cases h
  rw [hq9] at h
  simp only [] at h
  refine gb0 [0] [(37,.slice Z5 r5.length cz5)]<|ge_call (d:=some 38) (f:=39) (args:=#[.slice Z5 r5.length cz5]) (by kernel_rfl) (compile_Image_ok K (Zand Z wf10) r5 Z5 cz5 _ (fun w' k=>⟨(hZ w' (hS.subw.trans k)),(hS.frzSub 2 rfl).trans k⟩) (hRd2.up (ZLe.up hsb8)) hLd2 _ hq9) ?_
  rintro _ w13 ⟨v6,rfl,hS39⟩
  refine ⟨_,rfl,hS39.below,?_⟩
  have hS40:=hS.call hS39
  refine gb0 [2,3,4] [(40,.agg #[vI r6.2.Code,vI r6.2.At]),(39,v6),(36,.tuple #[v6,.agg #[vI r6.2.Code,vI r6.2.At]])]<|gw (some 9) (.cells #[vI 0,vI 0] 40) (fun b=>pP b 0) hS40 fun b3 w14 hx3 hS41=>?_
  refine gb0 [6] [(8,v6)]<|gs b3 0 #[vI 0,vI 0] 40 [vI r6.2.Code,vI r6.2.At] hS41 fun w15 hS42=>?_
  have hS43:=hS42.nc #[vI r6.2.Code,vI r6.2.At] (by kernel_rfl)
  refine gn hK16<|ws fun K17 hK17=>ws fun K18 hK18=>wr [(0,0),(1,0),(2,0),(3,0),(4,0),(5,0),(6,1),(7,0),(8,0),(9,0),(10,0),(11,0),(12,1),(13,0),(14,0)]<|gb [0,1] [(42,.agg #[vI r4.2.Code,vI r4.2.At]),(41,.agg #[vI r6.2.Code,vI r6.2.At])] [ld b3 0 (vI r6.2.Code),ld b3 1 (vI r6.2.At),ld b2 0 (vI r4.2.Code),ld b2 1 (vI r4.2.At)] ⟨hS43.c 0,hS43.c 0,hS43.c 2,hS43.c 2,trivial⟩<|ge_eqs (d:=43) (ty:=4) (op:=.neq) (x:=(.tmp 41)) (y:=(.tmp 42)) (t:=40) (t2:=40) (xs:=#[vI r6.2.Code,vI r6.2.At]) (ys:=#[vI r4.2.Code,vI r4.2.At]) (r:=(SFault.eqb r6.2 r4.2)) (v:=!(SFault.eqb r6.2 r4.2)) (by kernel_rfl) (by kernel_rfl) (by kernel_rfl) (by kernel_rfl) (by kernel_rfl) rfl ?_
  refine gb0 [3] [(44,.bool (!(SFault.eqb r6.2 r4.2)))] ?_
  by_cases hc5:(SFault.eqb r6.2 r4.2)=true
  ·rw [if_pos hc5] at h
   refine gk 44 (!(SFault.eqb r6.2 r4.2)) false (congrArg (fun z=>!z) hc5)<|gb0 [4,5] [(46,(.slice Z4 r4.1.length cz4)),(45,v6)] ?_
   obtain ⟨Z6,cz6,rfl⟩:=hS43.open 1 rfl
   rcases hq10:punctualsame_Same_api_Ins.f K r6.1 r4.1 with _ | r7
   ·rw [hq10] at h; cases h
   rw [hq10] at h
   simp only [] at h
   refine ge_call (d:=some 47) (f:=40) (args:=#[(.slice Z6 r6.1.length cz6),(.slice Z4 r4.1.length cz4)]) (by kernel_rfl) (punctualsame_Same_api_Ins_ok K r6.1 Z6 cz6 r4.1 Z4 cz4 _ (hS43.rdAt 1 rfl) (hS43.capAt 1 rfl) (hS43.rdAt 3 rfl) (hS43.capAt 3 rfl) _ hq10) ?_
   rintro _ w16 ⟨rfl,hS44⟩
   refine ⟨_,rfl,hS44.below,?_⟩
   have hS45:=hS43.call hS44
   refine gb0 [7,8,9] [(50,.bool (!r7)),(49,.bool (!r7)),(48,.bool (!r7))] ?_
   by_cases hc6:r7=true
   ·rw [if_pos hc6] at h
    refine gk 50 (!r7) false (congrArg (fun z=>!z) hc6) ?_
    rcases hq11:punctualsame_Bodies.f K r5 l0 with _ | r8
    ·rw [hq11] at h; cases h
    rw [hq11] at h
    simp only [] at h
    refine gb0 [10,11] [(52,.slice A0 l0.length c0),(51,.slice Z5 r5.length cz5)]<|ge_call (d:=some 53) (f:=28) (args:=#[.slice Z5 r5.length cz5,.slice A0 l0.length c0]) (by kernel_rfl) (punctualsame_Bodies_ok K (Zand Z wf10) r5 Z5 cz5 l0 A0 c0 _ (fun w' k=>⟨(hZ w' (hS45.subw.trans k)),(hS45.frzSub 4 rfl).trans k⟩) (hRd2.up (ZLe.up hsb8)) hLd2 (hR0.up (ZLe.in _ _)) hL0 _ hq11) ?_
    rintro _ w17 ⟨rfl,hS46⟩
    refine ⟨_,rfl,hS46.below,?_⟩
    have hS47:=hS45.call hS46
    refine gb0 [13,14] [(55,.bool (!r8)),(54,.bool (!r8))]<|gn hK18 ?_
    by_cases hc7:r8=true
    ·rw [if_pos hc7] at h
     refine wk 55 (!r8) false (congrArg (fun z=>!z) hc7)<|wf<|we_skip fun a hF=>hK17 _ _ ?_ a hF
     refine wr [(0,0),(1,2)]<|gb0 [0] [(56,(.slice Z6 r6.1.length cz6))] ?_
     have hS48:=hS47.b 1
     refine ge_call2 (m:=0) (d:=some 57) (f:=43) (args:=#[.slice Z6 r6.1.length cz6]) (by kernel_rfl) (punctualsame_Spoil_api_Ins_ok _ _ Z6 r6.1.length cz6 _ hS48) ?_
     rintro _ w18 ⟨rfl,hS49⟩
     refine ⟨_,rfl,?_⟩
     refine gn hK15<|wr [(0,0),(1,0)]<|ge_addn (d:=58) (ty:=3) (x:=(.tmp 34)) (y:=(.const (vI 1))) (t:=3) (t2:=3) (k:=.i64) (m:=i1) (by kernel_rfl) (by kernel_rfl) (by kernel_rfl) (by omega) ?_
     refine gb0 [1] [(34,vI ((i1+1:Nat):Int))] ?_
     have hS53:=hS49.p [1,2,3] rfl
     obtain rfl:=si h
     exact ge_nil fun a hF=>hQ _ _ _ (Outs.again ⟨ft10,wf10,hsb8,hS53,hF.weaken ea⟩)
    rw [if_neg hc7] at h
    refine wk 55 (!r8) true (congrArg (fun z=>!z) (Bool.eq_false_iff.2 hc7))<|wt<|ws fun K19 hK19=>wr [(0,0)]<|gb0 [0] [(2,.bool false)]<|gn hK19 ?_
    have hS54:=hS47.takeN 0
    obtain rfl:=si h
    exact we_ret fun a hF=>hQ _ _ _ (Outs.out nofun (Exits.on ⟨rfl,(pr0 [.tmp 2] [.bool false] ⟨rfl,hS54⟩) a hF⟩))
   rw [if_neg hc6] at h
   refine gk 50 (!r7) true (congrArg (fun z=>!z) (Bool.eq_false_iff.2 hc6))<|gb0 [10,11] [(52,undef),(51,undef)]<|ge_off rfl rfl rfl (by kernel_rfl) ?_
   refine gb0 [13,14] [(55,.bool true),(54,undef)]<|gn hK18<|wt<|ws fun K20 hK20=>wr [(0,0)]<|gb0 [0] [(2,.bool false)]<|gn hK20 ?_
   have hS55:=hS45.takeN 0
   obtain rfl:=si h
   exact we_ret fun a hF=>hQ _ _ _ (Outs.out nofun (Exits.on ⟨rfl,(pr0 [.tmp 2] [.bool false] ⟨rfl,hS55⟩) a hF⟩))
  rw [if_neg hc5] at h
  refine gk 44 (!(SFault.eqb r6.2 r4.2)) true (congrArg (fun z=>!z) (Bool.eq_false_iff.2 hc5))<|gb0 [4,5] [(46,undef),(45,undef)]<|ge_off rfl rfl rfl (by kernel_rfl) ?_
  refine gb0 [7,8,9,10,11] [(52,undef),(51,undef),(50,.bool true),(49,.bool true),(48,undef)]<|ge_off rfl rfl rfl (by kernel_rfl) ?_
  refine gb0 [13,14] [(55,.bool true),(54,undef)]<|gn hK18<|wt<|ws fun K21 hK21=>wr [(0,0)]<|gb0 [0] [(2,.bool false)]<|gn hK21 ?_
  have hS56:=hS43.takeN 0
  obtain rfl:=si h
  exact we_ret fun a hF=>hQ _ _ _ (Outs.out nofun (Exits.on ⟨rfl,(pr0 [.tmp 2] [.bool false] ⟨rfl,hS56⟩) a hF⟩))
 rw [if_neg hc4] at h
 refine wk 35 (decide ((i1:Int)<2)) false (decide_eq_false hc4)<|wf ?_
 have hS58:=hS.p [2] rfl
 obtain rfl:=si h
 exact we_exit fun a hF=>hQ _ _ _ (Outs.out nofun (Exits.here ⟨ft10,wf10,hsb8,hS58,hF.weaken trivial⟩))
theorem CompileMakes_ok (K:Nat) (Z:Zone) (l0:List SStmt) (A0:OA) (c0:Nat) (w0:World) (hZ:∀ w,Sub w0 w→Z w) (hR0:RdZ Z A0 l0) (hL0:l0.length≤c0) (r:Bool) (h:CompileMakes.f K l0=some r) :
  Calls Try.prog 10 #[.slice A0 l0.length c0] w0 (CompileMakes.Post w0 r):=by
 have hS:=St.start w0
 unfold CompileMakes.f at h
 refine calls_enter (n:=59) (args:=[.slice A0 l0.length c0]) (fn:=Try.f10) rfl rfl rfl rfl ?_
 show WE _ _ _ _ [(0,.slice A0 l0.length c0)] _
 obtain ⟨ft1,wf1,hS1⟩:=hS.frz0
 refine ws fun K1 hK1=>wr [(0,0)]<|gb0 [0] [(2,.bool false)]<|gn hK1<|ws fun K2 hK2=>?_
 rcases hq5:CompileMakes.p0 K with _ | (_ | rr2)
 ·rw [hq5] at h; cases h
 ·rw [hq5] at h
  simp only [] at h
  refine kp (CompileMakes_p0 K w0 Z l0 A0 c0 hZ hR0 hL0 ft1 wf1 _ hq5 _ hS1 _ ?_)
  rintro _ a w7 ⟨rfl,ft6,wf6,hRz1,hS22,hF⟩
  replace hS22:St w0 w7 [Own.frz ft6 wf6]:=hS22
  refine hK2 [(0,.slice A0 l0.length c0)] w7 ?_ a hF
  refine ws fun K7 hK7=>ws fun K8 hK8=>wr [(0,0),(1,1),(2,0)] ?_
  rcases hq6:claims.f K l0 with _ | r3
  ·rw [hq6] at h; cases h
  rw [hq6] at h
  simp only [] at h
  refine gb0 [0] [(24,.slice A0 l0.length c0)]<|ge_call (d:=some 25) (f:=24) (args:=#[.slice A0 l0.length c0]) (by kernel_rfl) (claims_ok K (Zand Z wf6) l0 A0 c0 _ (fun w' k=>⟨(hZ w' (hS22.subw.trans k)),(hS22.frzSub 0 rfl).trans k⟩) (hR0.up (ZLe.in _ _)) hL0 _ hq6) ?_
  rintro _ w8 ⟨rfl,hS23⟩
  refine ⟨_,rfl,hS23.below,?_⟩
  have hS24:=hS22.call hS23
  refine gb0 [2] [(26,.bool (!r3))]<|gn hK8 ?_
  by_cases hc3:r3=true
  ·rw [if_pos hc3] at h
   refine wk 26 (!r3) false (congrArg (fun z=>!z) hc3)<|wf<|we_skip fun a hF=>hK7 _ _ ?_ a hF
   refine ws fun K9 hK9=>wr [(0,0),(1,1),(2,0),(3,0),(4,0),(5,1),(6,0),(7,2)] ?_
   rcases hq7:punctualref_Compile.f K l0 with _ | r4
   ·rw [hq7] at h; cases h
   rw [hq7] at h
   simp only [] at h
   refine gb0 [0] [(28,.slice A0 l0.length c0)]<|ge_call (d:=some 29) (f:=42) (args:=#[.slice A0 l0.length c0]) (by kernel_rfl) (punctualref_Compile_ok K (Zand Z wf6) l0 A0 c0 _ (fun w' k=>⟨(hZ w' (hS24.subw.trans k)),(hS24.frzSub 0 rfl).trans k⟩) (hR0.up (ZLe.in _ _)) hL0 _ hq7) ?_
   rintro _ w9 ⟨v4,rfl,hS25⟩
   refine ⟨_,rfl,hS25.below,?_⟩
   have hS26:=hS24.call hS25
   refine gb0 [2,3,4] [(31,.agg #[vI r4.2.Code,vI r4.2.At]),(30,v4),(27,.tuple #[v4,.agg #[vI r4.2.Code,vI r4.2.At]])]<|gw (some 6) (.cells #[vI 0,vI 0] 40) (fun b=>pP b 0) hS26 fun b2 w10 hx2 hS27=>?_
   refine gb0 [6] [(5,v4)]<|gs b2 0 #[vI 0,vI 0] 40 [vI r4.2.Code,vI r4.2.At] hS27 fun w11 hS28=>?_
   have hS29:=hS28.nc #[vI r4.2.Code,vI r4.2.At] (by kernel_rfl)
   refine gn hK9<|ws fun K10 hK10=>wr [(0,0),(1,1),(2,0)] ?_
   rcases hq8:punctualsame_Twin.f K l0 with _ | r5
   ·rw [hq8] at h; cases h
   rw [hq8] at h
   simp only [] at h
   refine gb0 [0] [(32,.slice A0 l0.length c0)]<|ge_call (d:=some 33) (f:=25) (args:=#[.slice A0 l0.length c0]) (by kernel_rfl) (punctualsame_Twin_ok K (Zand Z wf6) l0 A0 c0 _ (fun w' k=>⟨(hZ w' (hS29.subw.trans k)),(hS29.frzSub 2 rfl).trans k⟩) (hR0.up (ZLe.in _ _)) hL0 _ hq8) ?_
   rintro _ w12 ⟨v5,hds2,ft7,wf7,rfl,hd2,hS30⟩
   refine ⟨_,rfl,hS30.below,?_⟩
   have hS33:=((hS29.call hS30).b 4).b 2
   obtain ⟨ft8,wf8,hsb5,hsb6,hS34⟩:=hS33.frzMerge
   replace hd2:DRows (Zand Z wf8) hds2 r5:=hd2.up (ZLe.both hsb6 hsb5)
   refine gb0 [2] [(7,v5)]<|gn hK10<|ws fun K11 hK11=>ws fun K12 hK12=>wr [(0,0)]<|gb0 [0] [(34,vI 0)]<|gn hK12<|we_block ?_
   obtain ⟨Z4,cz4,rfl⟩:=hS34.open 3 rfl
   obtain ⟨Z5,cz5,rfl⟩:=hS34.dopen 1 rfl hd2
   have hS35:=hS34.b 1
   obtain ⟨ft9,wf9,hsb7,-,hRd2,hLd2,hS36⟩:=hS35.dfrz (Z:=Z) hd2
   have hS38:=(hS36.b 2).b 2
   rcases hq12:iter (CompileMakes.r1 K l0 r4 r5) K 0 with _ | (_ | rr1)
   ·rw [hq12] at h; cases h
   ·rw [hq12] at h
    simp only [] at h
    refine we_iter (A:=CompileMakes.A1 w0 l0 A0 c0 r4 b2 r5 Z4 cz4 Z5 cz5 wf9) (B:=CompileMakes.B1 w0 wf9) hq12 (fun a hF=>⟨ft9,wf9,(Sub.refl _),hS38,hF.weaken ea⟩) (fun s o hf a w hA Q hQ=>CompileMakes_r1 K w0 Z l0 A0 c0 hZ hR0 hL0 ft1 wf1 ft6 wf6 hRz1 r3 hc3 r4 b2 r5 hds2 ft7 wf7 ft8 wf8 hsb5 hsb6 hd2 Z4 cz4 Z5 cz5 ft9 wf9 hsb7 hRd2 hLd2 s o hf a w hA Q hQ) ?_
    rintro _ a w19 _ ⟨rfl,ft12,wf12,hRz2,hS59,hF⟩
    replace hS59:St w0 w19 [Own.frz ft12 wf12]:=hS59
    refine hK11 [] w19 ?_ a hF
    refine ws fun K22 hK22=>wr [(0,0)]<|gb0 [0] [(2,.bool true)]<|gn hK22 ?_
    have hS60:=hS59.takeN 0
    obtain rfl:=si h
    exact we_ret (pr0 [.tmp 2] [.bool true] ⟨rfl,hS60⟩)
   rw [hq12] at h
   simp only [] at h
   refine we_iter (A:=CompileMakes.A1 w0 l0 A0 c0 r4 b2 r5 Z4 cz4 Z5 cz5 wf9) (B:=CompileMakes.B1 w0 wf9) hq12 (fun a hF=>⟨ft9,wf9,(Sub.refl _),hS38,hF.weaken ea⟩) (fun s o hf a w hA Q hQ=>CompileMakes_r1 K w0 Z l0 A0 c0 hZ hR0 hL0 ft1 wf1 ft6 wf6 hRz1 r3 hc3 r4 b2 r5 hds2 ft7 wf7 ft8 wf8 hsb5 hsb6 hd2 Z4 cz4 Z5 cz5 ft9 wf9 hsb7 hRd2 hLd2 s o hf a w hA Q hQ) ?_
   rintro _ a w1 _ ⟨rfl,hb⟩
   obtain rfl:=si h
   exact hb
  rw [if_neg hc3] at h
  refine wk 26 (!r3) true (congrArg (fun z=>!z) (Bool.eq_false_iff.2 hc3))<|wt<|ws fun K23 hK23=>wr [(0,0)]<|gb0 [0] [(2,.bool true)]<|gn hK23 ?_
  have hS61:=hS24.takeN 0
  obtain rfl:=si h
  exact we_ret (pr0 [.tmp 2] [.bool true] ⟨rfl,hS61⟩)
 rw [hq5] at h
 simp only [] at h
 refine kp (CompileMakes_p0 K w0 Z l0 A0 c0 hZ hR0 hL0 ft1 wf1 _ hq5 _ hS1 _ ?_)
 rintro _ a w1 ⟨_,rfl,hb⟩
 obtain rfl:=si h
 exact hb
end Go.Proofs.Ytnckikjcjgmdlaa.GV
