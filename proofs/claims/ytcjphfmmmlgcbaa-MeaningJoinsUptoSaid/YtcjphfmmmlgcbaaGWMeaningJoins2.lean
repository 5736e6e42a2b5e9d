/- Walks of single functions, written by a program of this work. -/
import Derived.Test.YtcjphfmmmlgcbaaGWMeaningJoins1
namespace Go.Proofs.Ytcjphfmmmlgcbaa.GV
open Go Go.RowKit
set_option linter.unusedVariables false
set_option linter.unusedSimpArgs false
set_option maxRecDepth 100000

/-! (*punctual/tongue.checker).list, (*punctual/tongue.checker).stmtAt, (*punctual/tongue.checker).stmt -/
abbrev tc_list.Post (w0:World) (Z:Zone) (bp0:Nat) (sp0_0 sp0_1 sp0_2:Int) (sp0_3 sp0_4 sp0_5 sp0_6:Bool) (l1:List SStmt) (A1:OA) (c1:Nat) (x2:Int) (LT:List Own) (r:Bool×Int×Int×Int×Bool×Bool×Bool×Bool) (e:Ending) (w:World):Prop:=e=.returned (.bool r.1)∧St w0 w [bk bp0 #[vI r.2.1,vI r.2.2.1,vI r.2.2.2.1,.bool r.2.2.2.2.1,.bool r.2.2.2.2.2.1,.bool r.2.2.2.2.2.2.1,.bool r.2.2.2.2.2.2.2] 107,Own.all LT]
abbrev tc_stmtAt.Post (w0:World) (Z:Zone) (bp0:Nat) (sp0_0 sp0_1 sp0_2:Int) (sp0_3 sp0_4 sp0_5 sp0_6:Bool) (x1_0 x1_1 x1_2_0 x1_2_1:Int) (l1_2_2:List SExpr) (A1_2_2:OA) (c1_2_2:Nat) (x1_3_0 x1_3_1_0 x1_3_1_1:Int) (l1_3_1_2:List SExpr) (A1_3_1_2:OA) (c1_3_1_2:Nat) (x1_3_2_0 x1_3_2_1:Int) (l1_3_2_2:List SExpr) (A1_3_2_2:OA) (c1_3_2_2:Nat) (l1_4:List SStmt) (A1_4:OA) (c1_4:Nat) (l1_5:List SStmt) (A1_5:OA) (c1_5:Nat) (x2:Int) (LT:List Own) (r:Bool×Int×Int×Int×Bool×Bool×Bool×Bool) (e:Ending) (w:World):Prop:=e=.returned (.bool r.1)∧St w0 w [bk bp0 #[vI r.2.1,vI r.2.2.1,vI r.2.2.2.1,.bool r.2.2.2.2.1,.bool r.2.2.2.2.2.1,.bool r.2.2.2.2.2.2.1,.bool r.2.2.2.2.2.2.2] 107,Own.all LT]
abbrev tc_stmt.Post (w0:World) (Z:Zone) (bp0:Nat) (sp0_0 sp0_1 sp0_2:Int) (sp0_3 sp0_4 sp0_5 sp0_6:Bool) (x1_0 x1_1 x1_2_0 x1_2_1:Int) (l1_2_2:List SExpr) (A1_2_2:OA) (c1_2_2:Nat) (x1_3_0 x1_3_1_0 x1_3_1_1:Int) (l1_3_1_2:List SExpr) (A1_3_1_2:OA) (c1_3_1_2:Nat) (x1_3_2_0 x1_3_2_1:Int) (l1_3_2_2:List SExpr) (A1_3_2_2:OA) (c1_3_2_2:Nat) (l1_4:List SStmt) (A1_4:OA) (c1_4:Nat) (l1_5:List SStmt) (A1_5:OA) (c1_5:Nat) (x2:Int) (LT:List Own) (r:Bool×Int×Int×Int×Bool×Bool×Bool×Bool) (e:Ending) (w:World):Prop:=e=.returned (.bool r.1)∧St w0 w [bk bp0 #[vI r.2.1,vI r.2.2.1,vI r.2.2.2.1,.bool r.2.2.2.2.1,.bool r.2.2.2.2.2.1,.bool r.2.2.2.2.2.2.1,.bool r.2.2.2.2.2.2.2] 107,Own.all LT]
abbrev tc_list.Rec (rec_tc_list:Int→Int→Int→Bool→Bool→Bool→Bool→(List SStmt)→Int→Option (Bool×Int×Int×Int×Bool×Bool×Bool×Bool)):Prop:=∀ (Z:Zone) (bp0:Nat) (sp0_0:Int) (sp0_1:Int) (sp0_2:Int) (sp0_3:Bool) (sp0_4:Bool) (sp0_5:Bool) (sp0_6:Bool) (l1:List SStmt) (A1:OA) (c1:Nat) (x2:Int) (w0 wE:World) (LT:List Own) (hS:St w0 wE [bk bp0 #[vI sp0_0,vI sp0_1,vI sp0_2,.bool sp0_3,.bool sp0_4,.bool sp0_5,.bool sp0_6] 107,Own.all LT]) (hZ:∀ w L,St w0 w (Own.all LT::L)→∀ w',Sub w w'→Z w') (hR1:RdZ Z A1 l1) (hL1:l1.length≤c1) (r:Bool×Int×Int×Int×Bool×Bool×Bool×Bool) (h:rec_tc_list sp0_0 sp0_1 sp0_2 sp0_3 sp0_4 sp0_5 sp0_6 l1 x2=some r),Calls Try.prog 48 #[pP bp0 0,.slice A1 l1.length c1,vI x2] wE (tc_list.Post w0 Z bp0 sp0_0 sp0_1 sp0_2 sp0_3 sp0_4 sp0_5 sp0_6 l1 A1 c1 x2 LT r)
abbrev tc_stmtAt.Rec (rec_tc_stmtAt:Int→Int→Int→Bool→Bool→Bool→Bool→Int→Int→Int→Int→(List SExpr)→Int→Int→Int→(List SExpr)→Int→Int→(List SExpr)→(List SStmt)→(List SStmt)→Int→Option (Bool×Int×Int×Int×Bool×Bool×Bool×Bool)):Prop:=∀ (Z:Zone) (bp0:Nat) (sp0_0:Int) (sp0_1:Int) (sp0_2:Int) (sp0_3:Bool) (sp0_4:Bool) (sp0_5:Bool) (sp0_6:Bool) (x1_0:Int) (x1_1:Int) (x1_2_0:Int) (x1_2_1:Int) (l1_2_2:List SExpr) (A1_2_2:OA) (c1_2_2:Nat) (x1_3_0:Int) (x1_3_1_0:Int) (x1_3_1_1:Int) (l1_3_1_2:List SExpr) (A1_3_1_2:OA) (c1_3_1_2:Nat) (x1_3_2_0:Int) (x1_3_2_1:Int) (l1_3_2_2:List SExpr) (A1_3_2_2:OA) (c1_3_2_2:Nat) (l1_4:List SStmt) (A1_4:OA) (c1_4:Nat) (l1_5:List SStmt) (A1_5:OA) (c1_5:Nat) (x2:Int) (w0 wE:World) (LT:List Own) (hS:St w0 wE [bk bp0 #[vI sp0_0,vI sp0_1,vI sp0_2,.bool sp0_3,.bool sp0_4,.bool sp0_5,.bool sp0_6] 107,Own.all LT]) (hZ:∀ w L,St w0 w (Own.all LT::L)→∀ w',Sub w w'→Z w') (hR1_2_2:RdZ Z A1_2_2 l1_2_2) (hL1_2_2:l1_2_2.length≤c1_2_2) (hR1_3_1_2:RdZ Z A1_3_1_2 l1_3_1_2) (hL1_3_1_2:l1_3_1_2.length≤c1_3_1_2) (hR1_3_2_2:RdZ Z A1_3_2_2 l1_3_2_2) (hL1_3_2_2:l1_3_2_2.length≤c1_3_2_2) (hR1_4:RdZ Z A1_4 l1_4) (hL1_4:l1_4.length≤c1_4) (hR1_5:RdZ Z A1_5 l1_5) (hL1_5:l1_5.length≤c1_5) (r:Bool×Int×Int×Int×Bool×Bool×Bool×Bool) (h:rec_tc_stmtAt sp0_0 sp0_1 sp0_2 sp0_3 sp0_4 sp0_5 sp0_6 x1_0 x1_1 x1_2_0 x1_2_1 l1_2_2 x1_3_0 x1_3_1_0 x1_3_1_1 l1_3_1_2 x1_3_2_0 x1_3_2_1 l1_3_2_2 l1_4 l1_5 x2=some r),Calls Try.prog 64 #[pP bp0 0,.agg #[vI x1_0,vI x1_1,vI x1_2_0,vI x1_2_1,.slice A1_2_2 l1_2_2.length c1_2_2,vI x1_3_0,vI x1_3_1_0,vI x1_3_1_1,.slice A1_3_1_2 l1_3_1_2.length c1_3_1_2,vI x1_3_2_0,vI x1_3_2_1,.slice A1_3_2_2 l1_3_2_2.length c1_3_2_2,.slice A1_4 l1_4.length c1_4,.slice A1_5 l1_5.length c1_5],vI x2] wE (tc_stmtAt.Post w0 Z bp0 sp0_0 sp0_1 sp0_2 sp0_3 sp0_4 sp0_5 sp0_6 x1_0 x1_1 x1_2_0 x1_2_1 l1_2_2 A1_2_2 c1_2_2 x1_3_0 x1_3_1_0 x1_3_1_1 l1_3_1_2 A1_3_1_2 c1_3_1_2 x1_3_2_0 x1_3_2_1 l1_3_2_2 A1_3_2_2 c1_3_2_2 l1_4 A1_4 c1_4 l1_5 A1_5 c1_5 x2 LT r)
abbrev tc_stmt.Rec (rec_tc_stmt:Int→Int→Int→Bool→Bool→Bool→Bool→Int→Int→Int→Int→(List SExpr)→Int→Int→Int→(List SExpr)→Int→Int→(List SExpr)→(List SStmt)→(List SStmt)→Int→Option (Bool×Int×Int×Int×Bool×Bool×Bool×Bool)):Prop:=∀ (Z:Zone) (bp0:Nat) (sp0_0:Int) (sp0_1:Int) (sp0_2:Int) (sp0_3:Bool) (sp0_4:Bool) (sp0_5:Bool) (sp0_6:Bool) (x1_0:Int) (x1_1:Int) (x1_2_0:Int) (x1_2_1:Int) (l1_2_2:List SExpr) (A1_2_2:OA) (c1_2_2:Nat) (x1_3_0:Int) (x1_3_1_0:Int) (x1_3_1_1:Int) (l1_3_1_2:List SExpr) (A1_3_1_2:OA) (c1_3_1_2:Nat) (x1_3_2_0:Int) (x1_3_2_1:Int) (l1_3_2_2:List SExpr) (A1_3_2_2:OA) (c1_3_2_2:Nat) (l1_4:List SStmt) (A1_4:OA) (c1_4:Nat) (l1_5:List SStmt) (A1_5:OA) (c1_5:Nat) (x2:Int) (w0 wE:World) (LT:List Own) (hS:St w0 wE [bk bp0 #[vI sp0_0,vI sp0_1,vI sp0_2,.bool sp0_3,.bool sp0_4,.bool sp0_5,.bool sp0_6] 107,Own.all LT]) (hZ:∀ w L,St w0 w (Own.all LT::L)→∀ w',Sub w w'→Z w') (hR1_2_2:RdZ Z A1_2_2 l1_2_2) (hL1_2_2:l1_2_2.length≤c1_2_2) (hR1_3_1_2:RdZ Z A1_3_1_2 l1_3_1_2) (hL1_3_1_2:l1_3_1_2.length≤c1_3_1_2) (hR1_3_2_2:RdZ Z A1_3_2_2 l1_3_2_2) (hL1_3_2_2:l1_3_2_2.length≤c1_3_2_2) (hR1_4:RdZ Z A1_4 l1_4) (hL1_4:l1_4.length≤c1_4) (hR1_5:RdZ Z A1_5 l1_5) (hL1_5:l1_5.length≤c1_5) (r:Bool×Int×Int×Int×Bool×Bool×Bool×Bool) (h:rec_tc_stmt sp0_0 sp0_1 sp0_2 sp0_3 sp0_4 sp0_5 sp0_6 x1_0 x1_1 x1_2_0 x1_2_1 l1_2_2 x1_3_0 x1_3_1_0 x1_3_1_1 l1_3_1_2 x1_3_2_0 x1_3_2_1 l1_3_2_2 l1_4 l1_5 x2=some r),Calls Try.prog 88 #[pP bp0 0,.agg #[vI x1_0,vI x1_1,vI x1_2_0,vI x1_2_1,.slice A1_2_2 l1_2_2.length c1_2_2,vI x1_3_0,vI x1_3_1_0,vI x1_3_1_1,.slice A1_3_1_2 l1_3_1_2.length c1_3_1_2,vI x1_3_2_0,vI x1_3_2_1,.slice A1_3_2_2 l1_3_2_2.length c1_3_2_2,.slice A1_4 l1_4.length c1_4,.slice A1_5 l1_5.length c1_5],vI x2] wE (tc_stmt.Post w0 Z bp0 sp0_0 sp0_1 sp0_2 sp0_3 sp0_4 sp0_5 sp0_6 x1_0 x1_1 x1_2_0 x1_2_1 l1_2_2 A1_2_2 c1_2_2 x1_3_0 x1_3_1_0 x1_3_1_1 l1_3_1_2 A1_3_1_2 c1_3_1_2 x1_3_2_0 x1_3_2_1 l1_3_2_2 A1_3_2_2 c1_3_2_2 l1_4 A1_4 c1_4 l1_5 A1_5 c1_5 x2 LT r)
def tc_list.r0 (l1 : List SStmt) (x2 : Int) (rec_tc_stmtAt : Int → Int → Int → Bool → Bool → Bool → Bool → Int → Int → Int → Int → (List SExpr) → Int → Int → Int → (List SExpr) → Int → Int → (List SExpr) → (List SStmt) → (List SStmt) → Int → Option (Bool × Int × Int × Int × Bool × Bool × Bool × Bool)) : Nat × Int × Int × Int × Bool × Bool × Bool × Bool → Option ((Nat × Int × Int × Int × Bool × Bool × Bool × Bool) ⊕ ((Int × Int × Int × Bool × Bool × Bool × Bool) ⊕ (Bool × Int × Int × Int × Bool × Bool × Bool × Bool)))
 | (i1,z1,z2,z3,q1,q2,q3,q4) =>
  if (i1:Int)<(l1.length:Int) then
   match l1[i1]? with
   | none=>none
   | some e1 =>
    match rec_tc_stmtAt z1 z2 z3 q1 q2 q3 q4 e1.Kind e1.N e1.E.Kind e1.E.N e1.E.A e1.If.Kind e1.If.A.Kind e1.If.A.N e1.If.A.A e1.If.B.Kind e1.If.B.N e1.If.B.A e1.Body e1.Else x2 with
    | none=>none
    | some r1 =>
     if r1.1=true then
      some (.inl ((i1+1),r1.2.1,r1.2.2.1,r1.2.2.2.1,r1.2.2.2.2.1,r1.2.2.2.2.2.1,r1.2.2.2.2.2.2.1,r1.2.2.2.2.2.2.2))
     else
      some (.inr (.inr (false,r1.2.1,r1.2.2.1,r1.2.2.2.1,r1.2.2.2.2.1,r1.2.2.2.2.2.1,r1.2.2.2.2.2.2.1,r1.2.2.2.2.2.2.2)))
  else
   some (.inr (.inl (z1,z2,z3,q1,q2,q3,q4)))
def tc_list.b (K : Nat) (rec_tc_stmtAt : Int → Int → Int → Bool → Bool → Bool → Bool → Int → Int → Int → Int → (List SExpr) → Int → Int → Int → (List SExpr) → Int → Int → (List SExpr) → (List SStmt) → (List SStmt) → Int → Option (Bool × Int × Int × Int × Bool × Bool × Bool × Bool)) (sp0_0 : Int) (sp0_1 : Int) (sp0_2 : Int) (sp0_3 : Bool) (sp0_4 : Bool) (sp0_5 : Bool) (sp0_6 : Bool) (l1 : List SStmt) (x2 : Int) : Option (Bool × Int × Int × Int × Bool × Bool × Bool × Bool) :=
 match iter (tc_list.r0 l1 x2 rec_tc_stmtAt) K (0,sp0_0,sp0_1,sp0_2,sp0_3,sp0_4,sp0_5,sp0_6) with
 | none=>none
 | some (.inl (z7,z8,z9,q9,q10,q11,q12)) =>
  some (true,z7,z8,z9,q9,q10,q11,q12)
 | some (.inr rr1) =>
  some rr1
abbrev tc_list.A0 (w0:World) (bp0:Nat) (l1:List SStmt) (A1:OA) (c1:Nat) (x2:Int) (LT:List Own):(Nat×Int×Int×Int×Bool×Bool×Bool×Bool)→Act→World→Prop:=fun (s:Nat×Int×Int×Int×Bool×Bool×Bool×Bool) a w=>St w0 w [bk bp0 #[vI s.2.1,vI s.2.2.1,vI s.2.2.2.1,.bool s.2.2.2.2.1,.bool s.2.2.2.2.2.1,.bool s.2.2.2.2.2.2.1,.bool s.2.2.2.2.2.2.2] 107,Own.all LT]∧Frm 21 a [(0,pP bp0 0),(2,vI x2),(9,.slice A1 l1.length c1),(10,vI (l1.length:Int)),(11,vI (s.1:Int))]
abbrev tc_list.B0 (w0:World) (Z:Zone) (bp0:Nat) (sp0_0 sp0_1 sp0_2:Int) (sp0_3 sp0_4 sp0_5 sp0_6:Bool) (l1:List SStmt) (A1:OA) (c1:Nat) (x2:Int) (LT:List Own):((Int×Int×Int×Bool×Bool×Bool×Bool) ⊕ (Bool×Int×Int×Int×Bool×Bool×Bool×Bool))→Exit→Act→World→Prop:=Exits 0 (fun (s:Int×Int×Int×Bool×Bool×Bool×Bool) a w=>St w0 w [bk bp0 #[vI s.1,vI s.2.1,vI s.2.2.1,.bool s.2.2.2.1,.bool s.2.2.2.2.1,.bool s.2.2.2.2.2.1,.bool s.2.2.2.2.2.2] 107,Own.all LT]∧Frm 21 a [(0,pP bp0 0)]) (Rets Try.prog Try.f48 (tc_list.Post w0 Z bp0 sp0_0 sp0_1 sp0_2 sp0_3 sp0_4 sp0_5 sp0_6 l1 A1 c1 x2 LT))
theorem tc_list_r0 (K:Nat) (w0:World) (Z:Zone) (bp0:Nat) (sp0_0 sp0_1 sp0_2:Int) (sp0_3 sp0_4 sp0_5 sp0_6:Bool) (l1:List SStmt) (A1:OA) (c1:Nat) (x2:Int) (LT:List Own) (hZ:∀ w L,St w0 w (Own.all LT::L)→∀ w',Sub w w'→Z w') (hR1:RdZ Z A1 l1) (hL1:l1.length≤c1) (rec_tc_stmtAt:Int→Int→Int→Bool→Bool→Bool→Bool→Int→Int→Int→Int→(List SExpr)→Int→Int→Int→(List SExpr)→Int→Int→(List SExpr)→(List SStmt)→(List SStmt)→Int→Option (Bool×Int×Int×Int×Bool×Bool×Bool×Bool)) (hr_tc_stmtAt:tc_stmtAt.Rec rec_tc_stmtAt) (s:Nat×Int×Int×Int×Bool×Bool×Bool×Bool) (o:(Nat×Int×Int×Int×Bool×Bool×Bool×Bool) ⊕ ((Int×Int×Int×Bool×Bool×Bool×Bool) ⊕ (Bool×Int×Int×Int×Bool×Bool×Bool×Bool))) (h:tc_list.r0 l1 x2 rec_tc_stmtAt s=some o) (a:Act) (w:World) (hA:tc_list.A0 w0 bp0 l1 A1 c1 x2 LT s a w) (Q:Exit→Act→World→Prop) (hQ:∀ x a w,Outs (tc_list.A0 w0 bp0 l1 A1 c1 x2 LT) (tc_list.B0 w0 Z bp0 sp0_0 sp0_1 sp0_2 sp0_3 sp0_4 sp0_5 sp0_6 l1 A1 c1 x2 LT) o x a w→Q x a w):(subF Try.f48 [1,0,1,0,0]).wp Try.prog Q a w:=by
 obtain ⟨i1,z1,z2,z3,q1,q2,q3,q4⟩:=s
 obtain ⟨hS,hF⟩:=hA
 replace hS:St w0 w [bk bp0 #[vI z1,vI z2,vI z3,.bool q1,.bool q2,.bool q3,.bool q4] 107,Own.all LT]:=hS
 simp only [tc_list.r0] at h
 refine (?_:WE Try.prog 21 (subF Try.f48 [1,0,1,0,0]) Q [(0,pP bp0 0),(2,vI x2),(9,.slice A1 l1.length c1),(10,vI (l1.length:Int)),(11,vI (i1:Int))] w) a hF
 clear hF a
 refine ws fun K4 hK4=>wr [(0,0)]<|gb0 [0] [(12,.bool (decide ((i1:Int)<(l1.length:Int))))]<|gn hK4<|ws fun K5 hK5=>?_
 by_cases hc1:(i1:Int)<(l1.length:Int)
 ·rw [if_pos hc1] at h
  refine wk 12 (decide ((i1:Int)<(l1.length:Int))) true (decide_eq_true hc1)<|wt<|we_skip fun a hF=>hK5 _ _ ?_ a hF
  refine ws fun K6 hK6=>we_block<|ws fun K7 hK7=>wr [(0,0),(1,0),(2,1),(3,2)] ?_
  rcases hx1:l1[i1]? with _ | e1
  ·rw [hx1] at h; cases h
  rw [hx1] at h
  simp only [] at h
  obtain ⟨An1,cn1,An2,cn2,An3,cn3,An4,cn4,An5,cn5,hCs1,hLn1,hRn1,hLn2,hRn2,hLn3,hRn3,hLn4,hRn4,hLn5,hRn5⟩:=SStmt.getZ hR1 hx1
  refine gi 13 0 22 70 14 l1.length c1 (.tmp 9) (.tmp 11) A1 .i64 (i1:Int) i1 (hR1.eqSome (hZ _ _ (hS.bring 1 rfl) _ (Sub.refl _)) (pos_of_get hx1)) rfl (lt_of_get hx1) ?_
  refine gb [1] [(14,.agg #[vI e1.Kind,vI e1.N,vI e1.E.Kind,vI e1.E.N,.slice An1 e1.E.A.length cn1,vI e1.If.Kind,vI e1.If.A.Kind,vI e1.If.A.N,.slice An2 e1.If.A.A.length cn2,vI e1.If.B.Kind,vI e1.If.B.N,.slice An3 e1.If.B.A.length cn3,.slice An4 e1.Body.length cn4,.slice An5 e1.Else.length cn5])] [.loaded ⟨blkOf A1,offOf A1+i1*14,none⟩ (vI e1.Kind),.loaded ⟨blkOf A1,offOf A1+i1*14+1,none⟩ (vI e1.N),.loaded ⟨blkOf A1,offOf A1+i1*14+2,none⟩ (vI e1.E.Kind),.loaded ⟨blkOf A1,offOf A1+i1*14+3,none⟩ (vI e1.E.N),.loaded ⟨blkOf A1,offOf A1+i1*14+4,none⟩ (.slice An1 e1.E.A.length cn1),.loaded ⟨blkOf A1,offOf A1+i1*14+5,none⟩ (vI e1.If.Kind),.loaded ⟨blkOf A1,offOf A1+i1*14+6,none⟩ (vI e1.If.A.Kind),.loaded ⟨blkOf A1,offOf A1+i1*14+7,none⟩ (vI e1.If.A.N),.loaded ⟨blkOf A1,offOf A1+i1*14+8,none⟩ (.slice An2 e1.If.A.A.length cn2),.loaded ⟨blkOf A1,offOf A1+i1*14+9,none⟩ (vI e1.If.B.Kind),.loaded ⟨blkOf A1,offOf A1+i1*14+10,none⟩ (vI e1.If.B.N),.loaded ⟨blkOf A1,offOf A1+i1*14+11,none⟩ (.slice An3 e1.If.B.A.length cn3),.loaded ⟨blkOf A1,offOf A1+i1*14+12,none⟩ (.slice An4 e1.Body.length cn4),.loaded ⟨blkOf A1,offOf A1+i1*14+13,none⟩ (.slice An5 e1.Else.length cn5)] ⟨hCs1 _ (hZ _ _ (hS.bring 1 rfl) _ (Sub.refl _)) 0 _ rfl,hCs1 _ (hZ _ _ (hS.bring 1 rfl) _ (Sub.refl _)) 1 _ rfl,hCs1 _ (hZ _ _ (hS.bring 1 rfl) _ (Sub.refl _)) 2 _ rfl,hCs1 _ (hZ _ _ (hS.bring 1 rfl) _ (Sub.refl _)) 3 _ rfl,hCs1 _ (hZ _ _ (hS.bring 1 rfl) _ (Sub.refl _)) 4 _ rfl,hCs1 _ (hZ _ _ (hS.bring 1 rfl) _ (Sub.refl _)) 5 _ rfl,hCs1 _ (hZ _ _ (hS.bring 1 rfl) _ (Sub.refl _)) 6 _ rfl,hCs1 _ (hZ _ _ (hS.bring 1 rfl) _ (Sub.refl _)) 7 _ rfl,hCs1 _ (hZ _ _ (hS.bring 1 rfl) _ (Sub.refl _)) 8 _ rfl,hCs1 _ (hZ _ _ (hS.bring 1 rfl) _ (Sub.refl _)) 9 _ rfl,hCs1 _ (hZ _ _ (hS.bring 1 rfl) _ (Sub.refl _)) 10 _ rfl,hCs1 _ (hZ _ _ (hS.bring 1 rfl) _ (Sub.refl _)) 11 _ rfl,hCs1 _ (hZ _ _ (hS.bring 1 rfl) _ (Sub.refl _)) 12 _ rfl,hCs1 _ (hZ _ _ (hS.bring 1 rfl) _ (Sub.refl _)) 13 _ rfl,trivial⟩<|gw (some 8) (.cells #[vI 0,vI 0,vI 0,vI 0,.slice none 0 0,vI 0,vI 0,vI 0,.slice none 0 0,vI 0,vI 0,.slice none 0 0,.slice none 0 0,.slice none 0 0] 70) (fun b=>pP b 0) hS fun b1 w1 hx2 hS3=>?_
  refine gs b1 0 #[vI 0,vI 0,vI 0,vI 0,.slice none 0 0,vI 0,vI 0,vI 0,.slice none 0 0,vI 0,vI 0,.slice none 0 0,.slice none 0 0,.slice none 0 0] 70 [vI e1.Kind,vI e1.N,vI e1.E.Kind,vI e1.E.N,.slice An1 e1.E.A.length cn1,vI e1.If.Kind,vI e1.If.A.Kind,vI e1.If.A.N,.slice An2 e1.If.A.A.length cn2,vI e1.If.B.Kind,vI e1.If.B.N,.slice An3 e1.If.B.A.length cn3,.slice An4 e1.Body.length cn4,.slice An5 e1.Else.length cn5] hS3 fun w2 hS4=>?_
  have hS5:=hS4.nc #[vI e1.Kind,vI e1.N,vI e1.E.Kind,vI e1.E.N,.slice An1 e1.E.A.length cn1,vI e1.If.Kind,vI e1.If.A.Kind,vI e1.If.A.N,.slice An2 e1.If.A.A.length cn2,vI e1.If.B.Kind,vI e1.If.B.N,.slice An3 e1.If.B.A.length cn3,.slice An4 e1.Body.length cn4,.slice An5 e1.Else.length cn5] (by kernel_rfl)
  refine gn hK7<|ws fun K8 hK8=>wr [(0,0),(1,0),(2,0),(3,2),(4,0)]<|gb [0,1,2] [(17,vI x2),(16,.agg #[vI e1.Kind,vI e1.N,vI e1.E.Kind,vI e1.E.N,.slice An1 e1.E.A.length cn1,vI e1.If.Kind,vI e1.If.A.Kind,vI e1.If.A.N,.slice An2 e1.If.A.A.length cn2,vI e1.If.B.Kind,vI e1.If.B.N,.slice An3 e1.If.B.A.length cn3,.slice An4 e1.Body.length cn4,.slice An5 e1.Else.length cn5]),(15,pP bp0 0)] [ld b1 0 (vI e1.Kind),ld b1 1 (vI e1.N),ld b1 2 (vI e1.E.Kind),ld b1 3 (vI e1.E.N),ld b1 4 (.slice An1 e1.E.A.length cn1),ld b1 5 (vI e1.If.Kind),ld b1 6 (vI e1.If.A.Kind),ld b1 7 (vI e1.If.A.N),ld b1 8 (.slice An2 e1.If.A.A.length cn2),ld b1 9 (vI e1.If.B.Kind),ld b1 10 (vI e1.If.B.N),ld b1 11 (.slice An3 e1.If.B.A.length cn3),ld b1 12 (.slice An4 e1.Body.length cn4),ld b1 13 (.slice An5 e1.Else.length cn5)] ⟨hS5.c 0,hS5.c 0,hS5.c 0,hS5.c 0,hS5.c 0,hS5.c 0,hS5.c 0,hS5.c 0,hS5.c 0,hS5.c 0,hS5.c 0,hS5.c 0,hS5.c 0,hS5.c 0,trivial⟩ ?_
  rcases hq1:rec_tc_stmtAt z1 z2 z3 q1 q2 q3 q4 e1.Kind e1.N e1.E.Kind e1.E.N e1.E.A e1.If.Kind e1.If.A.Kind e1.If.A.N e1.If.A.A e1.If.B.Kind e1.If.B.N e1.If.B.A e1.Body e1.Else x2 with _ | r1
  ·rw [hq1] at h; cases h
  rw [hq1] at h
  simp only [] at h
  have hS8:=(hS5.b 1).packN 1
  refine ge_call2 (m:=0) (d:=some 18) (f:=64) (args:=#[pP bp0 0,.agg #[vI e1.Kind,vI e1.N,vI e1.E.Kind,vI e1.E.N,.slice An1 e1.E.A.length cn1,vI e1.If.Kind,vI e1.If.A.Kind,vI e1.If.A.N,.slice An2 e1.If.A.A.length cn2,vI e1.If.B.Kind,vI e1.If.B.N,.slice An3 e1.If.B.A.length cn3,.slice An4 e1.Body.length cn4,.slice An5 e1.Else.length cn5],vI x2]) (by kernel_rfl) (hr_tc_stmtAt Z bp0 z1 z2 z3 q1 q2 q3 q4 e1.Kind e1.N e1.E.Kind e1.E.N e1.E.A An1 cn1 e1.If.Kind e1.If.A.Kind e1.If.A.N e1.If.A.A An2 cn2 e1.If.B.Kind e1.If.B.N e1.If.B.A An3 cn3 e1.Body An4 cn4 e1.Else An5 cn5 x2 _ _ _ hS8 (fun w L h w' k=>(hZ _ _ (h.spread.bring 1 rfl) w' k)) hRn1 hLn1 hRn2 hLn2 hRn3 hLn3 hRn4 hLn4 hRn5 hLn5 _ hq1) ?_
  rintro _ w3 ⟨rfl,hS7⟩
  refine ⟨_,rfl,?_⟩
  have hS9:=hS7.unpack [bk bp0 #[vI r1.2.1,vI r1.2.2.1,vI r1.2.2.2.1,.bool r1.2.2.2.2.1,.bool r1.2.2.2.2.2.1,.bool r1.2.2.2.2.2.2.1,.bool r1.2.2.2.2.2.2.2] 107]
  refine gb0 [4] [(19,.bool (!r1.1))]<|gn hK8 ?_
  by_cases hc2:r1.1=true
  ·rw [if_pos hc2] at h
   refine wk 19 (!r1.1) false (congrArg (fun z=>!z) hc2)<|wf<|we_skip fun a hF=>hK6 _ _ ?_ a hF
   refine wr [(0,0),(1,0)]<|ge_addn (d:=20) (ty:=3) (x:=(.tmp 11)) (y:=(.const (vI 1))) (t:=3) (t2:=3) (k:=.i64) (m:=i1) (by kernel_rfl) (by kernel_rfl) (by kernel_rfl) (by have h0:=RdZ.small hR1 (hZ _ _ (hS9.bring 2 rfl) _ (Sub.refl _)); omega) ?_
   refine gb0 [1] [(11,vI ((i1+1:Nat):Int))] ?_
   have hS12:=hS9.p [0,2] rfl
   obtain rfl:=si h
   exact ge_nil fun a hF=>hQ _ _ _ (Outs.again ⟨hS12,hF.weaken ea⟩)
  rw [if_neg hc2] at h
  refine wk 19 (!r1.1) true (congrArg (fun z=>!z) (Bool.eq_false_iff.2 hc2))<|wt<|ws fun K9 hK9=>wr [(0,0)]<|gb0 [0] [(6,.bool false)]<|gn hK9 ?_
  have hS15:=hS9.p [0,2] rfl
  obtain rfl:=si h
  exact we_ret fun a hF=>hQ _ _ _ (Outs.out nofun (Exits.on ⟨rfl,(pr0 [.tmp 6] [.bool false] ⟨rfl,hS15⟩) a hF⟩))
 rw [if_neg hc1] at h
 refine wk 12 (decide ((i1:Int)<(l1.length:Int))) false (decide_eq_false hc1)<|wf ?_
 have hS17:=(hS.b 1).b 1
 obtain rfl:=si h
 exact we_exit fun a hF=>hQ _ _ _ (Outs.out nofun (Exits.here ⟨hS17,hF.weaken ea⟩))
theorem tc_list_step (K:Nat) (rec_tc_stmtAt:Int→Int→Int→Bool→Bool→Bool→Bool→Int→Int→Int→Int→(List SExpr)→Int→Int→Int→(List SExpr)→Int→Int→(List SExpr)→(List SStmt)→(List SStmt)→Int→Option (Bool×Int×Int×Int×Bool×Bool×Bool×Bool)) (hr_tc_stmtAt:tc_stmtAt.Rec rec_tc_stmtAt) (Z:Zone) (bp0:Nat) (sp0_0 sp0_1 sp0_2:Int) (sp0_3 sp0_4 sp0_5 sp0_6:Bool) (l1:List SStmt) (A1:OA) (c1:Nat) (x2:Int) (w0 wE:World) (LT:List Own) (hS:St w0 wE [bk bp0 #[vI sp0_0,vI sp0_1,vI sp0_2,.bool sp0_3,.bool sp0_4,.bool sp0_5,.bool sp0_6] 107,Own.all LT]) (hZ:∀ w L,St w0 w (Own.all LT::L)→∀ w',Sub w w'→Z w') (hR1:RdZ Z A1 l1) (hL1:l1.length≤c1) (r:Bool×Int×Int×Int×Bool×Bool×Bool×Bool) (h:tc_list.b K rec_tc_stmtAt sp0_0 sp0_1 sp0_2 sp0_3 sp0_4 sp0_5 sp0_6 l1 x2=some r) :
  Calls Try.prog 48 #[pP bp0 0,.slice A1 l1.length c1,vI x2] wE (tc_list.Post w0 Z bp0 sp0_0 sp0_1 sp0_2 sp0_3 sp0_4 sp0_5 sp0_6 l1 A1 c1 x2 LT r):=by
 unfold tc_list.b at h
 refine calls_enter (n:=21) (args:=[pP bp0 0,.slice A1 l1.length c1,vI x2]) (fn:=Try.f48) rfl rfl rfl rfl ?_
 show WE _ _ _ _ [(0,pP bp0 0),(1,.slice A1 l1.length c1),(2,vI x2)] _
 refine ws fun K1 hK1=>wr [(0,0)]<|gb0 [0] [(6,.bool false)]<|gn hK1<|ws fun K2 hK2=>ws fun K3 hK3=>wr [(0,0),(1,0),(2,0)]<|gb0 [0,1,2] [(11,vI 0),(10,vI (l1.length:Int)),(9,.slice A1 l1.length c1)]<|gn hK3<|we_block ?_
 have hS2:=(hS.b 1).b 1
 rcases hq2:iter (tc_list.r0 l1 x2 rec_tc_stmtAt) K (0,sp0_0,sp0_1,sp0_2,sp0_3,sp0_4,sp0_5,sp0_6) with _ | (⟨z7,z8,z9,q9,q10,q11,q12⟩ | rr1)
 ·rw [hq2] at h; cases h
 ·rw [hq2] at h
  simp only [] at h
  refine we_iter (A:=tc_list.A0 w0 bp0 l1 A1 c1 x2 LT) (B:=tc_list.B0 w0 Z bp0 sp0_0 sp0_1 sp0_2 sp0_3 sp0_4 sp0_5 sp0_6 l1 A1 c1 x2 LT) hq2 (fun a hF=>⟨hS2,hF.weaken ea⟩) (fun s o hf a w hA Q hQ=>tc_list_r0 K w0 Z bp0 sp0_0 sp0_1 sp0_2 sp0_3 sp0_4 sp0_5 sp0_6 l1 A1 c1 x2 LT hZ hR1 hL1 rec_tc_stmtAt hr_tc_stmtAt s o hf a w hA Q hQ) ?_
  rintro _ a w4 _ ⟨rfl,hS18,hF⟩
  replace hS18:St w0 w4 [bk bp0 #[vI z7,vI z8,vI z9,.bool q9,.bool q10,.bool q11,.bool q12] 107,Own.all LT]:=hS18
  refine hK2 [(0,pP bp0 0)] w4 ?_ a hF
  refine ws fun K10 hK10=>wr [(0,0)]<|gb0 [0] [(6,.bool true)]<|gn hK10 ?_
  have hS20:=(hS18.b 1).b 1
  obtain rfl:=si h
  exact we_ret (pr0 [.tmp 6] [.bool true] ⟨rfl,hS20⟩)
 rw [hq2] at h
 simp only [] at h
 refine we_iter (A:=tc_list.A0 w0 bp0 l1 A1 c1 x2 LT) (B:=tc_list.B0 w0 Z bp0 sp0_0 sp0_1 sp0_2 sp0_3 sp0_4 sp0_5 sp0_6 l1 A1 c1 x2 LT) hq2 (fun a hF=>⟨hS2,hF.weaken ea⟩) (fun s o hf a w hA Q hQ=>tc_list_r0 K w0 Z bp0 sp0_0 sp0_1 sp0_2 sp0_3 sp0_4 sp0_5 sp0_6 l1 A1 c1 x2 LT hZ hR1 hL1 rec_tc_stmtAt hr_tc_stmtAt s o hf a w hA Q hQ) ?_
 rintro _ a w1 _ ⟨rfl,hb⟩
 obtain rfl:=si h
 exact hb
def tc_stmtAt.b (K : Nat) (rec_tc_stmt : Int → Int → Int → Bool → Bool → Bool → Bool → Int → Int → Int → Int → (List SExpr) → Int → Int → Int → (List SExpr) → Int → Int → (List SExpr) → (List SStmt) → (List SStmt) → Int → Option (Bool × Int × Int × Int × Bool × Bool × Bool × Bool)) (sp0_0 : Int) (sp0_1 : Int) (sp0_2 : Int) (sp0_3 : Bool) (sp0_4 : Bool) (sp0_5 : Bool) (sp0_6 : Bool) (x1_0 : Int) (x1_1 : Int) (x1_2_0 : Int) (x1_2_1 : Int) (l1_2_2 : List SExpr) (x1_3_0 : Int) (x1_3_1_0 : Int) (x1_3_1_1 : Int) (l1_3_1_2 : List SExpr) (x1_3_2_0 : Int) (x1_3_2_1 : Int) (l1_3_2_2 : List SExpr) (l1_4 : List SStmt) (l1_5 : List SStmt) (x2 : Int) : Option (Bool × Int × Int × Int × Bool × Bool × Bool × Bool) :=
 match rec_tc_stmt (IntKind.i64.wrap (sp0_0+1)) sp0_1 sp0_2 sp0_3 sp0_4 sp0_5 sp0_6 x1_0 x1_1 x1_2_0 x1_2_1 l1_2_2 x1_3_0 x1_3_1_0 x1_3_1_1 l1_3_1_2 x1_3_2_0 x1_3_2_1 l1_3_2_2 l1_4 l1_5 x2 with
 | none=>none
 | some r1 =>
  some (r1.1,r1.2.1,r1.2.2.1,r1.2.2.2.1,r1.2.2.2.2.1,r1.2.2.2.2.2.1,r1.2.2.2.2.2.2.1,r1.2.2.2.2.2.2.2)
theorem tc_stmtAt_step (K:Nat) (rec_tc_stmt:Int→Int→Int→Bool→Bool→Bool→Bool→Int→Int→Int→Int→(List SExpr)→Int→Int→Int→(List SExpr)→Int→Int→(List SExpr)→(List SStmt)→(List SStmt)→Int→Option (Bool×Int×Int×Int×Bool×Bool×Bool×Bool)) (hr_tc_stmt:tc_stmt.Rec rec_tc_stmt) (Z:Zone) (bp0:Nat) (sp0_0 sp0_1 sp0_2:Int) (sp0_3 sp0_4 sp0_5 sp0_6:Bool) (x1_0 x1_1 x1_2_0 x1_2_1:Int) (l1_2_2:List SExpr) (A1_2_2:OA) (c1_2_2:Nat) (x1_3_0 x1_3_1_0 x1_3_1_1:Int) (l1_3_1_2:List SExpr) (A1_3_1_2:OA) (c1_3_1_2:Nat) (x1_3_2_0 x1_3_2_1:Int) (l1_3_2_2:List SExpr) (A1_3_2_2:OA) (c1_3_2_2:Nat) (l1_4:List SStmt) (A1_4:OA) (c1_4:Nat) (l1_5:List SStmt) (A1_5:OA) (c1_5:Nat) (x2:Int) (w0 wE:World) (LT:List Own) (hS:St w0 wE [bk bp0 #[vI sp0_0,vI sp0_1,vI sp0_2,.bool sp0_3,.bool sp0_4,.bool sp0_5,.bool sp0_6] 107,Own.all LT]) (hZ:∀ w L,St w0 w (Own.all LT::L)→∀ w',Sub w w'→Z w') (hR1_2_2:RdZ Z A1_2_2 l1_2_2) (hL1_2_2:l1_2_2.length≤c1_2_2) (hR1_3_1_2:RdZ Z A1_3_1_2 l1_3_1_2) (hL1_3_1_2:l1_3_1_2.length≤c1_3_1_2) (hR1_3_2_2:RdZ Z A1_3_2_2 l1_3_2_2) (hL1_3_2_2:l1_3_2_2.length≤c1_3_2_2) (hR1_4:RdZ Z A1_4 l1_4) (hL1_4:l1_4.length≤c1_4) (hR1_5:RdZ Z A1_5 l1_5) (hL1_5:l1_5.length≤c1_5) (r:Bool×Int×Int×Int×Bool×Bool×Bool×Bool) (h:tc_stmtAt.b K rec_tc_stmt sp0_0 sp0_1 sp0_2 sp0_3 sp0_4 sp0_5 sp0_6 x1_0 x1_1 x1_2_0 x1_2_1 l1_2_2 x1_3_0 x1_3_1_0 x1_3_1_1 l1_3_1_2 x1_3_2_0 x1_3_2_1 l1_3_2_2 l1_4 l1_5 x2=some r) :
  Calls Try.prog 64 #[pP bp0 0,.agg #[vI x1_0,vI x1_1,vI x1_2_0,vI x1_2_1,.slice A1_2_2 l1_2_2.length c1_2_2,vI x1_3_0,vI x1_3_1_0,vI x1_3_1_1,.slice A1_3_1_2 l1_3_1_2.length c1_3_1_2,vI x1_3_2_0,vI x1_3_2_1,.slice A1_3_2_2 l1_3_2_2.length c1_3_2_2,.slice A1_4 l1_4.length c1_4,.slice A1_5 l1_5.length c1_5],vI x2] wE (tc_stmtAt.Post w0 Z bp0 sp0_0 sp0_1 sp0_2 sp0_3 sp0_4 sp0_5 sp0_6 x1_0 x1_1 x1_2_0 x1_2_1 l1_2_2 A1_2_2 c1_2_2 x1_3_0 x1_3_1_0 x1_3_1_1 l1_3_1_2 A1_3_1_2 c1_3_1_2 x1_3_2_0 x1_3_2_1 l1_3_2_2 A1_3_2_2 c1_3_2_2 l1_4 A1_4 c1_4 l1_5 A1_5 c1_5 x2 LT r):=by
 unfold tc_stmtAt.b at h
 refine calls_enter (n:=18) (args:=[pP bp0 0,.agg #[vI x1_0,vI x1_1,vI x1_2_0,vI x1_2_1,.slice A1_2_2 l1_2_2.length c1_2_2,vI x1_3_0,vI x1_3_1_0,vI x1_3_1_1,.slice A1_3_1_2 l1_3_1_2.length c1_3_1_2,vI x1_3_2_0,vI x1_3_2_1,.slice A1_3_2_2 l1_3_2_2.length c1_3_2_2,.slice A1_4 l1_4.length c1_4,.slice A1_5 l1_5.length c1_5],vI x2]) (fn:=Try.f64) rfl rfl rfl rfl ?_
 show WE _ _ _ _ [(0,pP bp0 0),(1,.agg #[vI x1_0,vI x1_1,vI x1_2_0,vI x1_2_1,.slice A1_2_2 l1_2_2.length c1_2_2,vI x1_3_0,vI x1_3_1_0,vI x1_3_1_1,.slice A1_3_1_2 l1_3_1_2.length c1_3_1_2,vI x1_3_2_0,vI x1_3_2_1,.slice A1_3_2_2 l1_3_2_2.length c1_3_2_2,.slice A1_4 l1_4.length c1_4,.slice A1_5 l1_5.length c1_5]),(2,vI x2)] _
 refine ws fun K1 hK1=>wr [(0,1),(1,0)]<|gw (some 4) (.cells #[vI x1_0,vI x1_1,vI x1_2_0,vI x1_2_1,.slice A1_2_2 l1_2_2.length c1_2_2,vI x1_3_0,vI x1_3_1_0,vI x1_3_1_1,.slice A1_3_1_2 l1_3_1_2.length c1_3_1_2,vI x1_3_2_0,vI x1_3_2_1,.slice A1_3_2_2 l1_3_2_2.length c1_3_2_2,.slice A1_4 l1_4.length c1_4,.slice A1_5 l1_5.length c1_5] 70) (fun b=>pP b 0) hS fun b1 w1 hx1 hS1=>?_
 refine gb0 [1] [(6,.bool false)]<|gn hK1<|ws fun K2 hK2=>wr [(0,0),(1,0),(2,0),(3,0),(4,0),(5,0),(6,0),(7,2)]<|gb [0,1,2,3,4,5,6] [(13,pP bp0 0),(12,pP bp0 0),(11,vI (IntKind.i64.wrap (sp0_0+1))),(10,vI sp0_0),(9,pP bp0 0),(8,pP bp0 0),(7,pP bp0 0)] [ld bp0 0 (vI sp0_0)] ⟨hS1.c 1,trivial⟩ ?_
 have hS2:=hS1.b 1
 refine gs bp0 0 #[vI sp0_0,vI sp0_1,vI sp0_2,.bool sp0_3,.bool sp0_4,.bool sp0_5,.bool sp0_6] 107 [vI (IntKind.i64.wrap (sp0_0+1))] hS2 fun w2 hS3=>?_
 have hS4:=hS3.nc #[vI (IntKind.i64.wrap (sp0_0+1)),vI sp0_1,vI sp0_2,.bool sp0_3,.bool sp0_4,.bool sp0_5,.bool sp0_6] (by kernel_rfl)
 refine gn hK2<|ws fun K3 hK3=>wr [(0,0),(1,0),(2,0),(3,2),(4,0)]<|gb [0,1,2] [(16,vI x2),(15,.agg #[vI x1_0,vI x1_1,vI x1_2_0,vI x1_2_1,.slice A1_2_2 l1_2_2.length c1_2_2,vI x1_3_0,vI x1_3_1_0,vI x1_3_1_1,.slice A1_3_1_2 l1_3_1_2.length c1_3_1_2,vI x1_3_2_0,vI x1_3_2_1,.slice A1_3_2_2 l1_3_2_2.length c1_3_2_2,.slice A1_4 l1_4.length c1_4,.slice A1_5 l1_5.length c1_5]),(14,pP bp0 0)] [ld b1 0 (vI x1_0),ld b1 1 (vI x1_1),ld b1 2 (vI x1_2_0),ld b1 3 (vI x1_2_1),ld b1 4 (.slice A1_2_2 l1_2_2.length c1_2_2),ld b1 5 (vI x1_3_0),ld b1 6 (vI x1_3_1_0),ld b1 7 (vI x1_3_1_1),ld b1 8 (.slice A1_3_1_2 l1_3_1_2.length c1_3_1_2),ld b1 9 (vI x1_3_2_0),ld b1 10 (vI x1_3_2_1),ld b1 11 (.slice A1_3_2_2 l1_3_2_2.length c1_3_2_2),ld b1 12 (.slice A1_4 l1_4.length c1_4),ld b1 13 (.slice A1_5 l1_5.length c1_5)] ⟨hS4.c 1,hS4.c 1,hS4.c 1,hS4.c 1,hS4.c 1,hS4.c 1,hS4.c 1,hS4.c 1,hS4.c 1,hS4.c 1,hS4.c 1,hS4.c 1,hS4.c 1,hS4.c 1,trivial⟩ ?_
 rcases hq1:rec_tc_stmt (IntKind.i64.wrap (sp0_0+1)) sp0_1 sp0_2 sp0_3 sp0_4 sp0_5 sp0_6 x1_0 x1_1 x1_2_0 x1_2_1 l1_2_2 x1_3_0 x1_3_1_0 x1_3_1_1 l1_3_1_2 x1_3_2_0 x1_3_2_1 l1_3_2_2 l1_4 l1_5 x2 with _ | r1
 ·rw [hq1] at h; cases h
 rw [hq1] at h
 simp only [] at h
 have hS6:=hS4.packN 1
 refine ge_call2 (m:=0) (d:=some 17) (f:=88) (args:=#[pP bp0 0,.agg #[vI x1_0,vI x1_1,vI x1_2_0,vI x1_2_1,.slice A1_2_2 l1_2_2.length c1_2_2,vI x1_3_0,vI x1_3_1_0,vI x1_3_1_1,.slice A1_3_1_2 l1_3_1_2.length c1_3_1_2,vI x1_3_2_0,vI x1_3_2_1,.slice A1_3_2_2 l1_3_2_2.length c1_3_2_2,.slice A1_4 l1_4.length c1_4,.slice A1_5 l1_5.length c1_5],vI x2]) (by kernel_rfl) (hr_tc_stmt Z bp0 (IntKind.i64.wrap (sp0_0+1)) sp0_1 sp0_2 sp0_3 sp0_4 sp0_5 sp0_6 x1_0 x1_1 x1_2_0 x1_2_1 l1_2_2 A1_2_2 c1_2_2 x1_3_0 x1_3_1_0 x1_3_1_1 l1_3_1_2 A1_3_1_2 c1_3_1_2 x1_3_2_0 x1_3_2_1 l1_3_2_2 A1_3_2_2 c1_3_2_2 l1_4 A1_4 c1_4 l1_5 A1_5 c1_5 x2 _ _ _ hS6 (fun w L h w' k=>(hZ _ _ (h.spread.bring 1 rfl) w' k)) hR1_2_2 hL1_2_2 hR1_3_1_2 hL1_3_1_2 hR1_3_2_2 hL1_3_2_2 hR1_4 hL1_4 hR1_5 hL1_5 _ hq1) ?_
 rintro _ w3 ⟨rfl,hS5⟩
 refine ⟨_,rfl,?_⟩
 have hS7:=hS5.unpack [bk bp0 #[vI r1.2.1,vI r1.2.2.1,vI r1.2.2.2.1,.bool r1.2.2.2.2.1,.bool r1.2.2.2.2.2.1,.bool r1.2.2.2.2.2.2.1,.bool r1.2.2.2.2.2.2.2] 107]
 refine gb0 [4] [(6,.bool r1.1)]<|gn hK3 ?_
 have hS10:=hS7.p [0,2] rfl
 obtain rfl:=si h
 exact we_ret (pr0 [.tmp 6] [.bool r1.1] ⟨rfl,hS10⟩)
def tc_stmt.p0 (sp0_0 : Int) (sp0_1 : Int) (sp0_2 : Int) (sp0_3 : Bool) (sp0_4 : Bool) (sp0_5 : Bool) (sp0_6 : Bool) (x1_0 : Int) : Option (Unit ⊕ (Bool × Int × Int × Int × Bool × Bool × Bool × Bool)) :=
  if x1_0<1 then
   some (.inr ((tc_say.f sp0_0 sp0_1 sp0_2 sp0_3 sp0_4 sp0_5 sp0_6 6).1,sp0_0,(tc_say.f sp0_0 sp0_1 sp0_2 sp0_3 sp0_4 sp0_5 sp0_6 6).2.1,(tc_say.f sp0_0 sp0_1 sp0_2 sp0_3 sp0_4 sp0_5 sp0_6 6).2.2,sp0_3,sp0_4,sp0_5,sp0_6))
  else
   if x1_0 > 7 then
    some (.inr ((tc_say.f sp0_0 sp0_1 sp0_2 sp0_3 sp0_4 sp0_5 sp0_6 6).1,sp0_0,(tc_say.f sp0_0 sp0_1 sp0_2 sp0_3 sp0_4 sp0_5 sp0_6 6).2.1,(tc_say.f sp0_0 sp0_1 sp0_2 sp0_3 sp0_4 sp0_5 sp0_6 6).2.2,sp0_3,sp0_4,sp0_5,sp0_6))
   else
    some (.inl ())
def tc_stmt.p1 (sp0_0 : Int) (sp0_1 : Int) (sp0_2 : Int) (sp0_3 : Bool) (sp0_4 : Bool) (sp0_5 : Bool) (sp0_6 : Bool) (x1_0 : Int) (x1_1 : Int) : Option (Unit ⊕ (Bool × Int × Int × Int × Bool × Bool × Bool × Bool)) :=
  if x1_1<((tongue_uses.f x1_0).2.2.2.1) then
   some (.inr ((tc_say.f sp0_0 sp0_1 sp0_2 sp0_3 sp0_4 sp0_5 sp0_6 3).1,sp0_0,(tc_say.f sp0_0 sp0_1 sp0_2 sp0_3 sp0_4 sp0_5 sp0_6 3).2.1,(tc_say.f sp0_0 sp0_1 sp0_2 sp0_3 sp0_4 sp0_5 sp0_6 3).2.2,sp0_3,sp0_4,sp0_5,sp0_6))
  else
   if x1_1 > ((tongue_uses.f x1_0).2.2.2.2) then
    some (.inr ((tc_say.f sp0_0 sp0_1 sp0_2 sp0_3 sp0_4 sp0_5 sp0_6 3).1,sp0_0,(tc_say.f sp0_0 sp0_1 sp0_2 sp0_3 sp0_4 sp0_5 sp0_6 3).2.1,(tc_say.f sp0_0 sp0_1 sp0_2 sp0_3 sp0_4 sp0_5 sp0_6 3).2.2,sp0_3,sp0_4,sp0_5,sp0_6))
   else
    some (.inl ())
def tc_stmt.p2 (x1_3_0 : Int) (x1_3_1_0 : Int) (x1_3_1_1 : Int) (l1_3_1_2 : List SExpr) (x1_3_2_0 : Int) (x1_3_2_1 : Int) (l1_3_2_2 : List SExpr) : Option (Bool ⊕ (Bool × Int × Int × Int × Bool × Bool × Bool × Bool)) :=
  if x1_3_0=0 then
   if (tongue_none.f x1_3_1_0 x1_3_1_1 l1_3_1_2)=true then
    some (.inl (tongue_none.f x1_3_2_0 x1_3_2_1 l1_3_2_2))
   else
    some (.inl false)
  else
   some (.inl false)
def tc_stmt.p3 (sp0_0 : Int) (sp0_1 : Int) (sp0_2 : Int) (sp0_3 : Bool) (sp0_4 : Bool) (sp0_5 : Bool) (sp0_6 : Bool) (x1_0 : Int) (x1_2_0 : Int) (x1_2_1 : Int) (l1_2_2 : List SExpr) (l1_4 : List SStmt) (l1_5 : List SStmt) (q2 : Bool) : Option (Unit ⊕ (Bool × Int × Int × Int × Bool × Bool × Bool × Bool)) :=
  if ((tongue_uses.f x1_0).1)=true then
   if ((tongue_uses.f x1_0).2.1)=true then
    if ((tongue_uses.f x1_0).2.2.1)=true then
     if x1_0=3 then
      some (.inl ())
     else
      if (l1_5.length:Int) > 0 then
       some (.inr ((tc_say.f sp0_0 sp0_1 sp0_2 sp0_3 sp0_4 sp0_5 sp0_6 6).1,sp0_0,(tc_say.f sp0_0 sp0_1 sp0_2 sp0_3 sp0_4 sp0_5 sp0_6 6).2.1,(tc_say.f sp0_0 sp0_1 sp0_2 sp0_3 sp0_4 sp0_5 sp0_6 6).2.2,sp0_3,sp0_4,sp0_5,sp0_6))
      else
       some (.inl ())
    else
     if (l1_4.length:Int) > 0 then
      some (.inr ((tc_say.f sp0_0 sp0_1 sp0_2 sp0_3 sp0_4 sp0_5 sp0_6 6).1,sp0_0,(tc_say.f sp0_0 sp0_1 sp0_2 sp0_3 sp0_4 sp0_5 sp0_6 6).2.1,(tc_say.f sp0_0 sp0_1 sp0_2 sp0_3 sp0_4 sp0_5 sp0_6 6).2.2,sp0_3,sp0_4,sp0_5,sp0_6))
     else
      if x1_0=3 then
       some (.inl ())
      else
       if (l1_5.length:Int) > 0 then
        some (.inr ((tc_say.f sp0_0 sp0_1 sp0_2 sp0_3 sp0_4 sp0_5 sp0_6 6).1,sp0_0,(tc_say.f sp0_0 sp0_1 sp0_2 sp0_3 sp0_4 sp0_5 sp0_6 6).2.1,(tc_say.f sp0_0 sp0_1 sp0_2 sp0_3 sp0_4 sp0_5 sp0_6 6).2.2,sp0_3,sp0_4,sp0_5,sp0_6))
       else
        some (.inl ())
   else
    if q2=true then
     if ((tongue_uses.f x1_0).2.2.1)=true then
      if x1_0=3 then
       some (.inl ())
      else
       if (l1_5.length:Int) > 0 then
        some (.inr ((tc_say.f sp0_0 sp0_1 sp0_2 sp0_3 sp0_4 sp0_5 sp0_6 6).1,sp0_0,(tc_say.f sp0_0 sp0_1 sp0_2 sp0_3 sp0_4 sp0_5 sp0_6 6).2.1,(tc_say.f sp0_0 sp0_1 sp0_2 sp0_3 sp0_4 sp0_5 sp0_6 6).2.2,sp0_3,sp0_4,sp0_5,sp0_6))
       else
        some (.inl ())
     else
      if (l1_4.length:Int) > 0 then
       some (.inr ((tc_say.f sp0_0 sp0_1 sp0_2 sp0_3 sp0_4 sp0_5 sp0_6 6).1,sp0_0,(tc_say.f sp0_0 sp0_1 sp0_2 sp0_3 sp0_4 sp0_5 sp0_6 6).2.1,(tc_say.f sp0_0 sp0_1 sp0_2 sp0_3 sp0_4 sp0_5 sp0_6 6).2.2,sp0_3,sp0_4,sp0_5,sp0_6))
      else
       if x1_0=3 then
        some (.inl ())
       else
        if (l1_5.length:Int) > 0 then
         some (.inr ((tc_say.f sp0_0 sp0_1 sp0_2 sp0_3 sp0_4 sp0_5 sp0_6 6).1,sp0_0,(tc_say.f sp0_0 sp0_1 sp0_2 sp0_3 sp0_4 sp0_5 sp0_6 6).2.1,(tc_say.f sp0_0 sp0_1 sp0_2 sp0_3 sp0_4 sp0_5 sp0_6 6).2.2,sp0_3,sp0_4,sp0_5,sp0_6))
        else
         some (.inl ())
    else
     some (.inr ((tc_say.f sp0_0 sp0_1 sp0_2 sp0_3 sp0_4 sp0_5 sp0_6 6).1,sp0_0,(tc_say.f sp0_0 sp0_1 sp0_2 sp0_3 sp0_4 sp0_5 sp0_6 6).2.1,(tc_say.f sp0_0 sp0_1 sp0_2 sp0_3 sp0_4 sp0_5 sp0_6 6).2.2,sp0_3,sp0_4,sp0_5,sp0_6))
  else
   if (tongue_none.f x1_2_0 x1_2_1 l1_2_2)=true then
    if ((tongue_uses.f x1_0).2.1)=true then
     if ((tongue_uses.f x1_0).2.2.1)=true then
      if x1_0=3 then
       some (.inl ())
      else
       if (l1_5.length:Int) > 0 then
        some (.inr ((tc_say.f sp0_0 sp0_1 sp0_2 sp0_3 sp0_4 sp0_5 sp0_6 6).1,sp0_0,(tc_say.f sp0_0 sp0_1 sp0_2 sp0_3 sp0_4 sp0_5 sp0_6 6).2.1,(tc_say.f sp0_0 sp0_1 sp0_2 sp0_3 sp0_4 sp0_5 sp0_6 6).2.2,sp0_3,sp0_4,sp0_5,sp0_6))
       else
        some (.inl ())
     else
      if (l1_4.length:Int) > 0 then
       some (.inr ((tc_say.f sp0_0 sp0_1 sp0_2 sp0_3 sp0_4 sp0_5 sp0_6 6).1,sp0_0,(tc_say.f sp0_0 sp0_1 sp0_2 sp0_3 sp0_4 sp0_5 sp0_6 6).2.1,(tc_say.f sp0_0 sp0_1 sp0_2 sp0_3 sp0_4 sp0_5 sp0_6 6).2.2,sp0_3,sp0_4,sp0_5,sp0_6))
      else
       if x1_0=3 then
        some (.inl ())
       else
        if (l1_5.length:Int) > 0 then
         some (.inr ((tc_say.f sp0_0 sp0_1 sp0_2 sp0_3 sp0_4 sp0_5 sp0_6 6).1,sp0_0,(tc_say.f sp0_0 sp0_1 sp0_2 sp0_3 sp0_4 sp0_5 sp0_6 6).2.1,(tc_say.f sp0_0 sp0_1 sp0_2 sp0_3 sp0_4 sp0_5 sp0_6 6).2.2,sp0_3,sp0_4,sp0_5,sp0_6))
        else
         some (.inl ())
    else
     if q2=true then
      if ((tongue_uses.f x1_0).2.2.1)=true then
       if x1_0=3 then
        some (.inl ())
       else
        if (l1_5.length:Int) > 0 then
         some (.inr ((tc_say.f sp0_0 sp0_1 sp0_2 sp0_3 sp0_4 sp0_5 sp0_6 6).1,sp0_0,(tc_say.f sp0_0 sp0_1 sp0_2 sp0_3 sp0_4 sp0_5 sp0_6 6).2.1,(tc_say.f sp0_0 sp0_1 sp0_2 sp0_3 sp0_4 sp0_5 sp0_6 6).2.2,sp0_3,sp0_4,sp0_5,sp0_6))
        else
         some (.inl ())
      else
       if (l1_4.length:Int) > 0 then
        some (.inr ((tc_say.f sp0_0 sp0_1 sp0_2 sp0_3 sp0_4 sp0_5 sp0_6 6).1,sp0_0,(tc_say.f sp0_0 sp0_1 sp0_2 sp0_3 sp0_4 sp0_5 sp0_6 6).2.1,(tc_say.f sp0_0 sp0_1 sp0_2 sp0_3 sp0_4 sp0_5 sp0_6 6).2.2,sp0_3,sp0_4,sp0_5,sp0_6))
       else
        if x1_0=3 then
         some (.inl ())
        else
         if (l1_5.length:Int) > 0 then
          some (.inr ((tc_say.f sp0_0 sp0_1 sp0_2 sp0_3 sp0_4 sp0_5 sp0_6 6).1,sp0_0,(tc_say.f sp0_0 sp0_1 sp0_2 sp0_3 sp0_4 sp0_5 sp0_6 6).2.1,(tc_say.f sp0_0 sp0_1 sp0_2 sp0_3 sp0_4 sp0_5 sp0_6 6).2.2,sp0_3,sp0_4,sp0_5,sp0_6))
         else
          some (.inl ())
     else
      some (.inr ((tc_say.f sp0_0 sp0_1 sp0_2 sp0_3 sp0_4 sp0_5 sp0_6 6).1,sp0_0,(tc_say.f sp0_0 sp0_1 sp0_2 sp0_3 sp0_4 sp0_5 sp0_6 6).2.1,(tc_say.f sp0_0 sp0_1 sp0_2 sp0_3 sp0_4 sp0_5 sp0_6 6).2.2,sp0_3,sp0_4,sp0_5,sp0_6))
   else
    some (.inr ((tc_say.f sp0_0 sp0_1 sp0_2 sp0_3 sp0_4 sp0_5 sp0_6 6).1,sp0_0,(tc_say.f sp0_0 sp0_1 sp0_2 sp0_3 sp0_4 sp0_5 sp0_6 6).2.1,(tc_say.f sp0_0 sp0_1 sp0_2 sp0_3 sp0_4 sp0_5 sp0_6 6).2.2,sp0_3,sp0_4,sp0_5,sp0_6))
def tc_stmt.p4 (K : Nat) (sp0_0 : Int) (sp0_1 : Int) (sp0_2 : Int) (sp0_3 : Bool) (sp0_4 : Bool) (sp0_5 : Bool) (sp0_6 : Bool) (x1_0 : Int) (x1_2_0 : Int) (x1_2_1 : Int) (l1_2_2 : List SExpr) : Option ((Int × Int) ⊕ (Bool × Int × Int × Int × Bool × Bool × Bool × Bool)) :=
  if ((tongue_uses.f x1_0).1)=true then
   match tc_part.f K sp0_0 sp0_1 sp0_2 sp0_3 sp0_4 sp0_5 sp0_6 ([(⟨x1_2_0,x1_2_1,l1_2_2⟩:SExpr)]:List SExpr) with
   | none=>none
   | some r1 =>
    if r1.1=true then
     some (.inl (r1.2.1,r1.2.2))
    else
     some (.inr (false,sp0_0,r1.2.1,r1.2.2,sp0_3,sp0_4,sp0_5,sp0_6))
  else
   some (.inl (sp0_1,sp0_2))
def tc_stmt.p5 (K : Nat) (sp0_0 : Int) (sp0_3 : Bool) (sp0_4 : Bool) (sp0_5 : Bool) (sp0_6 : Bool) (x1_0 : Int) (x1_3_0 : Int) (x1_3_1_0 : Int) (x1_3_1_1 : Int) (l1_3_1_2 : List SExpr) (x1_3_2_0 : Int) (x1_3_2_1 : Int) (l1_3_2_2 : List SExpr) (z3 : Int) (z4 : Int) : Option ((Int × Int) ⊕ (Bool × Int × Int × Int × Bool × Bool × Bool × Bool)) :=
  if ((tongue_uses.f x1_0).2.1)=true then
   if x1_3_0<1 then
    some (.inr ((tc_say.f sp0_0 z3 z4 sp0_3 sp0_4 sp0_5 sp0_6 6).1,sp0_0,(tc_say.f sp0_0 z3 z4 sp0_3 sp0_4 sp0_5 sp0_6 6).2.1,(tc_say.f sp0_0 z3 z4 sp0_3 sp0_4 sp0_5 sp0_6 6).2.2,sp0_3,sp0_4,sp0_5,sp0_6))
   else
    if x1_3_0 > 4 then
     some (.inr ((tc_say.f sp0_0 z3 z4 sp0_3 sp0_4 sp0_5 sp0_6 6).1,sp0_0,(tc_say.f sp0_0 z3 z4 sp0_3 sp0_4 sp0_5 sp0_6 6).2.1,(tc_say.f sp0_0 z3 z4 sp0_3 sp0_4 sp0_5 sp0_6 6).2.2,sp0_3,sp0_4,sp0_5,sp0_6))
    else
     match tc_part.f K sp0_0 z3 z4 sp0_3 sp0_4 sp0_5 sp0_6 ([(⟨x1_3_1_0,x1_3_1_1,l1_3_1_2⟩:SExpr),(⟨x1_3_2_0,x1_3_2_1,l1_3_2_2⟩:SExpr)]:List SExpr) with
     | none=>none
     | some r2 =>
      if r2.1=true then
       some (.inl (r2.2.1,r2.2.2))
      else
       some (.inr (false,sp0_0,r2.2.1,r2.2.2,sp0_3,sp0_4,sp0_5,sp0_6))
  else
   some (.inl (z3,z4))
def tc_stmt.p6 (sp0_3 : Bool) (sp0_4 : Bool) (sp0_5 : Bool) (sp0_6 : Bool) (x1_1 : Int) : Option ((Bool × Bool × Bool × Bool) ⊕ (Bool × Int × Int × Int × Bool × Bool × Bool × Bool)) :=
  some (.inl ((((([sp0_3,sp0_4,sp0_5,sp0_6]:List Bool).set ((x1_1).toNat) true)[0]?).getD false),(((([sp0_3,sp0_4,sp0_5,sp0_6]:List Bool).set ((x1_1).toNat) true)[1]?).getD false),(((([sp0_3,sp0_4,sp0_5,sp0_6]:List Bool).set ((x1_1).toNat) true)[2]?).getD false),(((([sp0_3,sp0_4,sp0_5,sp0_6]:List Bool).set ((x1_1).toNat) true)[3]?).getD false)))
def tc_stmt.p7 (sp0_3 : Bool) (sp0_4 : Bool) (sp0_5 : Bool) (sp0_6 : Bool) (x1_1 : Int) : Option ((Bool × Bool × Bool × Bool) ⊕ (Bool × Int × Int × Int × Bool × Bool × Bool × Bool)) :=
  some (.inl ((((([sp0_3,sp0_4,sp0_5,sp0_6]:List Bool).set ((x1_1).toNat) true)[0]?).getD false),(((([sp0_3,sp0_4,sp0_5,sp0_6]:List Bool).set ((x1_1).toNat) true)[1]?).getD false),(((([sp0_3,sp0_4,sp0_5,sp0_6]:List Bool).set ((x1_1).toNat) true)[2]?).getD false),(((([sp0_3,sp0_4,sp0_5,sp0_6]:List Bool).set ((x1_1).toNat) true)[3]?).getD false)))
def tc_stmt.b (K : Nat) (rec_tc_list : Int → Int → Int → Bool → Bool → Bool → Bool → (List SStmt) → Int → Option (Bool × Int × Int × Int × Bool × Bool × Bool × Bool)) (sp0_0 : Int) (sp0_1 : Int) (sp0_2 : Int) (sp0_3 : Bool) (sp0_4 : Bool) (sp0_5 : Bool) (sp0_6 : Bool) (x1_0 : Int) (x1_1 : Int) (x1_2_0 : Int) (x1_2_1 : Int) (l1_2_2 : List SExpr) (x1_3_0 : Int) (x1_3_1_0 : Int) (x1_3_1_1 : Int) (l1_3_1_2 : List SExpr) (x1_3_2_0 : Int) (x1_3_2_1 : Int) (l1_3_2_2 : List SExpr) (l1_4 : List SStmt) (l1_5 : List SStmt) (x2 : Int) : Option (Bool × Int × Int × Int × Bool × Bool × Bool × Bool) :=
 match tc_stmt.p0 sp0_0 sp0_1 sp0_2 sp0_3 sp0_4 sp0_5 sp0_6 x1_0 with
 | none=>none
 | some (.inl _) =>
  match tc_stmt.p1 sp0_0 sp0_1 sp0_2 sp0_3 sp0_4 sp0_5 sp0_6 x1_0 x1_1 with
  | none=>none
  | some (.inl _) =>
   match tc_stmt.p2 x1_3_0 x1_3_1_0 x1_3_1_1 l1_3_1_2 x1_3_2_0 x1_3_2_1 l1_3_2_2 with
   | none=>none
   | some (.inl q2) =>
    match tc_stmt.p3 sp0_0 sp0_1 sp0_2 sp0_3 sp0_4 sp0_5 sp0_6 x1_0 x1_2_0 x1_2_1 l1_2_2 l1_4 l1_5 q2 with
    | none=>none
    | some (.inl _) =>
     match tc_stmt.p4 K sp0_0 sp0_1 sp0_2 sp0_3 sp0_4 sp0_5 sp0_6 x1_0 x1_2_0 x1_2_1 l1_2_2 with
     | none=>none
     | some (.inl (z3,z4)) =>
      match tc_stmt.p5 K sp0_0 sp0_3 sp0_4 sp0_5 sp0_6 x1_0 x1_3_0 x1_3_1_0 x1_3_1_1 l1_3_1_2 x1_3_2_0 x1_3_2_1 l1_3_2_2 z3 z4 with
      | none=>none
      | some (.inl (z7,z8)) =>
       if ((tongue_uses.f x1_0).2.2.1)=true then
        if x2=6 then
         some ((tc_say.f sp0_0 z7 z8 sp0_3 sp0_4 sp0_5 sp0_6 2).1,sp0_0,(tc_say.f sp0_0 z7 z8 sp0_3 sp0_4 sp0_5 sp0_6 2).2.1,(tc_say.f sp0_0 z7 z8 sp0_3 sp0_4 sp0_5 sp0_6 2).2.2,sp0_3,sp0_4,sp0_5,sp0_6)
        else
         if x1_0=6 then
          if 0≤x1_1 then
           match ([sp0_3,sp0_4,sp0_5,sp0_6]:List Bool)[(x1_1).toNat]? with
           | none=>none
           | some e1 =>
            if e1=true then
             some ((tc_say.f sp0_0 z7 z8 sp0_3 sp0_4 sp0_5 sp0_6 10).1,sp0_0,(tc_say.f sp0_0 z7 z8 sp0_3 sp0_4 sp0_5 sp0_6 10).2.1,(tc_say.f sp0_0 z7 z8 sp0_3 sp0_4 sp0_5 sp0_6 10).2.2,sp0_3,sp0_4,sp0_5,sp0_6)
            else
             match tc_stmt.p6 sp0_3 sp0_4 sp0_5 sp0_6 x1_1 with
             | none=>none
             | some (.inl (q7,q8,q9,q10)) =>
              match rec_tc_list sp0_0 z7 z8 q7 q8 q9 q10 l1_4 (IntKind.i64.wrap (x2+1)) with
              | none=>none
              | some r3 =>
               if r3.1=true then
                match rec_tc_list r3.2.1 r3.2.2.1 r3.2.2.2.1 r3.2.2.2.2.1 r3.2.2.2.2.2.1 r3.2.2.2.2.2.2.1 r3.2.2.2.2.2.2.2 l1_5 (IntKind.i64.wrap (x2+1)) with
                | none=>none
                | some r4 =>
                 match tc_stmt_1.f r4.2.1 r4.2.2.1 r4.2.2.2.1 r4.2.2.2.2.1 r4.2.2.2.2.2.1 r4.2.2.2.2.2.2.1 r4.2.2.2.2.2.2.2 x1_0 x1_1 x1_2_0 x1_2_1 l1_2_2 x1_3_0 x1_3_1_0 x1_3_1_1 l1_3_1_2 x1_3_2_0 x1_3_2_1 l1_3_2_2 l1_4 l1_5 with
                 | none=>none
                 | some r5 =>
                  some (r4.1,r4.2.1,r4.2.2.1,r4.2.2.2.1,r5.1,r5.2.1,r5.2.2.1,r5.2.2.2)
               else
                match tc_stmt_1.f r3.2.1 r3.2.2.1 r3.2.2.2.1 r3.2.2.2.2.1 r3.2.2.2.2.2.1 r3.2.2.2.2.2.2.1 r3.2.2.2.2.2.2.2 x1_0 x1_1 x1_2_0 x1_2_1 l1_2_2 x1_3_0 x1_3_1_0 x1_3_1_1 l1_3_1_2 x1_3_2_0 x1_3_2_1 l1_3_2_2 l1_4 l1_5 with
                | none=>none
                | some r6 =>
                 some (false,r3.2.1,r3.2.2.1,r3.2.2.2.1,r6.1,r6.2.1,r6.2.2.1,r6.2.2.2)
             | some (.inr rr1) =>
              some rr1
          else
           none
         else
          match rec_tc_list sp0_0 z7 z8 sp0_3 sp0_4 sp0_5 sp0_6 l1_4 (IntKind.i64.wrap (x2+1)) with
          | none=>none
          | some r7 =>
           if r7.1=true then
            match rec_tc_list r7.2.1 r7.2.2.1 r7.2.2.2.1 r7.2.2.2.2.1 r7.2.2.2.2.2.1 r7.2.2.2.2.2.2.1 r7.2.2.2.2.2.2.2 l1_5 (IntKind.i64.wrap (x2+1)) with
            | none=>none
            | some r8 =>
             some (r8.1,r8.2.1,r8.2.2.1,r8.2.2.2.1,r8.2.2.2.2.1,r8.2.2.2.2.2.1,r8.2.2.2.2.2.2.1,r8.2.2.2.2.2.2.2)
           else
            some (false,r7.2.1,r7.2.2.1,r7.2.2.2.1,r7.2.2.2.2.1,r7.2.2.2.2.2.1,r7.2.2.2.2.2.2.1,r7.2.2.2.2.2.2.2)
       else
        if x1_0=6 then
         if 0≤x1_1 then
          match ([sp0_3,sp0_4,sp0_5,sp0_6]:List Bool)[(x1_1).toNat]? with
          | none=>none
          | some e2 =>
           if e2=true then
            some ((tc_say.f sp0_0 z7 z8 sp0_3 sp0_4 sp0_5 sp0_6 10).1,sp0_0,(tc_say.f sp0_0 z7 z8 sp0_3 sp0_4 sp0_5 sp0_6 10).2.1,(tc_say.f sp0_0 z7 z8 sp0_3 sp0_4 sp0_5 sp0_6 10).2.2,sp0_3,sp0_4,sp0_5,sp0_6)
           else
            match tc_stmt.p7 sp0_3 sp0_4 sp0_5 sp0_6 x1_1 with
            | none=>none
            | some (.inl (q15,q16,q17,q18)) =>
             match rec_tc_list sp0_0 z7 z8 q15 q16 q17 q18 l1_4 (IntKind.i64.wrap (x2+1)) with
             | none=>none
             | some r9 =>
              if r9.1=true then
               match rec_tc_list r9.2.1 r9.2.2.1 r9.2.2.2.1 r9.2.2.2.2.1 r9.2.2.2.2.2.1 r9.2.2.2.2.2.2.1 r9.2.2.2.2.2.2.2 l1_5 (IntKind.i64.wrap (x2+1)) with
               | none=>none
               | some r10 =>
                match tc_stmt_1.f r10.2.1 r10.2.2.1 r10.2.2.2.1 r10.2.2.2.2.1 r10.2.2.2.2.2.1 r10.2.2.2.2.2.2.1 r10.2.2.2.2.2.2.2 x1_0 x1_1 x1_2_0 x1_2_1 l1_2_2 x1_3_0 x1_3_1_0 x1_3_1_1 l1_3_1_2 x1_3_2_0 x1_3_2_1 l1_3_2_2 l1_4 l1_5 with
                | none=>none
                | some r11 =>
                 some (r10.1,r10.2.1,r10.2.2.1,r10.2.2.2.1,r11.1,r11.2.1,r11.2.2.1,r11.2.2.2)
              else
               match tc_stmt_1.f r9.2.1 r9.2.2.1 r9.2.2.2.1 r9.2.2.2.2.1 r9.2.2.2.2.2.1 r9.2.2.2.2.2.2.1 r9.2.2.2.2.2.2.2 x1_0 x1_1 x1_2_0 x1_2_1 l1_2_2 x1_3_0 x1_3_1_0 x1_3_1_1 l1_3_1_2 x1_3_2_0 x1_3_2_1 l1_3_2_2 l1_4 l1_5 with
               | none=>none
               | some r12 =>
                some (false,r9.2.1,r9.2.2.1,r9.2.2.2.1,r12.1,r12.2.1,r12.2.2.1,r12.2.2.2)
            | some (.inr rr2) =>
             some rr2
         else
          none
        else
         match rec_tc_list sp0_0 z7 z8 sp0_3 sp0_4 sp0_5 sp0_6 l1_4 (IntKind.i64.wrap (x2+1)) with
         | none=>none
         | some r13 =>
          if r13.1=true then
           match rec_tc_list r13.2.1 r13.2.2.1 r13.2.2.2.1 r13.2.2.2.2.1 r13.2.2.2.2.2.1 r13.2.2.2.2.2.2.1 r13.2.2.2.2.2.2.2 l1_5 (IntKind.i64.wrap (x2+1)) with
           | none=>none
           | some r14 =>
            some (r14.1,r14.2.1,r14.2.2.1,r14.2.2.2.1,r14.2.2.2.2.1,r14.2.2.2.2.2.1,r14.2.2.2.2.2.2.1,r14.2.2.2.2.2.2.2)
          else
           some (false,r13.2.1,r13.2.2.1,r13.2.2.2.1,r13.2.2.2.2.1,r13.2.2.2.2.2.1,r13.2.2.2.2.2.2.1,r13.2.2.2.2.2.2.2)
      | some (.inr rr3) =>
       some rr3
     | some (.inr rr4) =>
      some rr4
    | some (.inr rr5) =>
     some rr5
   | some (.inr rr6) =>
    some rr6
  | some (.inr rr7) =>
   some rr7
 | some (.inr rr8) =>
  some rr8
abbrev tc_stmt.A0 (w0:World) (bp0:Nat) (sp0_0 sp0_1 sp0_2:Int) (sp0_3 sp0_4 sp0_5 sp0_6:Bool) (x1_0 x1_1 x1_2_0 x1_2_1:Int) (l1_2_2:List SExpr) (A1_2_2:OA) (c1_2_2:Nat) (x1_3_0 x1_3_1_0 x1_3_1_1:Int) (l1_3_1_2:List SExpr) (A1_3_1_2:OA) (c1_3_1_2:Nat) (x1_3_2_0 x1_3_2_1:Int) (l1_3_2_2:List SExpr) (A1_3_2_2:OA) (c1_3_2_2:Nat) (l1_4:List SStmt) (A1_4:OA) (c1_4:Nat) (l1_5:List SStmt) (A1_5:OA) (c1_5:Nat) (x2:Int) (LT:List Own) (wf1:World) (b1 b2:Nat):Unit→Act→World→Prop:=fun (s:Unit) a w=>∃ (ft2:List Nat) (wf2:World),Sub wf1 wf2∧St w0 w [bk b2 #[vI x1_0,vI x1_1,vI x1_2_0,vI x1_2_1,.slice A1_2_2 l1_2_2.length c1_2_2,vI x1_3_0,vI x1_3_1_0,vI x1_3_1_1,.slice A1_3_1_2 l1_3_1_2.length c1_3_1_2,vI x1_3_2_0,vI x1_3_2_1,.slice A1_3_2_2 l1_3_2_2.length c1_3_2_2,.slice A1_4 l1_4.length c1_4,.slice A1_5 l1_5.length c1_5] 70,bk b1 #[pP bp0 0] 104,bk bp0 #[vI sp0_0,vI sp0_1,vI sp0_2,.bool sp0_3,.bool sp0_4,.bool sp0_5,.bool sp0_6] 107,Own.all LT,Own.frz ft2 wf2]∧Frm 171 a [(0,pP bp0 0),(2,vI x2),(3,pP b1 0),(4,pP b2 0)]
abbrev tc_stmt.B0 (w0:World) (Z:Zone) (bp0:Nat) (sp0_0 sp0_1 sp0_2:Int) (sp0_3 sp0_4 sp0_5 sp0_6:Bool) (x1_0 x1_1 x1_2_0 x1_2_1:Int) (l1_2_2:List SExpr) (A1_2_2:OA) (c1_2_2:Nat) (x1_3_0 x1_3_1_0 x1_3_1_1:Int) (l1_3_1_2:List SExpr) (A1_3_1_2:OA) (c1_3_1_2:Nat) (x1_3_2_0 x1_3_2_1:Int) (l1_3_2_2:List SExpr) (A1_3_2_2:OA) (c1_3_2_2:Nat) (l1_4:List SStmt) (A1_4:OA) (c1_4:Nat) (l1_5:List SStmt) (A1_5:OA) (c1_5:Nat) (x2:Int) (LT:List Own):(Bool×Int×Int×Int×Bool×Bool×Bool×Bool)→Exit→Act→World→Prop:=RetsD Try.prog Try.f88 (tc_stmt.Post w0 Z bp0 sp0_0 sp0_1 sp0_2 sp0_3 sp0_4 sp0_5 sp0_6 x1_0 x1_1 x1_2_0 x1_2_1 l1_2_2 A1_2_2 c1_2_2 x1_3_0 x1_3_1_0 x1_3_1_1 l1_3_1_2 A1_3_1_2 c1_3_1_2 x1_3_2_0 x1_3_2_1 l1_3_2_2 A1_3_2_2 c1_3_2_2 l1_4 A1_4 c1_4 l1_5 A1_5 c1_5 x2 LT)
theorem tc_stmt_p0 (K:Nat) (w0:World) (Z:Zone) (bp0:Nat) (sp0_0 sp0_1 sp0_2:Int) (sp0_3 sp0_4 sp0_5 sp0_6:Bool) (x1_0 x1_1 x1_2_0 x1_2_1:Int) (l1_2_2:List SExpr) (A1_2_2:OA) (c1_2_2:Nat) (x1_3_0 x1_3_1_0 x1_3_1_1:Int) (l1_3_1_2:List SExpr) (A1_3_1_2:OA) (c1_3_1_2:Nat) (x1_3_2_0 x1_3_2_1:Int) (l1_3_2_2:List SExpr) (A1_3_2_2:OA) (c1_3_2_2:Nat) (l1_4:List SStmt) (A1_4:OA) (c1_4:Nat) (l1_5:List SStmt) (A1_5:OA) (c1_5:Nat) (x2:Int) (LT:List Own) (hZ:∀ w L,St w0 w (Own.all LT::L)→∀ w',Sub w w'→Z w') (hR1_2_2:RdZ Z A1_2_2 l1_2_2) (hL1_2_2:l1_2_2.length≤c1_2_2) (hR1_3_1_2:RdZ Z A1_3_1_2 l1_3_1_2) (hL1_3_1_2:l1_3_1_2.length≤c1_3_1_2) (hR1_3_2_2:RdZ Z A1_3_2_2 l1_3_2_2) (hL1_3_2_2:l1_3_2_2.length≤c1_3_2_2) (hR1_4:RdZ Z A1_4 l1_4) (hL1_4:l1_4.length≤c1_4) (hR1_5:RdZ Z A1_5 l1_5) (hL1_5:l1_5.length≤c1_5) (rec_tc_list:Int→Int→Int→Bool→Bool→Bool→Bool→(List SStmt)→Int→Option (Bool×Int×Int×Int×Bool×Bool×Bool×Bool)) (hr_tc_list:tc_list.Rec rec_tc_list) (ft1:List Nat) (wf1:World) (b1 b2:Nat) (o:Unit ⊕ (Bool×Int×Int×Int×Bool×Bool×Bool×Bool)) (h:tc_stmt.p0 sp0_0 sp0_1 sp0_2 sp0_3 sp0_4 sp0_5 sp0_6 x1_0=some o) (w:World) (hS:St w0 w [bk b2 #[vI x1_0,vI x1_1,vI x1_2_0,vI x1_2_1,.slice A1_2_2 l1_2_2.length c1_2_2,vI x1_3_0,vI x1_3_1_0,vI x1_3_1_1,.slice A1_3_1_2 l1_3_1_2.length c1_3_1_2,vI x1_3_2_0,vI x1_3_2_1,.slice A1_3_2_2 l1_3_2_2.length c1_3_2_2,.slice A1_4 l1_4.length c1_4,.slice A1_5 l1_5.length c1_5] 70,bk b1 #[pP bp0 0] 104,Own.frz ft1 wf1,bk bp0 #[vI sp0_0,vI sp0_1,vI sp0_2,.bool sp0_3,.bool sp0_4,.bool sp0_5,.bool sp0_6] 107,Own.all LT]) (Q:Exit→Act→World→Prop) (hQ:∀ x a w,Outs (tc_stmt.A0 w0 bp0 sp0_0 sp0_1 sp0_2 sp0_3 sp0_4 sp0_5 sp0_6 x1_0 x1_1 x1_2_0 x1_2_1 l1_2_2 A1_2_2 c1_2_2 x1_3_0 x1_3_1_0 x1_3_1_1 l1_3_1_2 A1_3_1_2 c1_3_1_2 x1_3_2_0 x1_3_2_1 l1_3_2_2 A1_3_2_2 c1_3_2_2 l1_4 A1_4 c1_4 l1_5 A1_5 c1_5 x2 LT wf1 b1 b2) (tc_stmt.B0 w0 Z bp0 sp0_0 sp0_1 sp0_2 sp0_3 sp0_4 sp0_5 sp0_6 x1_0 x1_1 x1_2_0 x1_2_1 l1_2_2 A1_2_2 c1_2_2 x1_3_0 x1_3_1_0 x1_3_1_1 l1_3_1_2 A1_3_1_2 c1_3_1_2 x1_3_2_0 x1_3_2_1 l1_3_2_2 A1_3_2_2 c1_3_2_2 l1_4 A1_4 c1_4 l1_5 A1_5 c1_5 x2 LT) o x a w→Q x a w):WE Try.prog 171 (subF Try.f88 [1,0]) Q [(0,pP bp0 0),(1,.agg #[vI x1_0,vI x1_1,vI x1_2_0,vI x1_2_1,.slice A1_2_2 l1_2_2.length c1_2_2,vI x1_3_0,vI x1_3_1_0,vI x1_3_1_1,.slice A1_3_1_2 l1_3_1_2.length c1_3_1_2,vI x1_3_2_0,vI x1_3_2_1,.slice A1_3_2_2 l1_3_2_2.length c1_3_2_2,.slice A1_4 l1_4.length c1_4,.slice A1_5 l1_5.length c1_5]),(2,vI x2),(3,pP b1 0),(4,pP b2 0),(6,.bool false)] w:=by
 simp only [tc_stmt.p0] at h
 refine ws fun K3 hK3=>wr [(0,0),(1,0),(2,0),(3,0),(4,0),(5,0),(6,0),(7,0)]<|gb [0,1,2,3] [(16,.bool (decide (x1_0<1))),(15,.bool (decide (x1_0<1))),(14,vI x1_0),(13,pP b2 0)] [ld b2 0 (vI x1_0)] ⟨hS.c 0,trivial⟩ ?_
 by_cases hc1:x1_0<1
 ·rw [if_pos hc1] at h
  refine gk 16 (decide (x1_0<1)) true (decide_eq_true hc1)<|gb0 [4,5,6,7] [(20,.bool true),(19,undef),(18,undef),(17,undef)]<|gn hK3<|wt<|ws fun K4 hK4=>wr [(0,0),(1,2),(2,0)]<|gb [0] [(21,pP bp0 0)] [ld b1 0 (pP bp0 0)] ⟨hS.c 1,trivial⟩ ?_
  have hS6:=(hS.b 3).packN 1
  refine ge_call2 (m:=0) (d:=some 22) (f:=89) (args:=#[pP bp0 0,vI 6]) (by kernel_rfl) (tc_say_ok bp0 sp0_0 sp0_1 sp0_2 sp0_3 sp0_4 sp0_5 sp0_6 6 _ _ _ hS6 _ rfl) ?_
  rintro _ w3 ⟨rfl,hS5⟩
  refine ⟨_,rfl,?_⟩
  have hS7:=hS5.unpack [bk bp0 #[vI sp0_0,vI ((tc_say.f sp0_0 sp0_1 sp0_2 sp0_3 sp0_4 sp0_5 sp0_6 6).2.1),vI ((tc_say.f sp0_0 sp0_1 sp0_2 sp0_3 sp0_4 sp0_5 sp0_6 6).2.2),.bool sp0_3,.bool sp0_4,.bool sp0_5,.bool sp0_6] 107]
  refine gb0 [2] [(6,.bool ((tc_say.f sp0_0 sp0_1 sp0_2 sp0_3 sp0_4 sp0_5 sp0_6 6).1))]<|gn hK4 ?_
  have hS10:=hS7.p [0,4] rfl
  obtain rfl:=si h
  exact rq hQ fun a hF=>⟨rfl,(post_retD (rs:=[.tmp 6]) (ans:=[]) (vs:=[.bool ((tc_say.f sp0_0 sp0_1 sp0_2 sp0_3 sp0_4 sp0_5 sp0_6 6).1)]) (l:=[]) rfl (by kernel_rfl) trivial ⟨rfl,hS10⟩) a hF⟩
 rw [if_neg hc1] at h
 refine gk 16 (decide (x1_0<1)) false (decide_eq_false hc1)<|gb [4,5,6,7] [(20,.bool (decide (x1_0 > 7))),(19,.bool (decide (x1_0 > 7))),(18,vI x1_0),(17,pP b2 0)] [ld b2 0 (vI x1_0)] ⟨hS.c 0,trivial⟩<|gn hK3 ?_
 by_cases hc2:x1_0 > 7
 ·rw [if_pos hc2] at h
  refine wk 20 (decide (x1_0 > 7)) true (decide_eq_true hc2)<|wt<|ws fun K5 hK5=>wr [(0,0),(1,2),(2,0)]<|gb [0] [(21,pP bp0 0)] [ld b1 0 (pP bp0 0)] ⟨hS.c 1,trivial⟩ ?_
  have hS13:=(hS.b 3).packN 1
  refine ge_call2 (m:=0) (d:=some 22) (f:=89) (args:=#[pP bp0 0,vI 6]) (by kernel_rfl) (tc_say_ok bp0 sp0_0 sp0_1 sp0_2 sp0_3 sp0_4 sp0_5 sp0_6 6 _ _ _ hS13 _ rfl) ?_
  rintro _ w4 ⟨rfl,hS12⟩
  refine ⟨_,rfl,?_⟩
  have hS14:=hS12.unpack [bk bp0 #[vI sp0_0,vI ((tc_say.f sp0_0 sp0_1 sp0_2 sp0_3 sp0_4 sp0_5 sp0_6 6).2.1),vI ((tc_say.f sp0_0 sp0_1 sp0_2 sp0_3 sp0_4 sp0_5 sp0_6 6).2.2),.bool sp0_3,.bool sp0_4,.bool sp0_5,.bool sp0_6] 107]
  refine gb0 [2] [(6,.bool ((tc_say.f sp0_0 sp0_1 sp0_2 sp0_3 sp0_4 sp0_5 sp0_6 6).1))]<|gn hK5 ?_
  have hS17:=hS14.p [0,4] rfl
  obtain rfl:=si h
  exact rq hQ fun a hF=>⟨rfl,(post_retD (rs:=[.tmp 6]) (ans:=[]) (vs:=[.bool ((tc_say.f sp0_0 sp0_1 sp0_2 sp0_3 sp0_4 sp0_5 sp0_6 6).1)]) (l:=[]) rfl (by kernel_rfl) trivial ⟨rfl,hS17⟩) a hF⟩
 rw [if_neg hc2] at h
 refine wk 20 (decide (x1_0 > 7)) false (decide_eq_false hc2)<|wf ?_
 have hS22:=((((hS.b 2).b 4).b 4).b 4).b 4
 obtain rfl:=si h
 exact we_skip fun a hF=>hQ _ _ _ (Outs.again ⟨ft1,wf1,(Sub.refl _),hS22,hF.weaken ea⟩)
abbrev tc_stmt.A1 (w0:World) (bp0:Nat) (sp0_0 sp0_1 sp0_2:Int) (sp0_3 sp0_4 sp0_5 sp0_6:Bool) (x1_0 x1_1 x1_2_0 x1_2_1:Int) (l1_2_2:List SExpr) (A1_2_2:OA) (c1_2_2:Nat) (x1_3_0 x1_3_1_0 x1_3_1_1:Int) (l1_3_1_2:List SExpr) (A1_3_1_2:OA) (c1_3_1_2:Nat) (x1_3_2_0 x1_3_2_1:Int) (l1_3_2_2:List SExpr) (A1_3_2_2:OA) (c1_3_2_2:Nat) (l1_4:List SStmt) (A1_4:OA) (c1_4:Nat) (l1_5:List SStmt) (A1_5:OA) (c1_5:Nat) (x2:Int) (LT:List Own) (b1 b2:Nat) (wf3:World):Unit→Act→World→Prop:=fun (s:Unit) a w=>∃ (ft4:List Nat) (wf4:World),Sub wf3 wf4∧St w0 w [bk b2 #[vI x1_0,vI x1_1,vI x1_2_0,vI x1_2_1,.slice A1_2_2 l1_2_2.length c1_2_2,vI x1_3_0,vI x1_3_1_0,vI x1_3_1_1,.slice A1_3_1_2 l1_3_1_2.length c1_3_1_2,vI x1_3_2_0,vI x1_3_2_1,.slice A1_3_2_2 l1_3_2_2.length c1_3_2_2,.slice A1_4 l1_4.length c1_4,.slice A1_5 l1_5.length c1_5] 70,bk b1 #[pP bp0 0] 104,bk bp0 #[vI sp0_0,vI sp0_1,vI sp0_2,.bool sp0_3,.bool sp0_4,.bool sp0_5,.bool sp0_6] 107,Own.all LT,Own.frz ft4 wf4]∧Frm 171 a [(0,pP bp0 0),(2,vI x2),(3,pP b1 0),(4,pP b2 0),(7,.bool ((tongue_uses.f x1_0).1)),(8,.bool ((tongue_uses.f x1_0).2.1)),(9,.bool ((tongue_uses.f x1_0).2.2.1))]
abbrev tc_stmt.B1 (w0:World) (Z:Zone) (bp0:Nat) (sp0_0 sp0_1 sp0_2:Int) (sp0_3 sp0_4 sp0_5 sp0_6:Bool) (x1_0 x1_1 x1_2_0 x1_2_1:Int) (l1_2_2:List SExpr) (A1_2_2:OA) (c1_2_2:Nat) (x1_3_0 x1_3_1_0 x1_3_1_1:Int) (l1_3_1_2:List SExpr) (A1_3_1_2:OA) (c1_3_1_2:Nat) (x1_3_2_0 x1_3_2_1:Int) (l1_3_2_2:List SExpr) (A1_3_2_2:OA) (c1_3_2_2:Nat) (l1_4:List SStmt) (A1_4:OA) (c1_4:Nat) (l1_5:List SStmt) (A1_5:OA) (c1_5:Nat) (x2:Int) (LT:List Own):(Bool×Int×Int×Int×Bool×Bool×Bool×Bool)→Exit→Act→World→Prop:=RetsD Try.prog Try.f88 (tc_stmt.Post w0 Z bp0 sp0_0 sp0_1 sp0_2 sp0_3 sp0_4 sp0_5 sp0_6 x1_0 x1_1 x1_2_0 x1_2_1 l1_2_2 A1_2_2 c1_2_2 x1_3_0 x1_3_1_0 x1_3_1_1 l1_3_1_2 A1_3_1_2 c1_3_1_2 x1_3_2_0 x1_3_2_1 l1_3_2_2 A1_3_2_2 c1_3_2_2 l1_4 A1_4 c1_4 l1_5 A1_5 c1_5 x2 LT)
theorem tc_stmt_p1 (K:Nat) (w0:World) (Z:Zone) (bp0:Nat) (sp0_0 sp0_1 sp0_2:Int) (sp0_3 sp0_4 sp0_5 sp0_6:Bool) (x1_0 x1_1 x1_2_0 x1_2_1:Int) (l1_2_2:List SExpr) (A1_2_2:OA) (c1_2_2:Nat) (x1_3_0 x1_3_1_0 x1_3_1_1:Int) (l1_3_1_2:List SExpr) (A1_3_1_2:OA) (c1_3_1_2:Nat) (x1_3_2_0 x1_3_2_1:Int) (l1_3_2_2:List SExpr) (A1_3_2_2:OA) (c1_3_2_2:Nat) (l1_4:List SStmt) (A1_4:OA) (c1_4:Nat) (l1_5:List SStmt) (A1_5:OA) (c1_5:Nat) (x2:Int) (LT:List Own) (hZ:∀ w L,St w0 w (Own.all LT::L)→∀ w',Sub w w'→Z w') (hR1_2_2:RdZ Z A1_2_2 l1_2_2) (hL1_2_2:l1_2_2.length≤c1_2_2) (hR1_3_1_2:RdZ Z A1_3_1_2 l1_3_1_2) (hL1_3_1_2:l1_3_1_2.length≤c1_3_1_2) (hR1_3_2_2:RdZ Z A1_3_2_2 l1_3_2_2) (hL1_3_2_2:l1_3_2_2.length≤c1_3_2_2) (hR1_4:RdZ Z A1_4 l1_4) (hL1_4:l1_4.length≤c1_4) (hR1_5:RdZ Z A1_5 l1_5) (hL1_5:l1_5.length≤c1_5) (rec_tc_list:Int→Int→Int→Bool→Bool→Bool→Bool→(List SStmt)→Int→Option (Bool×Int×Int×Int×Bool×Bool×Bool×Bool)) (hr_tc_list:tc_list.Rec rec_tc_list) (ft1:List Nat) (wf1:World) (b1 b2:Nat) (ft3:List Nat) (wf3:World) (hRz1:Sub wf1 wf3) (o:Unit ⊕ (Bool×Int×Int×Int×Bool×Bool×Bool×Bool)) (h:tc_stmt.p1 sp0_0 sp0_1 sp0_2 sp0_3 sp0_4 sp0_5 sp0_6 x1_0 x1_1=some o) (w:World) (hS:St w0 w [bk b2 #[vI x1_0,vI x1_1,vI x1_2_0,vI x1_2_1,.slice A1_2_2 l1_2_2.length c1_2_2,vI x1_3_0,vI x1_3_1_0,vI x1_3_1_1,.slice A1_3_1_2 l1_3_1_2.length c1_3_1_2,vI x1_3_2_0,vI x1_3_2_1,.slice A1_3_2_2 l1_3_2_2.length c1_3_2_2,.slice A1_4 l1_4.length c1_4,.slice A1_5 l1_5.length c1_5] 70,bk b1 #[pP bp0 0] 104,bk bp0 #[vI sp0_0,vI sp0_1,vI sp0_2,.bool sp0_3,.bool sp0_4,.bool sp0_5,.bool sp0_6] 107,Own.all LT,Own.frz ft3 wf3]) (Q:Exit→Act→World→Prop) (hQ:∀ x a w,Outs (tc_stmt.A1 w0 bp0 sp0_0 sp0_1 sp0_2 sp0_3 sp0_4 sp0_5 sp0_6 x1_0 x1_1 x1_2_0 x1_2_1 l1_2_2 A1_2_2 c1_2_2 x1_3_0 x1_3_1_0 x1_3_1_1 l1_3_1_2 A1_3_1_2 c1_3_1_2 x1_3_2_0 x1_3_2_1 l1_3_2_2 A1_3_2_2 c1_3_2_2 l1_4 A1_4 c1_4 l1_5 A1_5 c1_5 x2 LT b1 b2 wf3) (tc_stmt.B1 w0 Z bp0 sp0_0 sp0_1 sp0_2 sp0_3 sp0_4 sp0_5 sp0_6 x1_0 x1_1 x1_2_0 x1_2_1 l1_2_2 A1_2_2 c1_2_2 x1_3_0 x1_3_1_0 x1_3_1_1 l1_3_1_2 A1_3_1_2 c1_3_1_2 x1_3_2_0 x1_3_2_1 l1_3_2_2 A1_3_2_2 c1_3_2_2 l1_4 A1_4 c1_4 l1_5 A1_5 c1_5 x2 LT) o x a w→Q x a w):WE Try.prog 171 (subF Try.f88 [1,1,1,0]) Q [(0,pP bp0 0),(2,vI x2),(3,pP b1 0),(4,pP b2 0),(7,.bool ((tongue_uses.f x1_0).1)),(8,.bool ((tongue_uses.f x1_0).2.1)),(9,.bool ((tongue_uses.f x1_0).2.2.1)),(10,vI ((tongue_uses.f x1_0).2.2.2.1)),(11,vI ((tongue_uses.f x1_0).2.2.2.2)),(23,.tuple #[.bool ((tongue_uses.f x1_0).1),.bool ((tongue_uses.f x1_0).2.1),.bool ((tongue_uses.f x1_0).2.2.1),vI ((tongue_uses.f x1_0).2.2.2.1),vI ((tongue_uses.f x1_0).2.2.2.2)]),(24,pP b2 0),(25,vI x1_0),(26,.tuple #[.bool ((tongue_uses.f x1_0).1),.bool ((tongue_uses.f x1_0).2.1),.bool ((tongue_uses.f x1_0).2.2.1),vI ((tongue_uses.f x1_0).2.2.2.1),vI ((tongue_uses.f x1_0).2.2.2.2)]),(27,.bool ((tongue_uses.f x1_0).1)),(28,.bool ((tongue_uses.f x1_0).2.1)),(29,.bool ((tongue_uses.f x1_0).2.2.1)),(30,vI ((tongue_uses.f x1_0).2.2.2.1)),(31,vI ((tongue_uses.f x1_0).2.2.2.2))] w:=by
 simp only [tc_stmt.p1] at h
 refine ws fun K8 hK8=>wr [(0,0),(1,0),(2,0),(3,0),(4,0),(5,0),(6,0),(7,0),(8,0),(9,0)]<|gb [0,1,2,3,4] [(36,.bool (decide (x1_1<((tongue_uses.f x1_0).2.2.2.1)))),(35,.bool (decide (x1_1<((tongue_uses.f x1_0).2.2.2.1)))),(34,vI ((tongue_uses.f x1_0).2.2.2.1)),(33,vI x1_1),(32,pP b2 1)] [ld b2 1 (vI x1_1)] ⟨hS.c 0,trivial⟩ ?_
 by_cases hc3:x1_1<((tongue_uses.f x1_0).2.2.2.1)
 ·rw [if_pos hc3] at h
  refine gk 36 (decide (x1_1<((tongue_uses.f x1_0).2.2.2.1))) true (decide_eq_true hc3)<|gb0 [5,6,7,8,9] [(41,.bool true),(40,undef),(39,undef),(38,undef),(37,undef)]<|gn hK8<|wt<|ws fun K9 hK9=>wr [(0,0),(1,2),(2,0)]<|gb [0] [(42,pP bp0 0)] [ld b1 0 (pP bp0 0)] ⟨hS.c 1,trivial⟩ ?_
  have hS28:=(hS.b 2).packN 1
  refine ge_call2 (m:=0) (d:=some 43) (f:=89) (args:=#[pP bp0 0,vI 3]) (by kernel_rfl) (tc_say_ok bp0 sp0_0 sp0_1 sp0_2 sp0_3 sp0_4 sp0_5 sp0_6 3 _ _ _ hS28 _ rfl) ?_
  rintro _ w7 ⟨rfl,hS27⟩
  refine ⟨_,rfl,?_⟩
  have hS29:=hS27.unpack [bk bp0 #[vI sp0_0,vI ((tc_say.f sp0_0 sp0_1 sp0_2 sp0_3 sp0_4 sp0_5 sp0_6 3).2.1),vI ((tc_say.f sp0_0 sp0_1 sp0_2 sp0_3 sp0_4 sp0_5 sp0_6 3).2.2),.bool sp0_3,.bool sp0_4,.bool sp0_5,.bool sp0_6] 107]
  refine gb0 [2] [(6,.bool ((tc_say.f sp0_0 sp0_1 sp0_2 sp0_3 sp0_4 sp0_5 sp0_6 3).1))]<|gn hK9 ?_
  have hS32:=hS29.p [0,3] rfl
  obtain rfl:=si h
  exact rq hQ fun a hF=>⟨rfl,(post_retD (rs:=[.tmp 6]) (ans:=[]) (vs:=[.bool ((tc_say.f sp0_0 sp0_1 sp0_2 sp0_3 sp0_4 sp0_5 sp0_6 3).1)]) (l:=[]) rfl (by kernel_rfl) trivial ⟨rfl,hS32⟩) a hF⟩
 rw [if_neg hc3] at h
 refine gk 36 (decide (x1_1<((tongue_uses.f x1_0).2.2.2.1))) false (decide_eq_false hc3)<|gb [5,6,7,8,9] [(41,.bool (decide (x1_1 > ((tongue_uses.f x1_0).2.2.2.2)))),(40,.bool (decide (x1_1 > ((tongue_uses.f x1_0).2.2.2.2)))),(39,vI ((tongue_uses.f x1_0).2.2.2.2)),(38,vI x1_1),(37,pP b2 1)] [ld b2 1 (vI x1_1)] ⟨hS.c 0,trivial⟩<|gn hK8 ?_
 by_cases hc4:x1_1 > ((tongue_uses.f x1_0).2.2.2.2)
 ·rw [if_pos hc4] at h
  refine wk 41 (decide (x1_1 > ((tongue_uses.f x1_0).2.2.2.2))) true (decide_eq_true hc4)<|wt<|ws fun K10 hK10=>wr [(0,0),(1,2),(2,0)]<|gb [0] [(42,pP bp0 0)] [ld b1 0 (pP bp0 0)] ⟨hS.c 1,trivial⟩ ?_
  have hS35:=(hS.b 2).packN 1
  refine ge_call2 (m:=0) (d:=some 43) (f:=89) (args:=#[pP bp0 0,vI 3]) (by kernel_rfl) (tc_say_ok bp0 sp0_0 sp0_1 sp0_2 sp0_3 sp0_4 sp0_5 sp0_6 3 _ _ _ hS35 _ rfl) ?_
  rintro _ w8 ⟨rfl,hS34⟩
  refine ⟨_,rfl,?_⟩
  have hS36:=hS34.unpack [bk bp0 #[vI sp0_0,vI ((tc_say.f sp0_0 sp0_1 sp0_2 sp0_3 sp0_4 sp0_5 sp0_6 3).2.1),vI ((tc_say.f sp0_0 sp0_1 sp0_2 sp0_3 sp0_4 sp0_5 sp0_6 3).2.2),.bool sp0_3,.bool sp0_4,.bool sp0_5,.bool sp0_6] 107]
  refine gb0 [2] [(6,.bool ((tc_say.f sp0_0 sp0_1 sp0_2 sp0_3 sp0_4 sp0_5 sp0_6 3).1))]<|gn hK10 ?_
  have hS39:=hS36.p [0,3] rfl
  obtain rfl:=si h
  exact rq hQ fun a hF=>⟨rfl,(post_retD (rs:=[.tmp 6]) (ans:=[]) (vs:=[.bool ((tc_say.f sp0_0 sp0_1 sp0_2 sp0_3 sp0_4 sp0_5 sp0_6 3).1)]) (l:=[]) rfl (by kernel_rfl) trivial ⟨rfl,hS39⟩) a hF⟩
 rw [if_neg hc4] at h
 refine wk 41 (decide (x1_1 > ((tongue_uses.f x1_0).2.2.2.2))) false (decide_eq_false hc4)<|wf ?_
 have hS44:=((((hS.b 4).b 4).b 4).b 4).b 4
 obtain rfl:=si h
 exact we_skip fun a hF=>hQ _ _ _ (Outs.again ⟨ft3,wf3,(Sub.refl _),hS44,hF.weaken ea⟩)
abbrev tc_stmt.A2 (w0:World) (bp0:Nat) (sp0_0 sp0_1 sp0_2:Int) (sp0_3 sp0_4 sp0_5 sp0_6:Bool) (x1_0 x1_1 x1_2_0 x1_2_1:Int) (l1_2_2:List SExpr) (A1_2_2:OA) (c1_2_2:Nat) (x1_3_0 x1_3_1_0 x1_3_1_1:Int) (l1_3_1_2:List SExpr) (A1_3_1_2:OA) (c1_3_1_2:Nat) (x1_3_2_0 x1_3_2_1:Int) (l1_3_2_2:List SExpr) (A1_3_2_2:OA) (c1_3_2_2:Nat) (l1_4:List SStmt) (A1_4:OA) (c1_4:Nat) (l1_5:List SStmt) (A1_5:OA) (c1_5:Nat) (x2:Int) (LT:List Own) (b1 b2:Nat) (wf5:World):Bool→Act→World→Prop:=fun (s:Bool) a w=>∃ (ft6:List Nat) (wf6:World),Sub wf5 wf6∧St w0 w [bk b2 #[vI x1_0,vI x1_1,vI x1_2_0,vI x1_2_1,.slice A1_2_2 l1_2_2.length c1_2_2,vI x1_3_0,vI x1_3_1_0,vI x1_3_1_1,.slice A1_3_1_2 l1_3_1_2.length c1_3_1_2,vI x1_3_2_0,vI x1_3_2_1,.slice A1_3_2_2 l1_3_2_2.length c1_3_2_2,.slice A1_4 l1_4.length c1_4,.slice A1_5 l1_5.length c1_5] 70,bk b1 #[pP bp0 0] 104,bk bp0 #[vI sp0_0,vI sp0_1,vI sp0_2,.bool sp0_3,.bool sp0_4,.bool sp0_5,.bool sp0_6] 107,Own.all LT,Own.frz ft6 wf6]∧Frm 171 a [(0,pP bp0 0),(2,vI x2),(3,pP b1 0),(4,pP b2 0),(7,.bool ((tongue_uses.f x1_0).1)),(8,.bool ((tongue_uses.f x1_0).2.1)),(9,.bool ((tongue_uses.f x1_0).2.2.1)),(12,.bool s)]
abbrev tc_stmt.B2 (w0:World) (Z:Zone) (bp0:Nat) (sp0_0 sp0_1 sp0_2:Int) (sp0_3 sp0_4 sp0_5 sp0_6:Bool) (x1_0 x1_1 x1_2_0 x1_2_1:Int) (l1_2_2:List SExpr) (A1_2_2:OA) (c1_2_2:Nat) (x1_3_0 x1_3_1_0 x1_3_1_1:Int) (l1_3_1_2:List SExpr) (A1_3_1_2:OA) (c1_3_1_2:Nat) (x1_3_2_0 x1_3_2_1:Int) (l1_3_2_2:List SExpr) (A1_3_2_2:OA) (c1_3_2_2:Nat) (l1_4:List SStmt) (A1_4:OA) (c1_4:Nat) (l1_5:List SStmt) (A1_5:OA) (c1_5:Nat) (x2:Int) (LT:List Own):(Bool×Int×Int×Int×Bool×Bool×Bool×Bool)→Exit→Act→World→Prop:=RetsD Try.prog Try.f88 (tc_stmt.Post w0 Z bp0 sp0_0 sp0_1 sp0_2 sp0_3 sp0_4 sp0_5 sp0_6 x1_0 x1_1 x1_2_0 x1_2_1 l1_2_2 A1_2_2 c1_2_2 x1_3_0 x1_3_1_0 x1_3_1_1 l1_3_1_2 A1_3_1_2 c1_3_1_2 x1_3_2_0 x1_3_2_1 l1_3_2_2 A1_3_2_2 c1_3_2_2 l1_4 A1_4 c1_4 l1_5 A1_5 c1_5 x2 LT)
theorem tc_stmt_p2 (K:Nat) (w0:World) (Z:Zone) (bp0:Nat) (sp0_0 sp0_1 sp0_2:Int) (sp0_3 sp0_4 sp0_5 sp0_6:Bool) (x1_0 x1_1 x1_2_0 x1_2_1:Int) (l1_2_2:List SExpr) (A1_2_2:OA) (c1_2_2:Nat) (x1_3_0 x1_3_1_0 x1_3_1_1:Int) (l1_3_1_2:List SExpr) (A1_3_1_2:OA) (c1_3_1_2:Nat) (x1_3_2_0 x1_3_2_1:Int) (l1_3_2_2:List SExpr) (A1_3_2_2:OA) (c1_3_2_2:Nat) (l1_4:List SStmt) (A1_4:OA) (c1_4:Nat) (l1_5:List SStmt) (A1_5:OA) (c1_5:Nat) (x2:Int) (LT:List Own) (hZ:∀ w L,St w0 w (Own.all LT::L)→∀ w',Sub w w'→Z w') (hR1_2_2:RdZ Z A1_2_2 l1_2_2) (hL1_2_2:l1_2_2.length≤c1_2_2) (hR1_3_1_2:RdZ Z A1_3_1_2 l1_3_1_2) (hL1_3_1_2:l1_3_1_2.length≤c1_3_1_2) (hR1_3_2_2:RdZ Z A1_3_2_2 l1_3_2_2) (hL1_3_2_2:l1_3_2_2.length≤c1_3_2_2) (hR1_4:RdZ Z A1_4 l1_4) (hL1_4:l1_4.length≤c1_4) (hR1_5:RdZ Z A1_5 l1_5) (hL1_5:l1_5.length≤c1_5) (rec_tc_list:Int→Int→Int→Bool→Bool→Bool→Bool→(List SStmt)→Int→Option (Bool×Int×Int×Int×Bool×Bool×Bool×Bool)) (hr_tc_list:tc_list.Rec rec_tc_list) (ft1:List Nat) (wf1:World) (b1 b2:Nat) (ft3:List Nat) (wf3:World) (hRz1:Sub wf1 wf3) (ft5:List Nat) (wf5:World) (hRz2:Sub wf3 wf5) (o:Bool ⊕ (Bool×Int×Int×Int×Bool×Bool×Bool×Bool)) (h:tc_stmt.p2 x1_3_0 x1_3_1_0 x1_3_1_1 l1_3_1_2 x1_3_2_0 x1_3_2_1 l1_3_2_2=some o) (w:World) (hS:St w0 w [bk b2 #[vI x1_0,vI x1_1,vI x1_2_0,vI x1_2_1,.slice A1_2_2 l1_2_2.length c1_2_2,vI x1_3_0,vI x1_3_1_0,vI x1_3_1_1,.slice A1_3_1_2 l1_3_1_2.length c1_3_1_2,vI x1_3_2_0,vI x1_3_2_1,.slice A1_3_2_2 l1_3_2_2.length c1_3_2_2,.slice A1_4 l1_4.length c1_4,.slice A1_5 l1_5.length c1_5] 70,bk b1 #[pP bp0 0] 104,bk bp0 #[vI sp0_0,vI sp0_1,vI sp0_2,.bool sp0_3,.bool sp0_4,.bool sp0_5,.bool sp0_6] 107,Own.all LT,Own.frz ft5 wf5]) (Q:Exit→Act→World→Prop) (hQ:∀ x a w,Outs (tc_stmt.A2 w0 bp0 sp0_0 sp0_1 sp0_2 sp0_3 sp0_4 sp0_5 sp0_6 x1_0 x1_1 x1_2_0 x1_2_1 l1_2_2 A1_2_2 c1_2_2 x1_3_0 x1_3_1_0 x1_3_1_1 l1_3_1_2 A1_3_1_2 c1_3_1_2 x1_3_2_0 x1_3_2_1 l1_3_2_2 A1_3_2_2 c1_3_2_2 l1_4 A1_4 c1_4 l1_5 A1_5 c1_5 x2 LT b1 b2 wf5) (tc_stmt.B2 w0 Z bp0 sp0_0 sp0_1 sp0_2 sp0_3 sp0_4 sp0_5 sp0_6 x1_0 x1_1 x1_2_0 x1_2_1 l1_2_2 A1_2_2 c1_2_2 x1_3_0 x1_3_1_0 x1_3_1_1 l1_3_1_2 A1_3_1_2 c1_3_1_2 x1_3_2_0 x1_3_2_1 l1_3_2_2 A1_3_2_2 c1_3_2_2 l1_4 A1_4 c1_4 l1_5 A1_5 c1_5 x2 LT) o x a w→Q x a w):WE Try.prog 171 (subF Try.f88 [1,1,1,1,0]) Q [(0,pP bp0 0),(2,vI x2),(3,pP b1 0),(4,pP b2 0),(7,.bool ((tongue_uses.f x1_0).1)),(8,.bool ((tongue_uses.f x1_0).2.1)),(9,.bool ((tongue_uses.f x1_0).2.2.1))] w:=by
 simp only [tc_stmt.p2] at h
 refine wr [(0,0),(1,0),(2,0),(3,0),(4,0),(5,0),(6,0),(7,0),(8,1),(9,0),(10,0),(11,0),(12,0),(13,0),(14,1),(15,0),(16,0)]<|gb [0,1,2,3,4] [(48,.bool (x1_3_0==0)),(47,.bool (x1_3_0==0)),(46,vI x1_3_0),(45,pP b2 5),(44,pP b2 5)] [ld b2 5 (vI x1_3_0)] ⟨hS.c 0,trivial⟩ ?_
 by_cases hc5:x1_3_0=0
 ·rw [if_pos hc5] at h
  refine gk 48 (x1_3_0==0) true (beq_iff_eq.2 hc5)<|gb [5,6,7] [(51,.agg #[vI x1_3_1_0,vI x1_3_1_1,.slice A1_3_1_2 l1_3_1_2.length c1_3_1_2]),(50,pP b2 6),(49,pP b2 5)] [ld b2 6 (vI x1_3_1_0),ld b2 7 (vI x1_3_1_1),ld b2 8 (.slice A1_3_1_2 l1_3_1_2.length c1_3_1_2)] ⟨hS.c 0,hS.c 0,hS.c 0,trivial⟩<|ge_call (d:=some 52) (f:=91) (args:=#[.agg #[vI x1_3_1_0,vI x1_3_1_1,.slice A1_3_1_2 l1_3_1_2.length c1_3_1_2]]) (by kernel_rfl) (tongue_none_ok (Zand Z wf5) x1_3_1_0 x1_3_1_1 l1_3_1_2 A1_3_1_2 c1_3_1_2 _ (fun w' k=>⟨(hZ _ _ (hS.bring 3 rfl) w' k),(hS.frzSub 4 rfl).trans k⟩) (hR1_3_1_2.up (ZLe.in _ _)) hL1_3_1_2 _ rfl) ?_
  rintro _ w10 ⟨rfl,hS46⟩
  refine ⟨_,rfl,hS46.below,?_⟩
  have hS47:=hS.call hS46
  refine gb0 [9,10] [(54,.bool (tongue_none.f x1_3_1_0 x1_3_1_1 l1_3_1_2)),(53,.bool (tongue_none.f x1_3_1_0 x1_3_1_1 l1_3_1_2))] ?_
  by_cases hc6:(tongue_none.f x1_3_1_0 x1_3_1_1 l1_3_1_2)=true
  ·rw [if_pos hc6] at h
   refine gk 54 (tongue_none.f x1_3_1_0 x1_3_1_1 l1_3_1_2) true hc6<|gb [11,12,13] [(57,.agg #[vI x1_3_2_0,vI x1_3_2_1,.slice A1_3_2_2 l1_3_2_2.length c1_3_2_2]),(56,pP b2 9),(55,pP b2 5)] [ld b2 9 (vI x1_3_2_0),ld b2 10 (vI x1_3_2_1),ld b2 11 (.slice A1_3_2_2 l1_3_2_2.length c1_3_2_2)] ⟨hS47.c 0,hS47.c 0,hS47.c 0,trivial⟩<|ge_call (d:=some 58) (f:=91) (args:=#[.agg #[vI x1_3_2_0,vI x1_3_2_1,.slice A1_3_2_2 l1_3_2_2.length c1_3_2_2]]) (by kernel_rfl) (tongue_none_ok (Zand Z wf5) x1_3_2_0 x1_3_2_1 l1_3_2_2 A1_3_2_2 c1_3_2_2 _ (fun w' k=>⟨(hZ _ _ (hS47.bring 3 rfl) w' k),(hS47.frzSub 4 rfl).trans k⟩) (hR1_3_2_2.up (ZLe.in _ _)) hL1_3_2_2 _ rfl) ?_
   rintro _ w11 ⟨rfl,hS48⟩
   refine ⟨_,rfl,hS48.below,?_⟩
   have hS49:=hS47.call hS48
   refine gb0 [15,16] [(12,.bool (tongue_none.f x1_3_2_0 x1_3_2_1 l1_3_2_2)),(59,.bool (tongue_none.f x1_3_2_0 x1_3_2_1 l1_3_2_2))] ?_
   have hS54:=((((hS49.b 4).b 4).b 4).b 4).b 4
   obtain rfl:=si h
   exact ge_nil fun a hF=>hQ _ _ _ (Outs.again ⟨ft5,wf5,(Sub.refl _),hS54,hF.weaken ea⟩)
  rw [if_neg hc6] at h
  refine gk 54 (tongue_none.f x1_3_1_0 x1_3_1_1 l1_3_1_2) false (Bool.eq_false_iff.2 hc6)<|gb0 [11,12,13] [(57,undef),(56,undef),(55,undef)]<|ge_off rfl rfl rfl (by kernel_rfl) ?_
  refine gb0 [15,16] [(12,.bool false),(59,.bool false)] ?_
  have hS59:=((((hS47.b 4).b 4).b 4).b 4).b 4
  obtain rfl:=si h
  exact ge_nil fun a hF=>hQ _ _ _ (Outs.again ⟨ft5,wf5,(Sub.refl _),hS59,hF.weaken ea⟩)
 rw [if_neg hc5] at h
 refine gk 48 (x1_3_0==0) false (beq_eq_false_iff_ne.2 hc5)<|gb0 [5,6,7] [(51,undef),(50,undef),(49,undef)]<|ge_off rfl rfl rfl (by kernel_rfl) ?_
 refine gb0 [9,10,11,12,13] [(57,undef),(56,undef),(55,undef),(54,.bool false),(53,.bool false)]<|ge_off rfl rfl rfl (by kernel_rfl) ?_
 refine gb0 [15,16] [(12,.bool false),(59,.bool false)] ?_
 have hS64:=((((hS.b 4).b 4).b 4).b 4).b 4
 obtain rfl:=si h
 exact ge_nil fun a hF=>hQ _ _ _ (Outs.again ⟨ft5,wf5,(Sub.refl _),hS64,hF.weaken ea⟩)
abbrev tc_stmt.A3 (w0:World) (bp0:Nat) (sp0_0 sp0_1 sp0_2:Int) (sp0_3 sp0_4 sp0_5 sp0_6:Bool) (x1_0 x1_1 x1_2_0 x1_2_1:Int) (l1_2_2:List SExpr) (A1_2_2:OA) (c1_2_2:Nat) (x1_3_0 x1_3_1_0 x1_3_1_1:Int) (l1_3_1_2:List SExpr) (A1_3_1_2:OA) (c1_3_1_2:Nat) (x1_3_2_0 x1_3_2_1:Int) (l1_3_2_2:List SExpr) (A1_3_2_2:OA) (c1_3_2_2:Nat) (l1_4:List SStmt) (A1_4:OA) (c1_4:Nat) (l1_5:List SStmt) (A1_5:OA) (c1_5:Nat) (x2:Int) (LT:List Own) (b1 b2:Nat) (wf7:World):Unit→Act→World→Prop:=fun (s:Unit) a w=>∃ (ft8:List Nat) (wf8:World),Sub wf7 wf8∧St w0 w [bk b2 #[vI x1_0,vI x1_1,vI x1_2_0,vI x1_2_1,.slice A1_2_2 l1_2_2.length c1_2_2,vI x1_3_0,vI x1_3_1_0,vI x1_3_1_1,.slice A1_3_1_2 l1_3_1_2.length c1_3_1_2,vI x1_3_2_0,vI x1_3_2_1,.slice A1_3_2_2 l1_3_2_2.length c1_3_2_2,.slice A1_4 l1_4.length c1_4,.slice A1_5 l1_5.length c1_5] 70,bk b1 #[pP bp0 0] 104,bk bp0 #[vI sp0_0,vI sp0_1,vI sp0_2,.bool sp0_3,.bool sp0_4,.bool sp0_5,.bool sp0_6] 107,Own.all LT,Own.frz ft8 wf8]∧Frm 171 a [(0,pP bp0 0),(2,vI x2),(3,pP b1 0),(4,pP b2 0),(7,.bool ((tongue_uses.f x1_0).1)),(8,.bool ((tongue_uses.f x1_0).2.1)),(9,.bool ((tongue_uses.f x1_0).2.2.1))]
abbrev tc_stmt.B3 (w0:World) (Z:Zone) (bp0:Nat) (sp0_0 sp0_1 sp0_2:Int) (sp0_3 sp0_4 sp0_5 sp0_6:Bool) (x1_0 x1_1 x1_2_0 x1_2_1:Int) (l1_2_2:List SExpr) (A1_2_2:OA) (c1_2_2:Nat) (x1_3_0 x1_3_1_0 x1_3_1_1:Int) (l1_3_1_2:List SExpr) (A1_3_1_2:OA) (c1_3_1_2:Nat) (x1_3_2_0 x1_3_2_1:Int) (l1_3_2_2:List SExpr) (A1_3_2_2:OA) (c1_3_2_2:Nat) (l1_4:List SStmt) (A1_4:OA) (c1_4:Nat) (l1_5:List SStmt) (A1_5:OA) (c1_5:Nat) (x2:Int) (LT:List Own):(Bool×Int×Int×Int×Bool×Bool×Bool×Bool)→Exit→Act→World→Prop:=RetsD Try.prog Try.f88 (tc_stmt.Post w0 Z bp0 sp0_0 sp0_1 sp0_2 sp0_3 sp0_4 sp0_5 sp0_6 x1_0 x1_1 x1_2_0 x1_2_1 l1_2_2 A1_2_2 c1_2_2 x1_3_0 x1_3_1_0 x1_3_1_1 l1_3_1_2 A1_3_1_2 c1_3_1_2 x1_3_2_0 x1_3_2_1 l1_3_2_2 A1_3_2_2 c1_3_2_2 l1_4 A1_4 c1_4 l1_5 A1_5 c1_5 x2 LT)
theorem tc_stmt_p3 (K:Nat) (w0:World) (Z:Zone) (bp0:Nat) (sp0_0 sp0_1 sp0_2:Int) (sp0_3 sp0_4 sp0_5 sp0_6:Bool) (x1_0 x1_1 x1_2_0 x1_2_1:Int) (l1_2_2:List SExpr) (A1_2_2:OA) (c1_2_2:Nat) (x1_3_0 x1_3_1_0 x1_3_1_1:Int) (l1_3_1_2:List SExpr) (A1_3_1_2:OA) (c1_3_1_2:Nat) (x1_3_2_0 x1_3_2_1:Int) (l1_3_2_2:List SExpr) (A1_3_2_2:OA) (c1_3_2_2:Nat) (l1_4:List SStmt) (A1_4:OA) (c1_4:Nat) (l1_5:List SStmt) (A1_5:OA) (c1_5:Nat) (x2:Int) (LT:List Own) (hZ:∀ w L,St w0 w (Own.all LT::L)→∀ w',Sub w w'→Z w') (hR1_2_2:RdZ Z A1_2_2 l1_2_2) (hL1_2_2:l1_2_2.length≤c1_2_2) (hR1_3_1_2:RdZ Z A1_3_1_2 l1_3_1_2) (hL1_3_1_2:l1_3_1_2.length≤c1_3_1_2) (hR1_3_2_2:RdZ Z A1_3_2_2 l1_3_2_2) (hL1_3_2_2:l1_3_2_2.length≤c1_3_2_2) (hR1_4:RdZ Z A1_4 l1_4) (hL1_4:l1_4.length≤c1_4) (hR1_5:RdZ Z A1_5 l1_5) (hL1_5:l1_5.length≤c1_5) (rec_tc_list:Int→Int→Int→Bool→Bool→Bool→Bool→(List SStmt)→Int→Option (Bool×Int×Int×Int×Bool×Bool×Bool×Bool)) (hr_tc_list:tc_list.Rec rec_tc_list) (ft1:List Nat) (wf1:World) (b1 b2:Nat) (ft3:List Nat) (wf3:World) (hRz1:Sub wf1 wf3) (ft5:List Nat) (wf5:World) (hRz2:Sub wf3 wf5) (ft7:List Nat) (wf7:World) (q2:Bool) (hRz3:Sub wf5 wf7) (o:Unit ⊕ (Bool×Int×Int×Int×Bool×Bool×Bool×Bool)) (h:tc_stmt.p3 sp0_0 sp0_1 sp0_2 sp0_3 sp0_4 sp0_5 sp0_6 x1_0 x1_2_0 x1_2_1 l1_2_2 l1_4 l1_5 q2=some o) (w:World) (hS:St w0 w [bk b2 #[vI x1_0,vI x1_1,vI x1_2_0,vI x1_2_1,.slice A1_2_2 l1_2_2.length c1_2_2,vI x1_3_0,vI x1_3_1_0,vI x1_3_1_1,.slice A1_3_1_2 l1_3_1_2.length c1_3_1_2,vI x1_3_2_0,vI x1_3_2_1,.slice A1_3_2_2 l1_3_2_2.length c1_3_2_2,.slice A1_4 l1_4.length c1_4,.slice A1_5 l1_5.length c1_5] 70,bk b1 #[pP bp0 0] 104,bk bp0 #[vI sp0_0,vI sp0_1,vI sp0_2,.bool sp0_3,.bool sp0_4,.bool sp0_5,.bool sp0_6] 107,Own.all LT,Own.frz ft7 wf7]) (Q:Exit→Act→World→Prop) (hQ:∀ x a w,Outs (tc_stmt.A3 w0 bp0 sp0_0 sp0_1 sp0_2 sp0_3 sp0_4 sp0_5 sp0_6 x1_0 x1_1 x1_2_0 x1_2_1 l1_2_2 A1_2_2 c1_2_2 x1_3_0 x1_3_1_0 x1_3_1_1 l1_3_1_2 A1_3_1_2 c1_3_1_2 x1_3_2_0 x1_3_2_1 l1_3_2_2 A1_3_2_2 c1_3_2_2 l1_4 A1_4 c1_4 l1_5 A1_5 c1_5 x2 LT b1 b2 wf7) (tc_stmt.B3 w0 Z bp0 sp0_0 sp0_1 sp0_2 sp0_3 sp0_4 sp0_5 sp0_6 x1_0 x1_1 x1_2_0 x1_2_1 l1_2_2 A1_2_2 c1_2_2 x1_3_0 x1_3_1_0 x1_3_1_1 l1_3_1_2 A1_3_1_2 c1_3_1_2 x1_3_2_0 x1_3_2_1 l1_3_2_2 A1_3_2_2 c1_3_2_2 l1_4 A1_4 c1_4 l1_5 A1_5 c1_5 x2 LT) o x a w→Q x a w):WE Try.prog 171 (subF Try.f88 [1,1,1,1,1,0]) Q [(0,pP bp0 0),(2,vI x2),(3,pP b1 0),(4,pP b2 0),(7,.bool ((tongue_uses.f x1_0).1)),(8,.bool ((tongue_uses.f x1_0).2.1)),(9,.bool ((tongue_uses.f x1_0).2.2.1)),(12,.bool q2)] w:=by
 simp only [tc_stmt.p3] at h
 refine ws fun K13 hK13=>wr [(0,0),(1,0),(2,0),(3,0),(4,0),(5,1),(6,0),(7,0),(8,0),(9,0),(10,0),(11,0),(12,0),(13,0),(14,0),(15,0),(16,0),(17,0),(18,0),(19,0),(20,0),(21,0),(22,0),(23,0),(24,0),(25,0),(26,0),(27,0),(28,0),(29,0),(30,0),(31,0),(32,0),(33,0),(34,0),(35,0),(36,0)]<|gb0 [0,1,2] [(62,.bool (!((tongue_uses.f x1_0).1))),(61,.bool (!((tongue_uses.f x1_0).1))),(60,.bool ((tongue_uses.f x1_0).1))] ?_
 by_cases hc7:((tongue_uses.f x1_0).1)=true
 ·rw [if_pos hc7] at h
  refine gk 62 (!((tongue_uses.f x1_0).1)) false (congrArg (fun z=>!z) hc7)<|gb0 [3,4] [(64,undef),(63,undef)]<|ge_off rfl rfl rfl (by kernel_rfl) ?_
  refine gb0 [6,7,8,9,10,11] [(71,.bool (!((tongue_uses.f x1_0).2.1))),(70,.bool (!((tongue_uses.f x1_0).2.1))),(69,.bool ((tongue_uses.f x1_0).2.1)),(68,.bool false),(67,.bool false),(66,undef)] ?_
  by_cases hc8:((tongue_uses.f x1_0).2.1)=true
  ·rw [if_pos hc8] at h
   refine gk 71 (!((tongue_uses.f x1_0).2.1)) false (congrArg (fun z=>!z) hc8)<|gb0 [12,13,14,15,16,17,18,19] [(79,.bool (!((tongue_uses.f x1_0).2.2.1))),(78,.bool (!((tongue_uses.f x1_0).2.2.1))),(77,.bool ((tongue_uses.f x1_0).2.2.1)),(76,.bool false),(75,.bool false),(74,.bool false),(73,undef),(72,undef)] ?_
   by_cases hc9:((tongue_uses.f x1_0).2.2.1)=true
   ·rw [if_pos hc9] at h
    refine gk 79 (!((tongue_uses.f x1_0).2.2.1)) false (congrArg (fun z=>!z) hc9)<|gb [20,21,22,23,24,25,26,27,28,29,30] [(90,.bool (x1_0 != 3)),(89,.bool (x1_0 != 3)),(88,vI x1_0),(87,pP b2 0),(86,.bool false),(85,.bool false),(84,.bool false),(83,undef),(82,undef),(81,undef),(80,undef)] [ld b2 0 (vI x1_0)] ⟨hS.c 0,trivial⟩ ?_
    by_cases hc10:x1_0=3
    ·rw [if_pos hc10] at h
     refine gk 90 (x1_0 != 3) false (bne_eq_false_iff_eq.2 hc10)<|gb0 [31,32,33,34,35,36] [(96,.bool false),(95,.bool false),(94,undef),(93,undef),(92,undef),(91,undef)]<|gn hK13<|wf ?_
     have hS70:=((((hS.b 4).b 4).b 4).b 4).b 4
     obtain rfl:=si h
     exact we_skip fun a hF=>hQ _ _ _ (Outs.again ⟨ft7,wf7,(Sub.refl _),hS70,hF.weaken ea⟩)
    rw [if_neg hc10] at h
    refine gk 90 (x1_0 != 3) true (bne_iff_ne.2 hc10)<|gb [31,32,33,34,35,36] [(96,.bool (decide ((l1_5.length:Int) > 0))),(95,.bool (decide ((l1_5.length:Int) > 0))),(94,.bool (decide ((l1_5.length:Int) > 0))),(93,vI (l1_5.length:Int)),(92,.slice A1_5 l1_5.length c1_5),(91,pP b2 13)] [ld b2 13 (.slice A1_5 l1_5.length c1_5)] ⟨hS.c 0,trivial⟩<|gn hK13 ?_
    by_cases hc11:(l1_5.length:Int) > 0
    ·rw [if_pos hc11] at h
     refine wk 96 (decide ((l1_5.length:Int) > 0)) true (decide_eq_true hc11)<|wt<|ws fun K14 hK14=>wr [(0,0),(1,2),(2,0)]<|gb [0] [(97,pP bp0 0)] [ld b1 0 (pP bp0 0)] ⟨hS.c 1,trivial⟩ ?_
     have hS73:=(hS.b 2).packN 1
     refine ge_call2 (m:=0) (d:=some 98) (f:=89) (args:=#[pP bp0 0,vI 6]) (by kernel_rfl) (tc_say_ok bp0 sp0_0 sp0_1 sp0_2 sp0_3 sp0_4 sp0_5 sp0_6 6 _ _ _ hS73 _ rfl) ?_
     rintro _ w13 ⟨rfl,hS72⟩
     refine ⟨_,rfl,?_⟩
     have hS74:=hS72.unpack [bk bp0 #[vI sp0_0,vI ((tc_say.f sp0_0 sp0_1 sp0_2 sp0_3 sp0_4 sp0_5 sp0_6 6).2.1),vI ((tc_say.f sp0_0 sp0_1 sp0_2 sp0_3 sp0_4 sp0_5 sp0_6 6).2.2),.bool sp0_3,.bool sp0_4,.bool sp0_5,.bool sp0_6] 107]
     refine gb0 [2] [(6,.bool ((tc_say.f sp0_0 sp0_1 sp0_2 sp0_3 sp0_4 sp0_5 sp0_6 6).1))]<|gn hK14 ?_
     have hS77:=hS74.p [0,3] rfl
     obtain rfl:=si h
     exact rq hQ fun a hF=>⟨rfl,(post_retD (rs:=[.tmp 6]) (ans:=[]) (vs:=[.bool ((tc_say.f sp0_0 sp0_1 sp0_2 sp0_3 sp0_4 sp0_5 sp0_6 6).1)]) (l:=[]) rfl (by kernel_rfl) trivial ⟨rfl,hS77⟩) a hF⟩
    rw [if_neg hc11] at h
    refine wk 96 (decide ((l1_5.length:Int) > 0)) false (decide_eq_false hc11)<|wf ?_
    have hS82:=((((hS.b 4).b 4).b 4).b 4).b 4
    obtain rfl:=si h
    exact we_skip fun a hF=>hQ _ _ _ (Outs.again ⟨ft7,wf7,(Sub.refl _),hS82,hF.weaken ea⟩)
   rw [if_neg hc9] at h
   refine gk 79 (!((tongue_uses.f x1_0).2.2.1)) true (congrArg (fun z=>!z) (Bool.eq_false_iff.2 hc9))<|gb [20,21,22,23,24,25,26] [(86,.bool (decide ((l1_4.length:Int) > 0))),(85,.bool (decide ((l1_4.length:Int) > 0))),(84,.bool (decide ((l1_4.length:Int) > 0))),(83,.bool (decide ((l1_4.length:Int) > 0))),(82,vI (l1_4.length:Int)),(81,.slice A1_4 l1_4.length c1_4),(80,pP b2 12)] [ld b2 12 (.slice A1_4 l1_4.length c1_4)] ⟨hS.c 0,trivial⟩ ?_
   by_cases hc12:(l1_4.length:Int) > 0
   ·rw [if_pos hc12] at h
    refine gk 86 (decide ((l1_4.length:Int) > 0)) true (decide_eq_true hc12)<|gb0 [27,28,29,30,31,32,33,34,35,36] [(96,.bool true),(95,undef),(94,undef),(93,undef),(92,undef),(91,undef),(90,undef),(89,undef),(88,undef),(87,undef)]<|gn hK13<|wt<|ws fun K15 hK15=>wr [(0,0),(1,2),(2,0)]<|gb [0] [(97,pP bp0 0)] [ld b1 0 (pP bp0 0)] ⟨hS.c 1,trivial⟩ ?_
    have hS85:=(hS.b 2).packN 1
    refine ge_call2 (m:=0) (d:=some 98) (f:=89) (args:=#[pP bp0 0,vI 6]) (by kernel_rfl) (tc_say_ok bp0 sp0_0 sp0_1 sp0_2 sp0_3 sp0_4 sp0_5 sp0_6 6 _ _ _ hS85 _ rfl) ?_
    rintro _ w14 ⟨rfl,hS84⟩
    refine ⟨_,rfl,?_⟩
    have hS86:=hS84.unpack [bk bp0 #[vI sp0_0,vI ((tc_say.f sp0_0 sp0_1 sp0_2 sp0_3 sp0_4 sp0_5 sp0_6 6).2.1),vI ((tc_say.f sp0_0 sp0_1 sp0_2 sp0_3 sp0_4 sp0_5 sp0_6 6).2.2),.bool sp0_3,.bool sp0_4,.bool sp0_5,.bool sp0_6] 107]
    refine gb0 [2] [(6,.bool ((tc_say.f sp0_0 sp0_1 sp0_2 sp0_3 sp0_4 sp0_5 sp0_6 6).1))]<|gn hK15 ?_
    have hS89:=hS86.p [0,3] rfl
    obtain rfl:=si h
    exact rq hQ fun a hF=>⟨rfl,(post_retD (rs:=[.tmp 6]) (ans:=[]) (vs:=[.bool ((tc_say.f sp0_0 sp0_1 sp0_2 sp0_3 sp0_4 sp0_5 sp0_6 6).1)]) (l:=[]) rfl (by kernel_rfl) trivial ⟨rfl,hS89⟩) a hF⟩
   rw [if_neg hc12] at h
   refine gk 86 (decide ((l1_4.length:Int) > 0)) false (decide_eq_false hc12)<|gb [27,28,29,30] [(90,.bool (x1_0 != 3)),(89,.bool (x1_0 != 3)),(88,vI x1_0),(87,pP b2 0)] [ld b2 0 (vI x1_0)] ⟨hS.c 0,trivial⟩ ?_
   by_cases hc13:x1_0=3
   ·rw [if_pos hc13] at h
    refine gk 90 (x1_0 != 3) false (bne_eq_false_iff_eq.2 hc13)<|gb0 [31,32,33,34,35,36] [(96,.bool false),(95,.bool false),(94,undef),(93,undef),(92,undef),(91,undef)]<|gn hK13<|wf ?_
    have hS94:=((((hS.b 4).b 4).b 4).b 4).b 4
    obtain rfl:=si h
    exact we_skip fun a hF=>hQ _ _ _ (Outs.again ⟨ft7,wf7,(Sub.refl _),hS94,hF.weaken ea⟩)
   rw [if_neg hc13] at h
   refine gk 90 (x1_0 != 3) true (bne_iff_ne.2 hc13)<|gb [31,32,33,34,35,36] [(96,.bool (decide ((l1_5.length:Int) > 0))),(95,.bool (decide ((l1_5.length:Int) > 0))),(94,.bool (decide ((l1_5.length:Int) > 0))),(93,vI (l1_5.length:Int)),(92,.slice A1_5 l1_5.length c1_5),(91,pP b2 13)] [ld b2 13 (.slice A1_5 l1_5.length c1_5)] ⟨hS.c 0,trivial⟩<|gn hK13 ?_
   by_cases hc14:(l1_5.length:Int) > 0
   ·rw [if_pos hc14] at h
    refine wk 96 (decide ((l1_5.length:Int) > 0)) true (decide_eq_true hc14)<|wt<|ws fun K16 hK16=>wr [(0,0),(1,2),(2,0)]<|gb [0] [(97,pP bp0 0)] [ld b1 0 (pP bp0 0)] ⟨hS.c 1,trivial⟩ ?_
    have hS97:=(hS.b 2).packN 1
    refine ge_call2 (m:=0) (d:=some 98) (f:=89) (args:=#[pP bp0 0,vI 6]) (by kernel_rfl) (tc_say_ok bp0 sp0_0 sp0_1 sp0_2 sp0_3 sp0_4 sp0_5 sp0_6 6 _ _ _ hS97 _ rfl) ?_
    rintro _ w15 ⟨rfl,hS96⟩
    refine ⟨_,rfl,?_⟩
    have hS98:=hS96.unpack [bk bp0 #[vI sp0_0,vI ((tc_say.f sp0_0 sp0_1 sp0_2 sp0_3 sp0_4 sp0_5 sp0_6 6).2.1),vI ((tc_say.f sp0_0 sp0_1 sp0_2 sp0_3 sp0_4 sp0_5 sp0_6 6).2.2),.bool sp0_3,.bool sp0_4,.bool sp0_5,.bool sp0_6] 107]
    refine gb0 [2] [(6,.bool ((tc_say.f sp0_0 sp0_1 sp0_2 sp0_3 sp0_4 sp0_5 sp0_6 6).1))]<|gn hK16 ?_
    have hS101:=hS98.p [0,3] rfl
    obtain rfl:=si h
    exact rq hQ fun a hF=>⟨rfl,(post_retD (rs:=[.tmp 6]) (ans:=[]) (vs:=[.bool ((tc_say.f sp0_0 sp0_1 sp0_2 sp0_3 sp0_4 sp0_5 sp0_6 6).1)]) (l:=[]) rfl (by kernel_rfl) trivial ⟨rfl,hS101⟩) a hF⟩
   rw [if_neg hc14] at h
   refine wk 96 (decide ((l1_5.length:Int) > 0)) false (decide_eq_false hc14)<|wf ?_
   have hS106:=((((hS.b 4).b 4).b 4).b 4).b 4
   obtain rfl:=si h
   exact we_skip fun a hF=>hQ _ _ _ (Outs.again ⟨ft7,wf7,(Sub.refl _),hS106,hF.weaken ea⟩)
  rw [if_neg hc8] at h
  refine gk 71 (!((tongue_uses.f x1_0).2.1)) true (congrArg (fun z=>!z) (Bool.eq_false_iff.2 hc8))<|gb0 [12,13,14,15,16] [(76,.bool (!q2)),(75,.bool (!q2)),(74,.bool (!q2)),(73,.bool (!q2)),(72,.bool q2)] ?_
  by_cases hc15:q2=true
  ·rw [if_pos hc15] at h
   refine gk 76 (!q2) false (congrArg (fun z=>!z) hc15)<|gb0 [17,18,19] [(79,.bool (!((tongue_uses.f x1_0).2.2.1))),(78,.bool (!((tongue_uses.f x1_0).2.2.1))),(77,.bool ((tongue_uses.f x1_0).2.2.1))] ?_
   by_cases hc16:((tongue_uses.f x1_0).2.2.1)=true
   ·rw [if_pos hc16] at h
    refine gk 79 (!((tongue_uses.f x1_0).2.2.1)) false (congrArg (fun z=>!z) hc16)<|gb [20,21,22,23,24,25,26,27,28,29,30] [(90,.bool (x1_0 != 3)),(89,.bool (x1_0 != 3)),(88,vI x1_0),(87,pP b2 0),(86,.bool false),(85,.bool false),(84,.bool false),(83,undef),(82,undef),(81,undef),(80,undef)] [ld b2 0 (vI x1_0)] ⟨hS.c 0,trivial⟩ ?_
    by_cases hc17:x1_0=3
    ·rw [if_pos hc17] at h
     refine gk 90 (x1_0 != 3) false (bne_eq_false_iff_eq.2 hc17)<|gb0 [31,32,33,34,35,36] [(96,.bool false),(95,.bool false),(94,undef),(93,undef),(92,undef),(91,undef)]<|gn hK13<|wf ?_
     have hS111:=((((hS.b 4).b 4).b 4).b 4).b 4
     obtain rfl:=si h
     exact we_skip fun a hF=>hQ _ _ _ (Outs.again ⟨ft7,wf7,(Sub.refl _),hS111,hF.weaken ea⟩)
    rw [if_neg hc17] at h
    refine gk 90 (x1_0 != 3) true (bne_iff_ne.2 hc17)<|gb [31,32,33,34,35,36] [(96,.bool (decide ((l1_5.length:Int) > 0))),(95,.bool (decide ((l1_5.length:Int) > 0))),(94,.bool (decide ((l1_5.length:Int) > 0))),(93,vI (l1_5.length:Int)),(92,.slice A1_5 l1_5.length c1_5),(91,pP b2 13)] [ld b2 13 (.slice A1_5 l1_5.length c1_5)] ⟨hS.c 0,trivial⟩<|gn hK13 ?_
    by_cases hc18:(l1_5.length:Int) > 0
    ·rw [if_pos hc18] at h
     refine wk 96 (decide ((l1_5.length:Int) > 0)) true (decide_eq_true hc18)<|wt<|ws fun K17 hK17=>wr [(0,0),(1,2),(2,0)]<|gb [0] [(97,pP bp0 0)] [ld b1 0 (pP bp0 0)] ⟨hS.c 1,trivial⟩ ?_
     have hS114:=(hS.b 2).packN 1
     refine ge_call2 (m:=0) (d:=some 98) (f:=89) (args:=#[pP bp0 0,vI 6]) (by kernel_rfl) (tc_say_ok bp0 sp0_0 sp0_1 sp0_2 sp0_3 sp0_4 sp0_5 sp0_6 6 _ _ _ hS114 _ rfl) ?_
     rintro _ w16 ⟨rfl,hS113⟩
     refine ⟨_,rfl,?_⟩
     have hS115:=hS113.unpack [bk bp0 #[vI sp0_0,vI ((tc_say.f sp0_0 sp0_1 sp0_2 sp0_3 sp0_4 sp0_5 sp0_6 6).2.1),vI ((tc_say.f sp0_0 sp0_1 sp0_2 sp0_3 sp0_4 sp0_5 sp0_6 6).2.2),.bool sp0_3,.bool sp0_4,.bool sp0_5,.bool sp0_6] 107]
     refine gb0 [2] [(6,.bool ((tc_say.f sp0_0 sp0_1 sp0_2 sp0_3 sp0_4 sp0_5 sp0_6 6).1))]<|gn hK17 ?_
     have hS118:=hS115.p [0,3] rfl
     obtain rfl:=si h
     exact rq hQ fun a hF=>⟨rfl,(post_retD (rs:=[.tmp 6]) (ans:=[]) (vs:=[.bool ((tc_say.f sp0_0 sp0_1 sp0_2 sp0_3 sp0_4 sp0_5 sp0_6 6).1)]) (l:=[]) rfl (by kernel_rfl) trivial ⟨rfl,hS118⟩) a hF⟩
    rw [if_neg hc18] at h
    refine wk 96 (decide ((l1_5.length:Int) > 0)) false (decide_eq_false hc18)<|wf ?_
    have hS123:=((((hS.b 4).b 4).b 4).b 4).b 4
    obtain rfl:=si h
    exact we_skip fun a hF=>hQ _ _ _ (Outs.again ⟨ft7,wf7,(Sub.refl _),hS123,hF.weaken ea⟩)
   rw [if_neg hc16] at h
   refine gk 79 (!((tongue_uses.f x1_0).2.2.1)) true (congrArg (fun z=>!z) (Bool.eq_false_iff.2 hc16))<|gb [20,21,22,23,24,25,26] [(86,.bool (decide ((l1_4.length:Int) > 0))),(85,.bool (decide ((l1_4.length:Int) > 0))),(84,.bool (decide ((l1_4.length:Int) > 0))),(83,.bool (decide ((l1_4.length:Int) > 0))),(82,vI (l1_4.length:Int)),(81,.slice A1_4 l1_4.length c1_4),(80,pP b2 12)] [ld b2 12 (.slice A1_4 l1_4.length c1_4)] ⟨hS.c 0,trivial⟩ ?_
   by_cases hc19:(l1_4.length:Int) > 0
   ·rw [if_pos hc19] at h
    refine gk 86 (decide ((l1_4.length:Int) > 0)) true (decide_eq_true hc19)<|gb0 [27,28,29,30,31,32,33,34,35,36] [(96,.bool true),(95,undef),(94,undef),(93,undef),(92,undef),(91,undef),(90,undef),(89,undef),(88,undef),(87,undef)]<|gn hK13<|wt<|ws fun K18 hK18=>wr [(0,0),(1,2),(2,0)]<|gb [0] [(97,pP bp0 0)] [ld b1 0 (pP bp0 0)] ⟨hS.c 1,trivial⟩ ?_
    have hS126:=(hS.b 2).packN 1
    refine ge_call2 (m:=0) (d:=some 98) (f:=89) (args:=#[pP bp0 0,vI 6]) (by kernel_rfl) (tc_say_ok bp0 sp0_0 sp0_1 sp0_2 sp0_3 sp0_4 sp0_5 sp0_6 6 _ _ _ hS126 _ rfl) ?_
    rintro _ w17 ⟨rfl,hS125⟩
    refine ⟨_,rfl,?_⟩
    have hS127:=hS125.unpack [bk bp0 #[vI sp0_0,vI ((tc_say.f sp0_0 sp0_1 sp0_2 sp0_3 sp0_4 sp0_5 sp0_6 6).2.1),vI ((tc_say.f sp0_0 sp0_1 sp0_2 sp0_3 sp0_4 sp0_5 sp0_6 6).2.2),.bool sp0_3,.bool sp0_4,.bool sp0_5,.bool sp0_6] 107]
    refine gb0 [2] [(6,.bool ((tc_say.f sp0_0 sp0_1 sp0_2 sp0_3 sp0_4 sp0_5 sp0_6 6).1))]<|gn hK18 ?_
    have hS130:=hS127.p [0,3] rfl
    obtain rfl:=si h
    exact rq hQ fun a hF=>⟨rfl,(post_retD (rs:=[.tmp 6]) (ans:=[]) (vs:=[.bool ((tc_say.f sp0_0 sp0_1 sp0_2 sp0_3 sp0_4 sp0_5 sp0_6 6).1)]) (l:=[]) rfl (by kernel_rfl) trivial ⟨rfl,hS130⟩) a hF⟩
   rw [if_neg hc19] at h
   refine gk 86 (decide ((l1_4.length:Int) > 0)) false (decide_eq_false hc19)<|gb [27,28,29,30] [(90,.bool (x1_0 != 3)),(89,.bool (x1_0 != 3)),(88,vI x1_0),(87,pP b2 0)] [ld b2 0 (vI x1_0)] ⟨hS.c 0,trivial⟩ ?_
   by_cases hc20:x1_0=3
   ·rw [if_pos hc20] at h
    refine gk 90 (x1_0 != 3) false (bne_eq_false_iff_eq.2 hc20)<|gb0 [31,32,33,34,35,36] [(96,.bool false),(95,.bool false),(94,undef),(93,undef),(92,undef),(91,undef)]<|gn hK13<|wf ?_
    have hS135:=((((hS.b 4).b 4).b 4).b 4).b 4
    obtain rfl:=si h
    exact we_skip fun a hF=>hQ _ _ _ (Outs.again ⟨ft7,wf7,(Sub.refl _),hS135,hF.weaken ea⟩)
   rw [if_neg hc20] at h
   refine gk 90 (x1_0 != 3) true (bne_iff_ne.2 hc20)<|gb [31,32,33,34,35,36] [(96,.bool (decide ((l1_5.length:Int) > 0))),(95,.bool (decide ((l1_5.length:Int) > 0))),(94,.bool (decide ((l1_5.length:Int) > 0))),(93,vI (l1_5.length:Int)),(92,.slice A1_5 l1_5.length c1_5),(91,pP b2 13)] [ld b2 13 (.slice A1_5 l1_5.length c1_5)] ⟨hS.c 0,trivial⟩<|gn hK13 ?_
   by_cases hc21:(l1_5.length:Int) > 0
   ·rw [if_pos hc21] at h
    refine wk 96 (decide ((l1_5.length:Int) > 0)) true (decide_eq_true hc21)<|wt<|ws fun K19 hK19=>wr [(0,0),(1,2),(2,0)]<|gb [0] [(97,pP bp0 0)] [ld b1 0 (pP bp0 0)] ⟨hS.c 1,trivial⟩ ?_
    have hS138:=(hS.b 2).packN 1
    refine ge_call2 (m:=0) (d:=some 98) (f:=89) (args:=#[pP bp0 0,vI 6]) (by kernel_rfl) (tc_say_ok bp0 sp0_0 sp0_1 sp0_2 sp0_3 sp0_4 sp0_5 sp0_6 6 _ _ _ hS138 _ rfl) ?_
    rintro _ w18 ⟨rfl,hS137⟩
    refine ⟨_,rfl,?_⟩
    have hS139:=hS137.unpack [bk bp0 #[vI sp0_0,vI ((tc_say.f sp0_0 sp0_1 sp0_2 sp0_3 sp0_4 sp0_5 sp0_6 6).2.1),vI ((tc_say.f sp0_0 sp0_1 sp0_2 sp0_3 sp0_4 sp0_5 sp0_6 6).2.2),.bool sp0_3,.bool sp0_4,.bool sp0_5,.bool sp0_6] 107]
    refine gb0 [2] [(6,.bool ((tc_say.f sp0_0 sp0_1 sp0_2 sp0_3 sp0_4 sp0_5 sp0_6 6).1))]<|gn hK19 ?_
    have hS142:=hS139.p [0,3] rfl
    obtain rfl:=si h
    exact rq hQ fun a hF=>⟨rfl,(post_retD (rs:=[.tmp 6]) (ans:=[]) (vs:=[.bool ((tc_say.f sp0_0 sp0_1 sp0_2 sp0_3 sp0_4 sp0_5 sp0_6 6).1)]) (l:=[]) rfl (by kernel_rfl) trivial ⟨rfl,hS142⟩) a hF⟩
   rw [if_neg hc21] at h
   refine wk 96 (decide ((l1_5.length:Int) > 0)) false (decide_eq_false hc21)<|wf ?_
   have hS147:=((((hS.b 4).b 4).b 4).b 4).b 4
   obtain rfl:=si h
   exact we_skip fun a hF=>hQ _ _ _ (Outs.again ⟨ft7,wf7,(Sub.refl _),hS147,hF.weaken ea⟩)
  rw [if_neg hc15] at h
  refine gk 76 (!q2) true (congrArg (fun z=>!z) (Bool.eq_false_iff.2 hc15))<|gb0 [17,18,19,20,21,22,23,24,25,26,27,28,29,30,31,32,33,34,35,36] [(96,.bool true),(95,undef),(94,undef),(93,undef),(92,undef),(91,undef),(90,undef),(89,undef),(88,undef),(87,undef),(86,.bool true),(85,.bool true),(84,undef),(83,undef),(82,undef),(81,undef),(80,undef),(79,undef),(78,undef),(77,undef)]<|gn hK13<|wt<|ws fun K20 hK20=>wr [(0,0),(1,2),(2,0)]<|gb [0] [(97,pP bp0 0)] [ld b1 0 (pP bp0 0)] ⟨hS.c 1,trivial⟩ ?_
  have hS150:=(hS.b 2).packN 1
  refine ge_call2 (m:=0) (d:=some 98) (f:=89) (args:=#[pP bp0 0,vI 6]) (by kernel_rfl) (tc_say_ok bp0 sp0_0 sp0_1 sp0_2 sp0_3 sp0_4 sp0_5 sp0_6 6 _ _ _ hS150 _ rfl) ?_
  rintro _ w19 ⟨rfl,hS149⟩
  refine ⟨_,rfl,?_⟩
  have hS151:=hS149.unpack [bk bp0 #[vI sp0_0,vI ((tc_say.f sp0_0 sp0_1 sp0_2 sp0_3 sp0_4 sp0_5 sp0_6 6).2.1),vI ((tc_say.f sp0_0 sp0_1 sp0_2 sp0_3 sp0_4 sp0_5 sp0_6 6).2.2),.bool sp0_3,.bool sp0_4,.bool sp0_5,.bool sp0_6] 107]
  refine gb0 [2] [(6,.bool ((tc_say.f sp0_0 sp0_1 sp0_2 sp0_3 sp0_4 sp0_5 sp0_6 6).1))]<|gn hK20 ?_
  have hS154:=hS151.p [0,3] rfl
  obtain rfl:=si h
  exact rq hQ fun a hF=>⟨rfl,(post_retD (rs:=[.tmp 6]) (ans:=[]) (vs:=[.bool ((tc_say.f sp0_0 sp0_1 sp0_2 sp0_3 sp0_4 sp0_5 sp0_6 6).1)]) (l:=[]) rfl (by kernel_rfl) trivial ⟨rfl,hS154⟩) a hF⟩
 rw [if_neg hc7] at h
 refine gk 62 (!((tongue_uses.f x1_0).1)) true (congrArg (fun z=>!z) (Bool.eq_false_iff.2 hc7))<|gb [3,4] [(64,.agg #[vI x1_2_0,vI x1_2_1,.slice A1_2_2 l1_2_2.length c1_2_2]),(63,pP b2 2)] [ld b2 2 (vI x1_2_0),ld b2 3 (vI x1_2_1),ld b2 4 (.slice A1_2_2 l1_2_2.length c1_2_2)] ⟨hS.c 0,hS.c 0,hS.c 0,trivial⟩<|ge_call (d:=some 65) (f:=91) (args:=#[.agg #[vI x1_2_0,vI x1_2_1,.slice A1_2_2 l1_2_2.length c1_2_2]]) (by kernel_rfl) (tongue_none_ok (Zand Z wf7) x1_2_0 x1_2_1 l1_2_2 A1_2_2 c1_2_2 _ (fun w' k=>⟨(hZ _ _ (hS.bring 3 rfl) w' k),(hS.frzSub 4 rfl).trans k⟩) (hR1_2_2.up (ZLe.in _ _)) hL1_2_2 _ rfl) ?_
 rintro _ w20 ⟨rfl,hS155⟩
 refine ⟨_,rfl,hS155.below,?_⟩
 have hS156:=hS.call hS155
 refine gb0 [6,7,8] [(68,.bool (!(tongue_none.f x1_2_0 x1_2_1 l1_2_2))),(67,.bool (!(tongue_none.f x1_2_0 x1_2_1 l1_2_2))),(66,.bool (!(tongue_none.f x1_2_0 x1_2_1 l1_2_2)))] ?_
 by_cases hc22:(tongue_none.f x1_2_0 x1_2_1 l1_2_2)=true
 ·rw [if_pos hc22] at h
  refine gk 68 (!(tongue_none.f x1_2_0 x1_2_1 l1_2_2)) false (congrArg (fun z=>!z) hc22)<|gb0 [9,10,11] [(71,.bool (!((tongue_uses.f x1_0).2.1))),(70,.bool (!((tongue_uses.f x1_0).2.1))),(69,.bool ((tongue_uses.f x1_0).2.1))] ?_
  by_cases hc23:((tongue_uses.f x1_0).2.1)=true
  ·rw [if_pos hc23] at h
   refine gk 71 (!((tongue_uses.f x1_0).2.1)) false (congrArg (fun z=>!z) hc23)<|gb0 [12,13,14,15,16,17,18,19] [(79,.bool (!((tongue_uses.f x1_0).2.2.1))),(78,.bool (!((tongue_uses.f x1_0).2.2.1))),(77,.bool ((tongue_uses.f x1_0).2.2.1)),(76,.bool false),(75,.bool false),(74,.bool false),(73,undef),(72,undef)] ?_
   by_cases hc24:((tongue_uses.f x1_0).2.2.1)=true
   ·rw [if_pos hc24] at h
    refine gk 79 (!((tongue_uses.f x1_0).2.2.1)) false (congrArg (fun z=>!z) hc24)<|gb [20,21,22,23,24,25,26,27,28,29,30] [(90,.bool (x1_0 != 3)),(89,.bool (x1_0 != 3)),(88,vI x1_0),(87,pP b2 0),(86,.bool false),(85,.bool false),(84,.bool false),(83,undef),(82,undef),(81,undef),(80,undef)] [ld b2 0 (vI x1_0)] ⟨hS156.c 0,trivial⟩ ?_
    by_cases hc25:x1_0=3
    ·rw [if_pos hc25] at h
     refine gk 90 (x1_0 != 3) false (bne_eq_false_iff_eq.2 hc25)<|gb0 [31,32,33,34,35,36] [(96,.bool false),(95,.bool false),(94,undef),(93,undef),(92,undef),(91,undef)]<|gn hK13<|wf ?_
     have hS161:=((((hS156.b 4).b 4).b 4).b 4).b 4
     obtain rfl:=si h
     exact we_skip fun a hF=>hQ _ _ _ (Outs.again ⟨ft7,wf7,(Sub.refl _),hS161,hF.weaken ea⟩)
    rw [if_neg hc25] at h
    refine gk 90 (x1_0 != 3) true (bne_iff_ne.2 hc25)<|gb [31,32,33,34,35,36] [(96,.bool (decide ((l1_5.length:Int) > 0))),(95,.bool (decide ((l1_5.length:Int) > 0))),(94,.bool (decide ((l1_5.length:Int) > 0))),(93,vI (l1_5.length:Int)),(92,.slice A1_5 l1_5.length c1_5),(91,pP b2 13)] [ld b2 13 (.slice A1_5 l1_5.length c1_5)] ⟨hS156.c 0,trivial⟩<|gn hK13 ?_
    by_cases hc26:(l1_5.length:Int) > 0
    ·rw [if_pos hc26] at h
     refine wk 96 (decide ((l1_5.length:Int) > 0)) true (decide_eq_true hc26)<|wt<|ws fun K21 hK21=>wr [(0,0),(1,2),(2,0)]<|gb [0] [(97,pP bp0 0)] [ld b1 0 (pP bp0 0)] ⟨hS156.c 1,trivial⟩ ?_
     have hS164:=(hS156.b 2).packN 1
     refine ge_call2 (m:=0) (d:=some 98) (f:=89) (args:=#[pP bp0 0,vI 6]) (by kernel_rfl) (tc_say_ok bp0 sp0_0 sp0_1 sp0_2 sp0_3 sp0_4 sp0_5 sp0_6 6 _ _ _ hS164 _ rfl) ?_
     rintro _ w21 ⟨rfl,hS163⟩
     refine ⟨_,rfl,?_⟩
     have hS165:=hS163.unpack [bk bp0 #[vI sp0_0,vI ((tc_say.f sp0_0 sp0_1 sp0_2 sp0_3 sp0_4 sp0_5 sp0_6 6).2.1),vI ((tc_say.f sp0_0 sp0_1 sp0_2 sp0_3 sp0_4 sp0_5 sp0_6 6).2.2),.bool sp0_3,.bool sp0_4,.bool sp0_5,.bool sp0_6] 107]
     refine gb0 [2] [(6,.bool ((tc_say.f sp0_0 sp0_1 sp0_2 sp0_3 sp0_4 sp0_5 sp0_6 6).1))]<|gn hK21 ?_
     have hS168:=hS165.p [0,3] rfl
     obtain rfl:=si h
     exact rq hQ fun a hF=>⟨rfl,(post_retD (rs:=[.tmp 6]) (ans:=[]) (vs:=[.bool ((tc_say.f sp0_0 sp0_1 sp0_2 sp0_3 sp0_4 sp0_5 sp0_6 6).1)]) (l:=[]) rfl (by kernel_rfl) trivial ⟨rfl,hS168⟩) a hF⟩
    rw [if_neg hc26] at h
    refine wk 96 (decide ((l1_5.length:Int) > 0)) false (decide_eq_false hc26)<|wf ?_
    have hS173:=((((hS156.b 4).b 4).b 4).b 4).b 4
    obtain rfl:=si h
    exact we_skip fun a hF=>hQ _ _ _ (Outs.again ⟨ft7,wf7,(Sub.refl _),hS173,hF.weaken ea⟩)
   rw [if_neg hc24] at h
   refine gk 79 (!((tongue_uses.f x1_0).2.2.1)) true (congrArg (fun z=>!z) (Bool.eq_false_iff.2 hc24))<|gb [20,21,22,23,24,25,26] [(86,.bool (decide ((l1_4.length:Int) > 0))),(85,.bool (decide ((l1_4.length:Int) > 0))),(84,.bool (decide ((l1_4.length:Int) > 0))),(83,.bool (decide ((l1_4.length:Int) > 0))),(82,vI (l1_4.length:Int)),(81,.slice A1_4 l1_4.length c1_4),(80,pP b2 12)] [ld b2 12 (.slice A1_4 l1_4.length c1_4)] ⟨hS156.c 0,trivial⟩ ?_
   by_cases hc27:(l1_4.length:Int) > 0
   ·rw [if_pos hc27] at h
    refine gk 86 (decide ((l1_4.length:Int) > 0)) true (decide_eq_true hc27)<|gb0 [27,28,29,30,31,32,33,34,35,36] [(96,.bool true),(95,undef),(94,undef),(93,undef),(92,undef),(91,undef),(90,undef),(89,undef),(88,undef),(87,undef)]<|gn hK13<|wt<|ws fun K22 hK22=>wr [(0,0),(1,2),(2,0)]<|gb [0] [(97,pP bp0 0)] [ld b1 0 (pP bp0 0)] ⟨hS156.c 1,trivial⟩ ?_
    have hS176:=(hS156.b 2).packN 1
    refine ge_call2 (m:=0) (d:=some 98) (f:=89) (args:=#[pP bp0 0,vI 6]) (by kernel_rfl) (tc_say_ok bp0 sp0_0 sp0_1 sp0_2 sp0_3 sp0_4 sp0_5 sp0_6 6 _ _ _ hS176 _ rfl) ?_
    rintro _ w22 ⟨rfl,hS175⟩
    refine ⟨_,rfl,?_⟩
    have hS177:=hS175.unpack [bk bp0 #[vI sp0_0,vI ((tc_say.f sp0_0 sp0_1 sp0_2 sp0_3 sp0_4 sp0_5 sp0_6 6).2.1),vI ((tc_say.f sp0_0 sp0_1 sp0_2 sp0_3 sp0_4 sp0_5 sp0_6 6).2.2),.bool sp0_3,.bool sp0_4,.bool sp0_5,.bool sp0_6] 107]
    refine gb0 [2] [(6,.bool ((tc_say.f sp0_0 sp0_1 sp0_2 sp0_3 sp0_4 sp0_5 sp0_6 6).1))]<|gn hK22 ?_
    have hS180:=hS177.p [0,3] rfl
    obtain rfl:=si h
    exact rq hQ fun a hF=>⟨rfl,(post_retD (rs:=[.tmp 6]) (ans:=[]) (vs:=[.bool ((tc_say.f sp0_0 sp0_1 sp0_2 sp0_3 sp0_4 sp0_5 sp0_6 6).1)]) (l:=[]) rfl (by kernel_rfl) trivial ⟨rfl,hS180⟩) a hF⟩
   rw [if_neg hc27] at h
   refine gk 86 (decide ((l1_4.length:Int) > 0)) false (decide_eq_false hc27)<|gb [27,28,29,30] [(90,.bool (x1_0 != 3)),(89,.bool (x1_0 != 3)),(88,vI x1_0),(87,pP b2 0)] [ld b2 0 (vI x1_0)] ⟨hS156.c 0,trivial⟩ ?_
   by_cases hc28:x1_0=3
   ·rw [if_pos hc28] at h
    refine gk 90 (x1_0 != 3) false (bne_eq_false_iff_eq.2 hc28)<|gb0 [31,32,33,34,35,36] [(96,.bool false),(95,.bool false),(94,undef),(93,undef),(92,undef),(91,undef)]<|gn hK13<|wf ?_
    have hS185:=((((hS156.b 4).b 4).b 4).b 4).b 4
    obtain rfl:=si h
    exact we_skip fun a hF=>hQ _ _ _ (Outs.again ⟨ft7,wf7,(Sub.refl _),hS185,hF.weaken ea⟩)
   rw [if_neg hc28] at h
   refine gk 90 (x1_0 != 3) true (bne_iff_ne.2 hc28)<|gb [31,32,33,34,35,36] [(96,.bool (decide ((l1_5.length:Int) > 0))),(95,.bool (decide ((l1_5.length:Int) > 0))),(94,.bool (decide ((l1_5.length:Int) > 0))),(93,vI (l1_5.length:Int)),(92,.slice A1_5 l1_5.length c1_5),(91,pP b2 13)] [ld b2 13 (.slice A1_5 l1_5.length c1_5)] ⟨hS156.c 0,trivial⟩<|gn hK13 ?_
   by_cases hc29:(l1_5.length:Int) > 0
   ·rw [if_pos hc29] at h
    refine wk 96 (decide ((l1_5.length:Int) > 0)) true (decide_eq_true hc29)<|wt<|ws fun K23 hK23=>wr [(0,0),(1,2),(2,0)]<|gb [0] [(97,pP bp0 0)] [ld b1 0 (pP bp0 0)] ⟨hS156.c 1,trivial⟩ ?_
    have hS188:=(hS156.b 2).packN 1
    refine ge_call2 (m:=0) (d:=some 98) (f:=89) (args:=#[pP bp0 0,vI 6]) (by kernel_rfl) (tc_say_ok bp0 sp0_0 sp0_1 sp0_2 sp0_3 sp0_4 sp0_5 sp0_6 6 _ _ _ hS188 _ rfl) ?_
    rintro _ w23 ⟨rfl,hS187⟩
    refine ⟨_,rfl,?_⟩
    have hS189:=hS187.unpack [bk bp0 #[vI sp0_0,vI ((tc_say.f sp0_0 sp0_1 sp0_2 sp0_3 sp0_4 sp0_5 sp0_6 6).2.1),vI ((tc_say.f sp0_0 sp0_1 sp0_2 sp0_3 sp0_4 sp0_5 sp0_6 6).2.2),.bool sp0_3,.bool sp0_4,.bool sp0_5,.bool sp0_6] 107]
    refine gb0 [2] [(6,.bool ((tc_say.f sp0_0 sp0_1 sp0_2 sp0_3 sp0_4 sp0_5 sp0_6 6).1))]<|gn hK23 ?_
    have hS192:=hS189.p [0,3] rfl
    obtain rfl:=si h
    exact rq hQ fun a hF=>⟨rfl,(post_retD (rs:=[.tmp 6]) (ans:=[]) (vs:=[.bool ((tc_say.f sp0_0 sp0_1 sp0_2 sp0_3 sp0_4 sp0_5 sp0_6 6).1)]) (l:=[]) rfl (by kernel_rfl) trivial ⟨rfl,hS192⟩) a hF⟩
   rw [if_neg hc29] at h
   refine wk 96 (decide ((l1_5.length:Int) > 0)) false (decide_eq_false hc29)<|wf ?_
   have hS197:=((((hS156.b 4).b 4).b 4).b 4).b 4
   obtain rfl:=si h
   exact we_skip fun a hF=>hQ _ _ _ (Outs.again ⟨ft7,wf7,(Sub.refl _),hS197,hF.weaken ea⟩)
  rw [if_neg hc23] at h
  refine gk 71 (!((tongue_uses.f x1_0).2.1)) true (congrArg (fun z=>!z) (Bool.eq_false_iff.2 hc23))<|gb0 [12,13,14,15,16] [(76,.bool (!q2)),(75,.bool (!q2)),(74,.bool (!q2)),(73,.bool (!q2)),(72,.bool q2)] ?_
  by_cases hc30:q2=true
  ·rw [if_pos hc30] at h
   refine gk 76 (!q2) false (congrArg (fun z=>!z) hc30)<|gb0 [17,18,19] [(79,.bool (!((tongue_uses.f x1_0).2.2.1))),(78,.bool (!((tongue_uses.f x1_0).2.2.1))),(77,.bool ((tongue_uses.f x1_0).2.2.1))] ?_
   by_cases hc31:((tongue_uses.f x1_0).2.2.1)=true
   ·rw [if_pos hc31] at h
    refine gk 79 (!((tongue_uses.f x1_0).2.2.1)) false (congrArg (fun z=>!z) hc31)<|gb [20,21,22,23,24,25,26,27,28,29,30] [(90,.bool (x1_0 != 3)),(89,.bool (x1_0 != 3)),(88,vI x1_0),(87,pP b2 0),(86,.bool false),(85,.bool false),(84,.bool false),(83,undef),(82,undef),(81,undef),(80,undef)] [ld b2 0 (vI x1_0)] ⟨hS156.c 0,trivial⟩ ?_
    by_cases hc32:x1_0=3
    ·rw [if_pos hc32] at h
     refine gk 90 (x1_0 != 3) false (bne_eq_false_iff_eq.2 hc32)<|gb0 [31,32,33,34,35,36] [(96,.bool false),(95,.bool false),(94,undef),(93,undef),(92,undef),(91,undef)]<|gn hK13<|wf ?_
     have hS202:=((((hS156.b 4).b 4).b 4).b 4).b 4
     obtain rfl:=si h
     exact we_skip fun a hF=>hQ _ _ _ (Outs.again ⟨ft7,wf7,(Sub.refl _),hS202,hF.weaken ea⟩)
    rw [if_neg hc32] at h
    refine gk 90 (x1_0 != 3) true (bne_iff_ne.2 hc32)<|gb [31,32,33,34,35,36] [(96,.bool (decide ((l1_5.length:Int) > 0))),(95,.bool (decide ((l1_5.length:Int) > 0))),(94,.bool (decide ((l1_5.length:Int) > 0))),(93,vI (l1_5.length:Int)),(92,.slice A1_5 l1_5.length c1_5),(91,pP b2 13)] [ld b2 13 (.slice A1_5 l1_5.length c1_5)] ⟨hS156.c 0,trivial⟩<|gn hK13 ?_
    by_cases hc33:(l1_5.length:Int) > 0
    ·rw [if_pos hc33] at h
     refine wk 96 (decide ((l1_5.length:Int) > 0)) true (decide_eq_true hc33)<|wt<|ws fun K24 hK24=>wr [(0,0),(1,2),(2,0)]<|gb [0] [(97,pP bp0 0)] [ld b1 0 (pP bp0 0)] ⟨hS156.c 1,trivial⟩ ?_
     have hS205:=(hS156.b 2).packN 1
     refine ge_call2 (m:=0) (d:=some 98) (f:=89) (args:=#[pP bp0 0,vI 6]) (by kernel_rfl) (tc_say_ok bp0 sp0_0 sp0_1 sp0_2 sp0_3 sp0_4 sp0_5 sp0_6 6 _ _ _ hS205 _ rfl) ?_
     rintro _ w24 ⟨rfl,hS204⟩
     refine ⟨_,rfl,?_⟩
     have hS206:=hS204.unpack [bk bp0 #[vI sp0_0,vI ((tc_say.f sp0_0 sp0_1 sp0_2 sp0_3 sp0_4 sp0_5 sp0_6 6).2.1),vI ((tc_say.f sp0_0 sp0_1 sp0_2 sp0_3 sp0_4 sp0_5 sp0_6 6).2.2),.bool sp0_3,.bool sp0_4,.bool sp0_5,.bool sp0_6] 107]
     refine gb0 [2] [(6,.bool ((tc_say.f sp0_0 sp0_1 sp0_2 sp0_3 sp0_4 sp0_5 sp0_6 6).1))]<|gn hK24 ?_
     have hS209:=hS206.p [0,3] rfl
     obtain rfl:=si h
     exact rq hQ fun a hF=>⟨rfl,(post_retD (rs:=[.tmp 6]) (ans:=[]) (vs:=[.bool ((tc_say.f sp0_0 sp0_1 sp0_2 sp0_3 sp0_4 sp0_5 sp0_6 6).1)]) (l:=[]) rfl (by kernel_rfl) trivial ⟨rfl,hS209⟩) a hF⟩
    rw [if_neg hc33] at h
    refine wk 96 (decide ((l1_5.length:Int) > 0)) false (decide_eq_false hc33)<|wf ?_
    have hS214:=((((hS156.b 4).b 4).b 4).b 4).b 4
    obtain rfl:=si h
    exact we_skip fun a hF=>hQ _ _ _ (Outs.again ⟨ft7,wf7,(Sub.refl _),hS214,hF.weaken ea⟩)
   rw [if_neg hc31] at h
   refine gk 79 (!((tongue_uses.f x1_0).2.2.1)) true (congrArg (fun z=>!z) (Bool.eq_false_iff.2 hc31))<|gb [20,21,22,23,24,25,26] [(86,.bool (decide ((l1_4.length:Int) > 0))),(85,.bool (decide ((l1_4.length:Int) > 0))),(84,.bool (decide ((l1_4.length:Int) > 0))),(83,.bool (decide ((l1_4.length:Int) > 0))),(82,vI (l1_4.length:Int)),(81,.slice A1_4 l1_4.length c1_4),(80,pP b2 12)] [ld b2 12 (.slice A1_4 l1_4.length c1_4)] ⟨hS156.c 0,trivial⟩ ?_
   by_cases hc34:(l1_4.length:Int) > 0
   ·rw [if_pos hc34] at h
    refine gk 86 (decide ((l1_4.length:Int) > 0)) true (decide_eq_true hc34)<|gb0 [27,28,29,30,31,32,33,34,35,36] [(96,.bool true),(95,undef),(94,undef),(93,undef),(92,undef),(91,undef),(90,undef),(89,undef),(88,undef),(87,undef)]<|gn hK13<|wt<|ws fun K25 hK25=>wr [(0,0),(1,2),(2,0)]<|gb [0] [(97,pP bp0 0)] [ld b1 0 (pP bp0 0)] ⟨hS156.c 1,trivial⟩ ?_
    have hS217:=(hS156.b 2).packN 1
    refine ge_call2 (m:=0) (d:=some 98) (f:=89) (args:=#[pP bp0 0,vI 6]) (by kernel_rfl) (tc_say_ok bp0 sp0_0 sp0_1 sp0_2 sp0_3 sp0_4 sp0_5 sp0_6 6 _ _ _ hS217 _ rfl) ?_
    rintro _ w25 ⟨rfl,hS216⟩
    refine ⟨_,rfl,?_⟩
    have hS218:=hS216.unpack [bk bp0 #[vI sp0_0,vI ((tc_say.f sp0_0 sp0_1 sp0_2 sp0_3 sp0_4 sp0_5 sp0_6 6).2.1),vI ((tc_say.f sp0_0 sp0_1 sp0_2 sp0_3 sp0_4 sp0_5 sp0_6 6).2.2),.bool sp0_3,.bool sp0_4,.bool sp0_5,.bool sp0_6] 107]
    refine gb0 [2] [(6,.bool ((tc_say.f sp0_0 sp0_1 sp0_2 sp0_3 sp0_4 sp0_5 sp0_6 6).1))]<|gn hK25 ?_
    have hS221:=hS218.p [0,3] rfl
    obtain rfl:=si h
    exact rq hQ fun a hF=>⟨rfl,(post_retD (rs:=[.tmp 6]) (ans:=[]) (vs:=[.bool ((tc_say.f sp0_0 sp0_1 sp0_2 sp0_3 sp0_4 sp0_5 sp0_6 6).1)]) (l:=[]) rfl (by kernel_rfl) trivial ⟨rfl,hS221⟩) a hF⟩
   rw [if_neg hc34] at h
   refine gk 86 (decide ((l1_4.length:Int) > 0)) false (decide_eq_false hc34)<|gb [27,28,29,30] [(90,.bool (x1_0 != 3)),(89,.bool (x1_0 != 3)),(88,vI x1_0),(87,pP b2 0)] [ld b2 0 (vI x1_0)] ⟨hS156.c 0,trivial⟩ ?_
   by_cases hc35:x1_0=3
   ·rw [if_pos hc35] at h
    refine gk 90 (x1_0 != 3) false (bne_eq_false_iff_eq.2 hc35)<|gb0 [31,32,33,34,35,36] [(96,.bool false),(95,.bool false),(94,undef),(93,undef),(92,undef),(91,undef)]<|gn hK13<|wf ?_
    have hS226:=((((hS156.b 4).b 4).b 4).b 4).b 4
    obtain rfl:=si h
    exact we_skip fun a hF=>hQ _ _ _ (Outs.again ⟨ft7,wf7,(Sub.refl _),hS226,hF.weaken ea⟩)
   rw [if_neg hc35] at h
   refine gk 90 (x1_0 != 3) true (bne_iff_ne.2 hc35)<|gb [31,32,33,34,35,36] [(96,.bool (decide ((l1_5.length:Int) > 0))),(95,.bool (decide ((l1_5.length:Int) > 0))),(94,.bool (decide ((l1_5.length:Int) > 0))),(93,vI (l1_5.length:Int)),(92,.slice A1_5 l1_5.length c1_5),(91,pP b2 13)] [ld b2 13 (.slice A1_5 l1_5.length c1_5)] ⟨hS156.c 0,trivial⟩<|gn hK13 ?_
   by_cases hc36:(l1_5.length:Int) > 0
   ·rw [if_pos hc36] at h
    refine wk 96 (decide ((l1_5.length:Int) > 0)) true (decide_eq_true hc36)<|wt<|ws fun K26 hK26=>wr [(0,0),(1,2),(2,0)]<|gb [0] [(97,pP bp0 0)] [ld b1 0 (pP bp0 0)] ⟨hS156.c 1,trivial⟩ ?_
    have hS229:=(hS156.b 2).packN 1
    refine ge_call2 (m:=0) (d:=some 98) (f:=89) (args:=#[pP bp0 0,vI 6]) (by kernel_rfl) (tc_say_ok bp0 sp0_0 sp0_1 sp0_2 sp0_3 sp0_4 sp0_5 sp0_6 6 _ _ _ hS229 _ rfl) ?_
    rintro _ w26 ⟨rfl,hS228⟩
    refine ⟨_,rfl,?_⟩
    have hS230:=hS228.unpack [bk bp0 #[vI sp0_0,vI ((tc_say.f sp0_0 sp0_1 sp0_2 sp0_3 sp0_4 sp0_5 sp0_6 6).2.1),vI ((tc_say.f sp0_0 sp0_1 sp0_2 sp0_3 sp0_4 sp0_5 sp0_6 6).2.2),.bool sp0_3,.bool sp0_4,.bool sp0_5,.bool sp0_6] 107]
    refine gb0 [2] [(6,.bool ((tc_say.f sp0_0 sp0_1 sp0_2 sp0_3 sp0_4 sp0_5 sp0_6 6).1))]<|gn hK26 ?_
    have hS233:=hS230.p [0,3] rfl
    obtain rfl:=si h
    exact rq hQ fun a hF=>⟨rfl,(post_retD (rs:=[.tmp 6]) (ans:=[]) (vs:=[.bool ((tc_say.f sp0_0 sp0_1 sp0_2 sp0_3 sp0_4 sp0_5 sp0_6 6).1)]) (l:=[]) rfl (by kernel_rfl) trivial ⟨rfl,hS233⟩) a hF⟩
   rw [if_neg hc36] at h
   refine wk 96 (decide ((l1_5.length:Int) > 0)) false (decide_eq_false hc36)<|wf ?_
   have hS238:=((((hS156.b 4).b 4).b 4).b 4).b 4
   obtain rfl:=si h
   exact we_skip fun a hF=>hQ _ _ _ (Outs.again ⟨ft7,wf7,(Sub.refl _),hS238,hF.weaken ea⟩)
  rw [if_neg hc30] at h
  refine gk 76 (!q2) true (congrArg (fun z=>!z) (Bool.eq_false_iff.2 hc30))<|gb0 [17,18,19,20,21,22,23,24,25,26,27,28,29,30,31,32,33,34,35,36] [(96,.bool true),(95,undef),(94,undef),(93,undef),(92,undef),(91,undef),(90,undef),(89,undef),(88,undef),(87,undef),(86,.bool true),(85,.bool true),(84,undef),(83,undef),(82,undef),(81,undef),(80,undef),(79,undef),(78,undef),(77,undef)]<|gn hK13<|wt<|ws fun K27 hK27=>wr [(0,0),(1,2),(2,0)]<|gb [0] [(97,pP bp0 0)] [ld b1 0 (pP bp0 0)] ⟨hS156.c 1,trivial⟩ ?_
  have hS241:=(hS156.b 2).packN 1
  refine ge_call2 (m:=0) (d:=some 98) (f:=89) (args:=#[pP bp0 0,vI 6]) (by kernel_rfl) (tc_say_ok bp0 sp0_0 sp0_1 sp0_2 sp0_3 sp0_4 sp0_5 sp0_6 6 _ _ _ hS241 _ rfl) ?_
  rintro _ w27 ⟨rfl,hS240⟩
  refine ⟨_,rfl,?_⟩
  have hS242:=hS240.unpack [bk bp0 #[vI sp0_0,vI ((tc_say.f sp0_0 sp0_1 sp0_2 sp0_3 sp0_4 sp0_5 sp0_6 6).2.1),vI ((tc_say.f sp0_0 sp0_1 sp0_2 sp0_3 sp0_4 sp0_5 sp0_6 6).2.2),.bool sp0_3,.bool sp0_4,.bool sp0_5,.bool sp0_6] 107]
  refine gb0 [2] [(6,.bool ((tc_say.f sp0_0 sp0_1 sp0_2 sp0_3 sp0_4 sp0_5 sp0_6 6).1))]<|gn hK27 ?_
  have hS245:=hS242.p [0,3] rfl
  obtain rfl:=si h
  exact rq hQ fun a hF=>⟨rfl,(post_retD (rs:=[.tmp 6]) (ans:=[]) (vs:=[.bool ((tc_say.f sp0_0 sp0_1 sp0_2 sp0_3 sp0_4 sp0_5 sp0_6 6).1)]) (l:=[]) rfl (by kernel_rfl) trivial ⟨rfl,hS245⟩) a hF⟩
 rw [if_neg hc22] at h
 refine gk 68 (!(tongue_none.f x1_2_0 x1_2_1 l1_2_2)) true (congrArg (fun z=>!z) (Bool.eq_false_iff.2 hc22))<|gb0 [9,10,11,12,13,14,15,16,17,18,19,20,21,22,23,24,25,26,27,28,29,30,31,32,33,34,35,36] [(96,.bool true),(95,undef),(94,undef),(93,undef),(92,undef),(91,undef),(90,undef),(89,undef),(88,undef),(87,undef),(86,.bool true),(85,.bool true),(84,undef),(83,undef),(82,undef),(81,undef),(80,undef),(79,undef),(78,undef),(77,undef),(76,.bool true),(75,.bool true),(74,undef),(73,undef),(72,undef),(71,undef),(70,undef),(69,undef)]<|gn hK13<|wt<|ws fun K28 hK28=>wr [(0,0),(1,2),(2,0)]<|gb [0] [(97,pP bp0 0)] [ld b1 0 (pP bp0 0)] ⟨hS156.c 1,trivial⟩ ?_
 have hS248:=(hS156.b 2).packN 1
 refine ge_call2 (m:=0) (d:=some 98) (f:=89) (args:=#[pP bp0 0,vI 6]) (by kernel_rfl) (tc_say_ok bp0 sp0_0 sp0_1 sp0_2 sp0_3 sp0_4 sp0_5 sp0_6 6 _ _ _ hS248 _ rfl) ?_
 rintro _ w28 ⟨rfl,hS247⟩
 refine ⟨_,rfl,?_⟩
 have hS249:=hS247.unpack [bk bp0 #[vI sp0_0,vI ((tc_say.f sp0_0 sp0_1 sp0_2 sp0_3 sp0_4 sp0_5 sp0_6 6).2.1),vI ((tc_say.f sp0_0 sp0_1 sp0_2 sp0_3 sp0_4 sp0_5 sp0_6 6).2.2),.bool sp0_3,.bool sp0_4,.bool sp0_5,.bool sp0_6] 107]
 refine gb0 [2] [(6,.bool ((tc_say.f sp0_0 sp0_1 sp0_2 sp0_3 sp0_4 sp0_5 sp0_6 6).1))]<|gn hK28 ?_
 have hS252:=hS249.p [0,3] rfl
 obtain rfl:=si h
 exact rq hQ fun a hF=>⟨rfl,(post_retD (rs:=[.tmp 6]) (ans:=[]) (vs:=[.bool ((tc_say.f sp0_0 sp0_1 sp0_2 sp0_3 sp0_4 sp0_5 sp0_6 6).1)]) (l:=[]) rfl (by kernel_rfl) trivial ⟨rfl,hS252⟩) a hF⟩
abbrev tc_stmt.A4 (w0:World) (bp0:Nat) (sp0_0:Int) (sp0_3 sp0_4 sp0_5 sp0_6:Bool) (x1_0 x1_1 x1_2_0 x1_2_1:Int) (l1_2_2:List SExpr) (A1_2_2:OA) (c1_2_2:Nat) (x1_3_0 x1_3_1_0 x1_3_1_1:Int) (l1_3_1_2:List SExpr) (A1_3_1_2:OA) (c1_3_1_2:Nat) (x1_3_2_0 x1_3_2_1:Int) (l1_3_2_2:List SExpr) (A1_3_2_2:OA) (c1_3_2_2:Nat) (l1_4:List SStmt) (A1_4:OA) (c1_4:Nat) (l1_5:List SStmt) (A1_5:OA) (c1_5:Nat) (x2:Int) (LT:List Own) (b1 b2:Nat) (wf9:World):(Int×Int)→Act→World→Prop:=fun (s:Int×Int) a w=>∃ (ft10:List Nat) (wf10:World),Sub wf9 wf10∧St w0 w [bk b2 #[vI x1_0,vI x1_1,vI x1_2_0,vI x1_2_1,.slice A1_2_2 l1_2_2.length c1_2_2,vI x1_3_0,vI x1_3_1_0,vI x1_3_1_1,.slice A1_3_1_2 l1_3_1_2.length c1_3_1_2,vI x1_3_2_0,vI x1_3_2_1,.slice A1_3_2_2 l1_3_2_2.length c1_3_2_2,.slice A1_4 l1_4.length c1_4,.slice A1_5 l1_5.length c1_5] 70,bk b1 #[pP bp0 0] 104,bk bp0 #[vI sp0_0,vI s.1,vI s.2,.bool sp0_3,.bool sp0_4,.bool sp0_5,.bool sp0_6] 107,Own.all LT,Own.frz ft10 wf10]∧Frm 171 a [(0,pP bp0 0),(2,vI x2),(3,pP b1 0),(4,pP b2 0),(8,.bool ((tongue_uses.f x1_0).2.1)),(9,.bool ((tongue_uses.f x1_0).2.2.1))]
abbrev tc_stmt.B4 (w0:World) (Z:Zone) (bp0:Nat) (sp0_0 sp0_1 sp0_2:Int) (sp0_3 sp0_4 sp0_5 sp0_6:Bool) (x1_0 x1_1 x1_2_0 x1_2_1:Int) (l1_2_2:List SExpr) (A1_2_2:OA) (c1_2_2:Nat) (x1_3_0 x1_3_1_0 x1_3_1_1:Int) (l1_3_1_2:List SExpr) (A1_3_1_2:OA) (c1_3_1_2:Nat) (x1_3_2_0 x1_3_2_1:Int) (l1_3_2_2:List SExpr) (A1_3_2_2:OA) (c1_3_2_2:Nat) (l1_4:List SStmt) (A1_4:OA) (c1_4:Nat) (l1_5:List SStmt) (A1_5:OA) (c1_5:Nat) (x2:Int) (LT:List Own):(Bool×Int×Int×Int×Bool×Bool×Bool×Bool)→Exit→Act→World→Prop:=RetsD Try.prog Try.f88 (tc_stmt.Post w0 Z bp0 sp0_0 sp0_1 sp0_2 sp0_3 sp0_4 sp0_5 sp0_6 x1_0 x1_1 x1_2_0 x1_2_1 l1_2_2 A1_2_2 c1_2_2 x1_3_0 x1_3_1_0 x1_3_1_1 l1_3_1_2 A1_3_1_2 c1_3_1_2 x1_3_2_0 x1_3_2_1 l1_3_2_2 A1_3_2_2 c1_3_2_2 l1_4 A1_4 c1_4 l1_5 A1_5 c1_5 x2 LT)
theorem tc_stmt_p4 (K:Nat) (w0:World) (Z:Zone) (bp0:Nat) (sp0_0 sp0_1 sp0_2:Int) (sp0_3 sp0_4 sp0_5 sp0_6:Bool) (x1_0 x1_1 x1_2_0 x1_2_1:Int) (l1_2_2:List SExpr) (A1_2_2:OA) (c1_2_2:Nat) (x1_3_0 x1_3_1_0 x1_3_1_1:Int) (l1_3_1_2:List SExpr) (A1_3_1_2:OA) (c1_3_1_2:Nat) (x1_3_2_0 x1_3_2_1:Int) (l1_3_2_2:List SExpr) (A1_3_2_2:OA) (c1_3_2_2:Nat) (l1_4:List SStmt) (A1_4:OA) (c1_4:Nat) (l1_5:List SStmt) (A1_5:OA) (c1_5:Nat) (x2:Int) (LT:List Own) (hZ:∀ w L,St w0 w (Own.all LT::L)→∀ w',Sub w w'→Z w') (hR1_2_2:RdZ Z A1_2_2 l1_2_2) (hL1_2_2:l1_2_2.length≤c1_2_2) (hR1_3_1_2:RdZ Z A1_3_1_2 l1_3_1_2) (hL1_3_1_2:l1_3_1_2.length≤c1_3_1_2) (hR1_3_2_2:RdZ Z A1_3_2_2 l1_3_2_2) (hL1_3_2_2:l1_3_2_2.length≤c1_3_2_2) (hR1_4:RdZ Z A1_4 l1_4) (hL1_4:l1_4.length≤c1_4) (hR1_5:RdZ Z A1_5 l1_5) (hL1_5:l1_5.length≤c1_5) (rec_tc_list:Int→Int→Int→Bool→Bool→Bool→Bool→(List SStmt)→Int→Option (Bool×Int×Int×Int×Bool×Bool×Bool×Bool)) (hr_tc_list:tc_list.Rec rec_tc_list) (ft1:List Nat) (wf1:World) (b1 b2:Nat) (ft3:List Nat) (wf3:World) (hRz1:Sub wf1 wf3) (ft5:List Nat) (wf5:World) (hRz2:Sub wf3 wf5) (ft7:List Nat) (wf7:World) (q2:Bool) (hRz3:Sub wf5 wf7) (ft9:List Nat) (wf9:World) (hRz4:Sub wf7 wf9) (o:(Int×Int) ⊕ (Bool×Int×Int×Int×Bool×Bool×Bool×Bool)) (h:tc_stmt.p4 K sp0_0 sp0_1 sp0_2 sp0_3 sp0_4 sp0_5 sp0_6 x1_0 x1_2_0 x1_2_1 l1_2_2=some o) (w:World) (hS:St w0 w [bk b2 #[vI x1_0,vI x1_1,vI x1_2_0,vI x1_2_1,.slice A1_2_2 l1_2_2.length c1_2_2,vI x1_3_0,vI x1_3_1_0,vI x1_3_1_1,.slice A1_3_1_2 l1_3_1_2.length c1_3_1_2,vI x1_3_2_0,vI x1_3_2_1,.slice A1_3_2_2 l1_3_2_2.length c1_3_2_2,.slice A1_4 l1_4.length c1_4,.slice A1_5 l1_5.length c1_5] 70,bk b1 #[pP bp0 0] 104,bk bp0 #[vI sp0_0,vI sp0_1,vI sp0_2,.bool sp0_3,.bool sp0_4,.bool sp0_5,.bool sp0_6] 107,Own.all LT,Own.frz ft9 wf9]) (Q:Exit→Act→World→Prop) (hQ:∀ x a w,Outs (tc_stmt.A4 w0 bp0 sp0_0 sp0_3 sp0_4 sp0_5 sp0_6 x1_0 x1_1 x1_2_0 x1_2_1 l1_2_2 A1_2_2 c1_2_2 x1_3_0 x1_3_1_0 x1_3_1_1 l1_3_1_2 A1_3_1_2 c1_3_1_2 x1_3_2_0 x1_3_2_1 l1_3_2_2 A1_3_2_2 c1_3_2_2 l1_4 A1_4 c1_4 l1_5 A1_5 c1_5 x2 LT b1 b2 wf9) (tc_stmt.B4 w0 Z bp0 sp0_0 sp0_1 sp0_2 sp0_3 sp0_4 sp0_5 sp0_6 x1_0 x1_1 x1_2_0 x1_2_1 l1_2_2 A1_2_2 c1_2_2 x1_3_0 x1_3_1_0 x1_3_1_1 l1_3_1_2 A1_3_1_2 c1_3_1_2 x1_3_2_0 x1_3_2_1 l1_3_2_2 A1_3_2_2 c1_3_2_2 l1_4 A1_4 c1_4 l1_5 A1_5 c1_5 x2 LT) o x a w→Q x a w):WE Try.prog 171 (subF Try.f88 [1,1,1,1,1,1,0]) Q [(0,pP bp0 0),(2,vI x2),(3,pP b1 0),(4,pP b2 0),(7,.bool ((tongue_uses.f x1_0).1)),(8,.bool ((tongue_uses.f x1_0).2.1)),(9,.bool ((tongue_uses.f x1_0).2.2.1))] w:=by
 simp only [tc_stmt.p4] at h
 refine ws fun K30 hK30=>wr [(0,0),(1,0),(2,0),(3,0),(4,0),(5,1),(6,2),(7,0),(8,0)]<|gb0 [0,1] [(100,.bool ((tongue_uses.f x1_0).1)),(99,.bool ((tongue_uses.f x1_0).1))] ?_
 by_cases hc37:((tongue_uses.f x1_0).1)=true
 ·rw [if_pos hc37] at h
  refine gk 100 ((tongue_uses.f x1_0).1) true hc37<|gb [2,3,4] [(103,.agg #[vI x1_2_0,vI x1_2_1,.slice A1_2_2 l1_2_2.length c1_2_2]),(102,pP b2 2),(101,pP bp0 0)] [ld b1 0 (pP bp0 0),ld b2 2 (vI x1_2_0),ld b2 3 (vI x1_2_1),ld b2 4 (.slice A1_2_2 l1_2_2.length c1_2_2)] ⟨hS.c 1,hS.c 0,hS.c 0,hS.c 0,trivial⟩<|gw (some 104) (.cells #[vI x1_2_0,vI x1_2_1,.slice A1_2_2 l1_2_2.length c1_2_2] 66) (fun b=>.slice (some ⟨b,0,none⟩) 1 1) hS fun b3 w30 hx3 hS254=>?_
  have hS255:=hS254.asRow (α:=HExpr) (c:=1) ([(⟨x1_2_0,x1_2_1,⟨A1_2_2,l1_2_2.length,c1_2_2⟩⟩:HExpr)]:List HExpr) (Nat.le_refl _) (by decide) rfl rfl
  have hd1:DRows (Zand Z wf9) ([(⟨x1_2_0,x1_2_1,⟨A1_2_2,l1_2_2.length,c1_2_2⟩⟩:HExpr)]:List HExpr) ([(⟨x1_2_0,x1_2_1,l1_2_2⟩:SExpr)]:List SExpr):=(DRows.add (DRows.nil _) (SExpr.mkZ (⟨x1_2_0,x1_2_1,l1_2_2⟩:SExpr) hL1_2_2 (hR1_2_2.up (ZLe.in _ _))))
  have hS257:=(hS255.b 5).b 1
  obtain ⟨ft11,wf11,hsb6,-,hRd1,hLd1,hS258⟩:=hS257.dfrz (Z:=Z) hd1
  refine ge_same (t:=104) (v:=.slice (some ⟨b3,0,none⟩) 1 1) (v':=.slice (some ⟨b3,0,none⟩) (([(⟨x1_2_0,x1_2_1,l1_2_2⟩:SExpr)]:List SExpr).length) 1) (by kernel_rfl) rfl ?_
  rcases hq28:tc_part.f K sp0_0 sp0_1 sp0_2 sp0_3 sp0_4 sp0_5 sp0_6 ([(⟨x1_2_0,x1_2_1,l1_2_2⟩:SExpr)]:List SExpr) with _ | r1
  ·rw [hq28] at h; cases h
  rw [hq28] at h
  simp only [] at h
  have hS261:=(hS258.b 3).packN 1
  refine ge_call2 (m:=0) (d:=some 105) (f:=92) (args:=#[pP bp0 0,.slice (some ⟨b3,0,none⟩) (([(⟨x1_2_0,x1_2_1,l1_2_2⟩:SExpr)]:List SExpr).length) 1]) (by kernel_rfl) (tc_part_ok K (Zand Z wf11) bp0 sp0_0 sp0_1 sp0_2 sp0_3 sp0_4 sp0_5 sp0_6 ([(⟨x1_2_0,x1_2_1,l1_2_2⟩:SExpr)]:List SExpr) (some ⟨b3,0,none⟩) 1 _ _ _ hS261 (fun w L h w' k=>⟨(hZ _ _ (h.spread.bring 3 rfl) w' k),(h.spread.frzSub 0 rfl).trans k⟩) hRd1 hLd1 _ hq28) ?_
  rintro _ w31 ⟨rfl,hS260⟩
  refine ⟨_,rfl,?_⟩
  have hS262:=hS260.unpack [bk bp0 #[vI sp0_0,vI r1.2.1,vI r1.2.2,.bool sp0_3,.bool sp0_4,.bool sp0_5,.bool sp0_6] 107]
  refine gb0 [7,8] [(107,.bool (!r1.1)),(106,.bool (!r1.1))]<|gn hK30 ?_
  by_cases hc38:r1.1=true
  ·rw [if_pos hc38] at h
   refine wk 107 (!r1.1) false (congrArg (fun z=>!z) hc38)<|wf ?_
   have hS267:=((((hS262.b 1).b 4).b 2).b 4).b 4
   obtain rfl:=si h
   exact we_skip fun a hF=>hQ _ _ _ (Outs.again ⟨ft11,wf11,hsb6,hS267,hF.weaken ea⟩)
  rw [if_neg hc38] at h
  refine wk 107 (!r1.1) true (congrArg (fun z=>!z) (Bool.eq_false_iff.2 hc38))<|wt<|ws fun K31 hK31=>wr [(0,0)]<|gb0 [0] [(6,.bool false)]<|gn hK31 ?_
  have hS270:=hS262.p [0,4] rfl
  obtain rfl:=si h
  exact rq hQ fun a hF=>⟨rfl,(post_retD (rs:=[.tmp 6]) (ans:=[]) (vs:=[.bool false]) (l:=[]) rfl (by kernel_rfl) trivial ⟨rfl,hS270⟩) a hF⟩
 rw [if_neg hc37] at h
 refine gk 100 ((tongue_uses.f x1_0).1) false (Bool.eq_false_iff.2 hc37)<|gb0 [2,3,4] [(103,undef),(102,undef),(101,undef)]<|ge_off rfl rfl rfl (by kernel_rfl) ?_
 refine ge_off rfl rfl rfl (by kernel_rfl) ?_
 refine gb0 [7,8] [(107,.bool false),(106,undef)]<|gn hK30<|wf ?_
 have hS275:=((((hS.b 4).b 4).b 4).b 4).b 4
 obtain rfl:=si h
 exact we_skip fun a hF=>hQ _ _ _ (Outs.again ⟨ft9,wf9,(Sub.refl _),hS275,hF.weaken ea⟩)
abbrev tc_stmt.A5 (w0:World) (bp0:Nat) (sp0_0:Int) (sp0_3 sp0_4 sp0_5 sp0_6:Bool) (x1_0 x1_1 x1_2_0 x1_2_1:Int) (l1_2_2:List SExpr) (A1_2_2:OA) (c1_2_2:Nat) (x1_3_0 x1_3_1_0 x1_3_1_1:Int) (l1_3_1_2:List SExpr) (A1_3_1_2:OA) (c1_3_1_2:Nat) (x1_3_2_0 x1_3_2_1:Int) (l1_3_2_2:List SExpr) (A1_3_2_2:OA) (c1_3_2_2:Nat) (l1_4:List SStmt) (A1_4:OA) (c1_4:Nat) (l1_5:List SStmt) (A1_5:OA) (c1_5:Nat) (x2:Int) (LT:List Own) (b1 b2:Nat) (wf12:World):(Int×Int)→Act→World→Prop:=fun (s:Int×Int) a w=>∃ (ft13:List Nat) (wf13:World),Sub wf12 wf13∧St w0 w [bk b2 #[vI x1_0,vI x1_1,vI x1_2_0,vI x1_2_1,.slice A1_2_2 l1_2_2.length c1_2_2,vI x1_3_0,vI x1_3_1_0,vI x1_3_1_1,.slice A1_3_1_2 l1_3_1_2.length c1_3_1_2,vI x1_3_2_0,vI x1_3_2_1,.slice A1_3_2_2 l1_3_2_2.length c1_3_2_2,.slice A1_4 l1_4.length c1_4,.slice A1_5 l1_5.length c1_5] 70,bk b1 #[pP bp0 0] 104,bk bp0 #[vI sp0_0,vI s.1,vI s.2,.bool sp0_3,.bool sp0_4,.bool sp0_5,.bool sp0_6] 107,Own.all LT,Own.frz ft13 wf13]∧Frm 171 a [(0,pP bp0 0),(2,vI x2),(3,pP b1 0),(4,pP b2 0),(9,.bool ((tongue_uses.f x1_0).2.2.1))]
abbrev tc_stmt.B5 (w0:World) (Z:Zone) (bp0:Nat) (sp0_0 sp0_1 sp0_2:Int) (sp0_3 sp0_4 sp0_5 sp0_6:Bool) (x1_0 x1_1 x1_2_0 x1_2_1:Int) (l1_2_2:List SExpr) (A1_2_2:OA) (c1_2_2:Nat) (x1_3_0 x1_3_1_0 x1_3_1_1:Int) (l1_3_1_2:List SExpr) (A1_3_1_2:OA) (c1_3_1_2:Nat) (x1_3_2_0 x1_3_2_1:Int) (l1_3_2_2:List SExpr) (A1_3_2_2:OA) (c1_3_2_2:Nat) (l1_4:List SStmt) (A1_4:OA) (c1_4:Nat) (l1_5:List SStmt) (A1_5:OA) (c1_5:Nat) (x2:Int) (LT:List Own):(Bool×Int×Int×Int×Bool×Bool×Bool×Bool)→Exit→Act→World→Prop:=RetsD Try.prog Try.f88 (tc_stmt.Post w0 Z bp0 sp0_0 sp0_1 sp0_2 sp0_3 sp0_4 sp0_5 sp0_6 x1_0 x1_1 x1_2_0 x1_2_1 l1_2_2 A1_2_2 c1_2_2 x1_3_0 x1_3_1_0 x1_3_1_1 l1_3_1_2 A1_3_1_2 c1_3_1_2 x1_3_2_0 x1_3_2_1 l1_3_2_2 A1_3_2_2 c1_3_2_2 l1_4 A1_4 c1_4 l1_5 A1_5 c1_5 x2 LT)
theorem tc_stmt_p5 (K:Nat) (w0:World) (Z:Zone) (bp0:Nat) (sp0_0 sp0_1 sp0_2:Int) (sp0_3 sp0_4 sp0_5 sp0_6:Bool) (x1_0 x1_1 x1_2_0 x1_2_1:Int) (l1_2_2:List SExpr) (A1_2_2:OA) (c1_2_2:Nat) (x1_3_0 x1_3_1_0 x1_3_1_1:Int) (l1_3_1_2:List SExpr) (A1_3_1_2:OA) (c1_3_1_2:Nat) (x1_3_2_0 x1_3_2_1:Int) (l1_3_2_2:List SExpr) (A1_3_2_2:OA) (c1_3_2_2:Nat) (l1_4:List SStmt) (A1_4:OA) (c1_4:Nat) (l1_5:List SStmt) (A1_5:OA) (c1_5:Nat) (x2:Int) (LT:List Own) (hZ:∀ w L,St w0 w (Own.all LT::L)→∀ w',Sub w w'→Z w') (hR1_2_2:RdZ Z A1_2_2 l1_2_2) (hL1_2_2:l1_2_2.length≤c1_2_2) (hR1_3_1_2:RdZ Z A1_3_1_2 l1_3_1_2) (hL1_3_1_2:l1_3_1_2.length≤c1_3_1_2) (hR1_3_2_2:RdZ Z A1_3_2_2 l1_3_2_2) (hL1_3_2_2:l1_3_2_2.length≤c1_3_2_2) (hR1_4:RdZ Z A1_4 l1_4) (hL1_4:l1_4.length≤c1_4) (hR1_5:RdZ Z A1_5 l1_5) (hL1_5:l1_5.length≤c1_5) (rec_tc_list:Int→Int→Int→Bool→Bool→Bool→Bool→(List SStmt)→Int→Option (Bool×Int×Int×Int×Bool×Bool×Bool×Bool)) (hr_tc_list:tc_list.Rec rec_tc_list) (ft1:List Nat) (wf1:World) (b1 b2:Nat) (ft3:List Nat) (wf3:World) (hRz1:Sub wf1 wf3) (ft5:List Nat) (wf5:World) (hRz2:Sub wf3 wf5) (ft7:List Nat) (wf7:World) (q2:Bool) (hRz3:Sub wf5 wf7) (ft9:List Nat) (wf9:World) (hRz4:Sub wf7 wf9) (ft12:List Nat) (wf12:World) (z3 z4:Int) (hRz5:Sub wf9 wf12) (o:(Int×Int) ⊕ (Bool×Int×Int×Int×Bool×Bool×Bool×Bool)) (h:tc_stmt.p5 K sp0_0 sp0_3 sp0_4 sp0_5 sp0_6 x1_0 x1_3_0 x1_3_1_0 x1_3_1_1 l1_3_1_2 x1_3_2_0 x1_3_2_1 l1_3_2_2 z3 z4=some o) (w:World) (hS:St w0 w [bk b2 #[vI x1_0,vI x1_1,vI x1_2_0,vI x1_2_1,.slice A1_2_2 l1_2_2.length c1_2_2,vI x1_3_0,vI x1_3_1_0,vI x1_3_1_1,.slice A1_3_1_2 l1_3_1_2.length c1_3_1_2,vI x1_3_2_0,vI x1_3_2_1,.slice A1_3_2_2 l1_3_2_2.length c1_3_2_2,.slice A1_4 l1_4.length c1_4,.slice A1_5 l1_5.length c1_5] 70,bk b1 #[pP bp0 0] 104,bk bp0 #[vI sp0_0,vI z3,vI z4,.bool sp0_3,.bool sp0_4,.bool sp0_5,.bool sp0_6] 107,Own.all LT,Own.frz ft12 wf12]) (Q:Exit→Act→World→Prop) (hQ:∀ x a w,Outs (tc_stmt.A5 w0 bp0 sp0_0 sp0_3 sp0_4 sp0_5 sp0_6 x1_0 x1_1 x1_2_0 x1_2_1 l1_2_2 A1_2_2 c1_2_2 x1_3_0 x1_3_1_0 x1_3_1_1 l1_3_1_2 A1_3_1_2 c1_3_1_2 x1_3_2_0 x1_3_2_1 l1_3_2_2 A1_3_2_2 c1_3_2_2 l1_4 A1_4 c1_4 l1_5 A1_5 c1_5 x2 LT b1 b2 wf12) (tc_stmt.B5 w0 Z bp0 sp0_0 sp0_1 sp0_2 sp0_3 sp0_4 sp0_5 sp0_6 x1_0 x1_1 x1_2_0 x1_2_1 l1_2_2 A1_2_2 c1_2_2 x1_3_0 x1_3_1_0 x1_3_1_1 l1_3_1_2 A1_3_1_2 c1_3_1_2 x1_3_2_0 x1_3_2_1 l1_3_2_2 A1_3_2_2 c1_3_2_2 l1_4 A1_4 c1_4 l1_5 A1_5 c1_5 x2 LT) o x a w→Q x a w):WE Try.prog 171 (subF Try.f88 [1,1,1,1,1,1,1,0]) Q [(0,pP bp0 0),(2,vI x2),(3,pP b1 0),(4,pP b2 0),(8,.bool ((tongue_uses.f x1_0).2.1)),(9,.bool ((tongue_uses.f x1_0).2.2.1))] w:=by
 simp only [tc_stmt.p5] at h
 refine ws fun K33 hK33=>wr [(0,0)]<|gb0 [0] [(108,.bool ((tongue_uses.f x1_0).2.1))]<|gn hK33 ?_
 by_cases hc39:((tongue_uses.f x1_0).2.1)=true
 ·rw [if_pos hc39] at h
  refine wk 108 ((tongue_uses.f x1_0).2.1) true hc39<|wt<|ws fun K34 hK34=>ws fun K35 hK35=>wr [(0,0),(1,0),(2,0),(3,0),(4,0),(5,0),(6,0),(7,0),(8,0),(9,0)]<|gb [0,1,2,3,4] [(113,.bool (decide (x1_3_0<1))),(112,.bool (decide (x1_3_0<1))),(111,vI x1_3_0),(110,pP b2 5),(109,pP b2 5)] [ld b2 5 (vI x1_3_0)] ⟨hS.c 0,trivial⟩ ?_
  by_cases hc40:x1_3_0<1
  ·rw [if_pos hc40] at h
   refine gk 113 (decide (x1_3_0<1)) true (decide_eq_true hc40)<|gb0 [5,6,7,8,9] [(118,.bool true),(117,undef),(116,undef),(115,undef),(114,undef)]<|gn hK35<|wt<|ws fun K36 hK36=>wr [(0,0),(1,2),(2,0)]<|gb [0] [(119,pP bp0 0)] [ld b1 0 (pP bp0 0)] ⟨hS.c 1,trivial⟩ ?_
   have hS279:=(hS.b 2).packN 1
   refine ge_call2 (m:=0) (d:=some 120) (f:=89) (args:=#[pP bp0 0,vI 6]) (by kernel_rfl) (tc_say_ok bp0 sp0_0 z3 z4 sp0_3 sp0_4 sp0_5 sp0_6 6 _ _ _ hS279 _ rfl) ?_
   rintro _ w33 ⟨rfl,hS278⟩
   refine ⟨_,rfl,?_⟩
   have hS280:=hS278.unpack [bk bp0 #[vI sp0_0,vI ((tc_say.f sp0_0 z3 z4 sp0_3 sp0_4 sp0_5 sp0_6 6).2.1),vI ((tc_say.f sp0_0 z3 z4 sp0_3 sp0_4 sp0_5 sp0_6 6).2.2),.bool sp0_3,.bool sp0_4,.bool sp0_5,.bool sp0_6] 107]
   refine gb0 [2] [(6,.bool ((tc_say.f sp0_0 z3 z4 sp0_3 sp0_4 sp0_5 sp0_6 6).1))]<|gn hK36 ?_
   have hS283:=hS280.p [0,3] rfl
   obtain rfl:=si h
   exact rq hQ fun a hF=>⟨rfl,(post_retD (rs:=[.tmp 6]) (ans:=[]) (vs:=[.bool ((tc_say.f sp0_0 z3 z4 sp0_3 sp0_4 sp0_5 sp0_6 6).1)]) (l:=[]) rfl (by kernel_rfl) trivial ⟨rfl,hS283⟩) a hF⟩
  rw [if_neg hc40] at h
  refine gk 113 (decide (x1_3_0<1)) false (decide_eq_false hc40)<|gb [5,6,7,8,9] [(118,.bool (decide (x1_3_0 > 4))),(117,.bool (decide (x1_3_0 > 4))),(116,vI x1_3_0),(115,pP b2 5),(114,pP b2 5)] [ld b2 5 (vI x1_3_0)] ⟨hS.c 0,trivial⟩<|gn hK35 ?_
  by_cases hc41:x1_3_0 > 4
  ·rw [if_pos hc41] at h
   refine wk 118 (decide (x1_3_0 > 4)) true (decide_eq_true hc41)<|wt<|ws fun K37 hK37=>wr [(0,0),(1,2),(2,0)]<|gb [0] [(119,pP bp0 0)] [ld b1 0 (pP bp0 0)] ⟨hS.c 1,trivial⟩ ?_
   have hS286:=(hS.b 2).packN 1
   refine ge_call2 (m:=0) (d:=some 120) (f:=89) (args:=#[pP bp0 0,vI 6]) (by kernel_rfl) (tc_say_ok bp0 sp0_0 z3 z4 sp0_3 sp0_4 sp0_5 sp0_6 6 _ _ _ hS286 _ rfl) ?_
   rintro _ w34 ⟨rfl,hS285⟩
   refine ⟨_,rfl,?_⟩
   have hS287:=hS285.unpack [bk bp0 #[vI sp0_0,vI ((tc_say.f sp0_0 z3 z4 sp0_3 sp0_4 sp0_5 sp0_6 6).2.1),vI ((tc_say.f sp0_0 z3 z4 sp0_3 sp0_4 sp0_5 sp0_6 6).2.2),.bool sp0_3,.bool sp0_4,.bool sp0_5,.bool sp0_6] 107]
   refine gb0 [2] [(6,.bool ((tc_say.f sp0_0 z3 z4 sp0_3 sp0_4 sp0_5 sp0_6 6).1))]<|gn hK37 ?_
   have hS290:=hS287.p [0,3] rfl
   obtain rfl:=si h
   exact rq hQ fun a hF=>⟨rfl,(post_retD (rs:=[.tmp 6]) (ans:=[]) (vs:=[.bool ((tc_say.f sp0_0 z3 z4 sp0_3 sp0_4 sp0_5 sp0_6 6).1)]) (l:=[]) rfl (by kernel_rfl) trivial ⟨rfl,hS290⟩) a hF⟩
  rw [if_neg hc41] at h
  refine wk 118 (decide (x1_3_0 > 4)) false (decide_eq_false hc41)<|wf<|we_skip fun a hF=>hK34 _ _ ?_ a hF
  refine ws fun K38 hK38=>wr [(0,0),(1,0),(2,0),(3,0),(4,0),(5,0),(6,0),(7,1),(8,2),(9,0)]<|gb [0,1,2,3,4,5,6] [(127,.agg #[vI x1_3_2_0,vI x1_3_2_1,.slice A1_3_2_2 l1_3_2_2.length c1_3_2_2]),(126,pP b2 9),(125,pP b2 5),(124,.agg #[vI x1_3_1_0,vI x1_3_1_1,.slice A1_3_1_2 l1_3_1_2.length c1_3_1_2]),(123,pP b2 6),(122,pP b2 5),(121,pP bp0 0)] [ld b1 0 (pP bp0 0),ld b2 6 (vI x1_3_1_0),ld b2 7 (vI x1_3_1_1),ld b2 8 (.slice A1_3_1_2 l1_3_1_2.length c1_3_1_2),ld b2 9 (vI x1_3_2_0),ld b2 10 (vI x1_3_2_1),ld b2 11 (.slice A1_3_2_2 l1_3_2_2.length c1_3_2_2)] ⟨hS.c 1,hS.c 0,hS.c 0,hS.c 0,hS.c 0,hS.c 0,hS.c 0,trivial⟩<|gw (some 128) (.cells #[vI x1_3_1_0,vI x1_3_1_1,.slice A1_3_1_2 l1_3_1_2.length c1_3_1_2,vI x1_3_2_0,vI x1_3_2_1,.slice A1_3_2_2 l1_3_2_2.length c1_3_2_2] 66) (fun b=>.slice (some ⟨b,0,none⟩) 2 2) hS fun b4 w35 hx4 hS291=>?_
  have hS292:=hS291.asRow (α:=HExpr) (c:=2) ([(⟨x1_3_1_0,x1_3_1_1,⟨A1_3_1_2,l1_3_1_2.length,c1_3_1_2⟩⟩:HExpr),(⟨x1_3_2_0,x1_3_2_1,⟨A1_3_2_2,l1_3_2_2.length,c1_3_2_2⟩⟩:HExpr)]:List HExpr) (Nat.le_refl _) (by decide) rfl rfl
  have hd2:DRows (Zand Z wf12) ([(⟨x1_3_1_0,x1_3_1_1,⟨A1_3_1_2,l1_3_1_2.length,c1_3_1_2⟩⟩:HExpr),(⟨x1_3_2_0,x1_3_2_1,⟨A1_3_2_2,l1_3_2_2.length,c1_3_2_2⟩⟩:HExpr)]:List HExpr) ([(⟨x1_3_1_0,x1_3_1_1,l1_3_1_2⟩:SExpr),(⟨x1_3_2_0,x1_3_2_1,l1_3_2_2⟩:SExpr)]:List SExpr):=(DRows.add (DRows.add (DRows.nil _) (SExpr.mkZ (⟨x1_3_1_0,x1_3_1_1,l1_3_1_2⟩:SExpr) hL1_3_1_2 (hR1_3_1_2.up (ZLe.in _ _)))) (SExpr.mkZ (⟨x1_3_2_0,x1_3_2_1,l1_3_2_2⟩:SExpr) hL1_3_2_2 (hR1_3_2_2.up (ZLe.in _ _))))
  have hS294:=(hS292.b 5).b 1
  obtain ⟨ft14,wf14,hsb8,-,hRd2,hLd2,hS295⟩:=hS294.dfrz (Z:=Z) hd2
  refine ge_same (t:=128) (v:=.slice (some ⟨b4,0,none⟩) 2 2) (v':=.slice (some ⟨b4,0,none⟩) (([(⟨x1_3_1_0,x1_3_1_1,l1_3_1_2⟩:SExpr),(⟨x1_3_2_0,x1_3_2_1,l1_3_2_2⟩:SExpr)]:List SExpr).length) 2) (by kernel_rfl) rfl ?_
  rcases hq32:tc_part.f K sp0_0 z3 z4 sp0_3 sp0_4 sp0_5 sp0_6 ([(⟨x1_3_1_0,x1_3_1_1,l1_3_1_2⟩:SExpr),(⟨x1_3_2_0,x1_3_2_1,l1_3_2_2⟩:SExpr)]:List SExpr) with _ | r2
  ·rw [hq32] at h; cases h
  rw [hq32] at h
  simp only [] at h
  have hS298:=(hS295.b 3).packN 1
  refine ge_call2 (m:=0) (d:=some 129) (f:=92) (args:=#[pP bp0 0,.slice (some ⟨b4,0,none⟩) (([(⟨x1_3_1_0,x1_3_1_1,l1_3_1_2⟩:SExpr),(⟨x1_3_2_0,x1_3_2_1,l1_3_2_2⟩:SExpr)]:List SExpr).length) 2]) (by kernel_rfl) (tc_part_ok K (Zand Z wf14) bp0 sp0_0 z3 z4 sp0_3 sp0_4 sp0_5 sp0_6 ([(⟨x1_3_1_0,x1_3_1_1,l1_3_1_2⟩:SExpr),(⟨x1_3_2_0,x1_3_2_1,l1_3_2_2⟩:SExpr)]:List SExpr) (some ⟨b4,0,none⟩) 2 _ _ _ hS298 (fun w L h w' k=>⟨(hZ _ _ (h.spread.bring 3 rfl) w' k),(h.spread.frzSub 0 rfl).trans k⟩) hRd2 hLd2 _ hq32) ?_
  rintro _ w36 ⟨rfl,hS297⟩
  refine ⟨_,rfl,?_⟩
  have hS299:=hS297.unpack [bk bp0 #[vI sp0_0,vI r2.2.1,vI r2.2.2,.bool sp0_3,.bool sp0_4,.bool sp0_5,.bool sp0_6] 107]
  refine gb0 [9] [(130,.bool (!r2.1))]<|gn hK38 ?_
  by_cases hc42:r2.1=true
  ·rw [if_pos hc42] at h
   refine wk 130 (!r2.1) false (congrArg (fun z=>!z) hc42)<|wf ?_
   have hS304:=((((hS299.b 1).b 4).b 2).b 4).b 4
   obtain rfl:=si h
   exact we_skip fun a hF=>hQ _ _ _ (Outs.again ⟨ft14,wf14,hsb8,hS304,hF.weaken ea⟩)
  rw [if_neg hc42] at h
  refine wk 130 (!r2.1) true (congrArg (fun z=>!z) (Bool.eq_false_iff.2 hc42))<|wt<|ws fun K39 hK39=>wr [(0,0)]<|gb0 [0] [(6,.bool false)]<|gn hK39 ?_
  have hS307:=hS299.p [0,4] rfl
  obtain rfl:=si h
  exact rq hQ fun a hF=>⟨rfl,(post_retD (rs:=[.tmp 6]) (ans:=[]) (vs:=[.bool false]) (l:=[]) rfl (by kernel_rfl) trivial ⟨rfl,hS307⟩) a hF⟩
 rw [if_neg hc39] at h
 refine wk 108 ((tongue_uses.f x1_0).2.1) false (Bool.eq_false_iff.2 hc39)<|wf ?_
 have hS312:=((((hS.b 4).b 4).b 4).b 4).b 4
 obtain rfl:=si h
 exact we_skip fun a hF=>hQ _ _ _ (Outs.again ⟨ft12,wf12,(Sub.refl _),hS312,hF.weaken ea⟩)
abbrev tc_stmt.A6 (w0:World) (bp0:Nat) (sp0_0 x1_0 x1_1 x1_2_0 x1_2_1:Int) (l1_2_2:List SExpr) (A1_2_2:OA) (c1_2_2:Nat) (x1_3_0 x1_3_1_0 x1_3_1_1:Int) (l1_3_1_2:List SExpr) (A1_3_1_2:OA) (c1_3_1_2:Nat) (x1_3_2_0 x1_3_2_1:Int) (l1_3_2_2:List SExpr) (A1_3_2_2:OA) (c1_3_2_2:Nat) (l1_4:List SStmt) (A1_4:OA) (c1_4:Nat) (l1_5:List SStmt) (A1_5:OA) (c1_5:Nat) (x2:Int) (LT:List Own) (b1 b2:Nat) (wf15:World) (z7 z8:Int):(Bool×Bool×Bool×Bool)→Act→World→Prop:=fun (s:Bool×Bool×Bool×Bool) a w=>∃ (ft16:List Nat) (wf16:World),Sub wf15 wf16∧St w0 w [bk b2 #[vI x1_0,vI x1_1,vI x1_2_0,vI x1_2_1,.slice A1_2_2 l1_2_2.length c1_2_2,vI x1_3_0,vI x1_3_1_0,vI x1_3_1_1,.slice A1_3_1_2 l1_3_1_2.length c1_3_1_2,vI x1_3_2_0,vI x1_3_2_1,.slice A1_3_2_2 l1_3_2_2.length c1_3_2_2,.slice A1_4 l1_4.length c1_4,.slice A1_5 l1_5.length c1_5] 70,bk b1 #[pP bp0 0] 104,bk bp0 #[vI sp0_0,vI z7,vI z8,.bool s.1,.bool s.2.1,.bool s.2.2.1,.bool s.2.2.2] 107,Own.all LT,Own.frz ft16 wf16]∧Frm 171 a [(0,pP bp0 0),(2,vI x2),(3,pP b1 0),(4,pP b2 0)]
abbrev tc_stmt.B6 (w0:World) (Z:Zone) (bp0:Nat) (sp0_0 sp0_1 sp0_2:Int) (sp0_3 sp0_4 sp0_5 sp0_6:Bool) (x1_0 x1_1 x1_2_0 x1_2_1:Int) (l1_2_2:List SExpr) (A1_2_2:OA) (c1_2_2:Nat) (x1_3_0 x1_3_1_0 x1_3_1_1:Int) (l1_3_1_2:List SExpr) (A1_3_1_2:OA) (c1_3_1_2:Nat) (x1_3_2_0 x1_3_2_1:Int) (l1_3_2_2:List SExpr) (A1_3_2_2:OA) (c1_3_2_2:Nat) (l1_4:List SStmt) (A1_4:OA) (c1_4:Nat) (l1_5:List SStmt) (A1_5:OA) (c1_5:Nat) (x2:Int) (LT:List Own):(Bool×Int×Int×Int×Bool×Bool×Bool×Bool)→Exit→Act→World→Prop:=RetsD Try.prog Try.f88 (tc_stmt.Post w0 Z bp0 sp0_0 sp0_1 sp0_2 sp0_3 sp0_4 sp0_5 sp0_6 x1_0 x1_1 x1_2_0 x1_2_1 l1_2_2 A1_2_2 c1_2_2 x1_3_0 x1_3_1_0 x1_3_1_1 l1_3_1_2 A1_3_1_2 c1_3_1_2 x1_3_2_0 x1_3_2_1 l1_3_2_2 A1_3_2_2 c1_3_2_2 l1_4 A1_4 c1_4 l1_5 A1_5 c1_5 x2 LT)
theorem tc_stmt_p6 (K:Nat) (w0:World) (Z:Zone) (bp0:Nat) (sp0_0 sp0_1 sp0_2:Int) (sp0_3 sp0_4 sp0_5 sp0_6:Bool) (x1_0 x1_1 x1_2_0 x1_2_1:Int) (l1_2_2:List SExpr) (A1_2_2:OA) (c1_2_2:Nat) (x1_3_0 x1_3_1_0 x1_3_1_1:Int) (l1_3_1_2:List SExpr) (A1_3_1_2:OA) (c1_3_1_2:Nat) (x1_3_2_0 x1_3_2_1:Int) (l1_3_2_2:List SExpr) (A1_3_2_2:OA) (c1_3_2_2:Nat) (l1_4:List SStmt) (A1_4:OA) (c1_4:Nat) (l1_5:List SStmt) (A1_5:OA) (c1_5:Nat) (x2:Int) (LT:List Own) (hZ:∀ w L,St w0 w (Own.all LT::L)→∀ w',Sub w w'→Z w') (hR1_2_2:RdZ Z A1_2_2 l1_2_2) (hL1_2_2:l1_2_2.length≤c1_2_2) (hR1_3_1_2:RdZ Z A1_3_1_2 l1_3_1_2) (hL1_3_1_2:l1_3_1_2.length≤c1_3_1_2) (hR1_3_2_2:RdZ Z A1_3_2_2 l1_3_2_2) (hL1_3_2_2:l1_3_2_2.length≤c1_3_2_2) (hR1_4:RdZ Z A1_4 l1_4) (hL1_4:l1_4.length≤c1_4) (hR1_5:RdZ Z A1_5 l1_5) (hL1_5:l1_5.length≤c1_5) (rec_tc_list:Int→Int→Int→Bool→Bool→Bool→Bool→(List SStmt)→Int→Option (Bool×Int×Int×Int×Bool×Bool×Bool×Bool)) (hr_tc_list:tc_list.Rec rec_tc_list) (ft1:List Nat) (wf1:World) (b1 b2:Nat) (ft3:List Nat) (wf3:World) (hRz1:Sub wf1 wf3) (ft5:List Nat) (wf5:World) (hRz2:Sub wf3 wf5) (ft7:List Nat) (wf7:World) (q2:Bool) (hRz3:Sub wf5 wf7) (ft9:List Nat) (wf9:World) (hRz4:Sub wf7 wf9) (ft12:List Nat) (wf12:World) (z3 z4:Int) (hRz5:Sub wf9 wf12) (ft15:List Nat) (wf15:World) (z7 z8:Int) (hRz6:Sub wf12 wf15) (hc43:((tongue_uses.f x1_0).2.2.1)=true) (hc44:¬ (x2=6)) (hc45:x1_0=6) (hc46:0≤x1_1) (e1:Bool) (hx5:([sp0_3,sp0_4,sp0_5,sp0_6]:List Bool)[(x1_1).toNat]?=some e1) (hc47:¬ (e1=true)) (o:(Bool×Bool×Bool×Bool) ⊕ (Bool×Int×Int×Int×Bool×Bool×Bool×Bool)) (h:tc_stmt.p6 sp0_3 sp0_4 sp0_5 sp0_6 x1_1=some o) (w:World) (hS:St w0 w [bk b2 #[vI x1_0,vI x1_1,vI x1_2_0,vI x1_2_1,.slice A1_2_2 l1_2_2.length c1_2_2,vI x1_3_0,vI x1_3_1_0,vI x1_3_1_1,.slice A1_3_1_2 l1_3_1_2.length c1_3_1_2,vI x1_3_2_0,vI x1_3_2_1,.slice A1_3_2_2 l1_3_2_2.length c1_3_2_2,.slice A1_4 l1_4.length c1_4,.slice A1_5 l1_5.length c1_5] 70,bk b1 #[pP bp0 0] 104,bk bp0 #[vI sp0_0,vI z7,vI z8,.bool sp0_3,.bool sp0_4,.bool sp0_5,.bool sp0_6] 107,Own.all LT,Own.frz ft15 wf15]) (Q:Exit→Act→World→Prop) (hQ:∀ x a w,Outs (tc_stmt.A6 w0 bp0 sp0_0 x1_0 x1_1 x1_2_0 x1_2_1 l1_2_2 A1_2_2 c1_2_2 x1_3_0 x1_3_1_0 x1_3_1_1 l1_3_1_2 A1_3_1_2 c1_3_1_2 x1_3_2_0 x1_3_2_1 l1_3_2_2 A1_3_2_2 c1_3_2_2 l1_4 A1_4 c1_4 l1_5 A1_5 c1_5 x2 LT b1 b2 wf15 z7 z8) (tc_stmt.B6 w0 Z bp0 sp0_0 sp0_1 sp0_2 sp0_3 sp0_4 sp0_5 sp0_6 x1_0 x1_1 x1_2_0 x1_2_1 l1_2_2 A1_2_2 c1_2_2 x1_3_0 x1_3_1_0 x1_3_1_1 l1_3_1_2 A1_3_1_2 c1_3_1_2 x1_3_2_0 x1_3_2_1 l1_3_2_2 A1_3_2_2 c1_3_2_2 l1_4 A1_4 c1_4 l1_5 A1_5 c1_5 x2 LT) o x a w→Q x a w):WE Try.prog 171 (subF Try.f88 [1,1,1,1,1,1,1,1,1,0,1,0,1,0]) Q [(0,pP bp0 0),(2,vI x2),(3,pP b1 0),(4,pP b2 0),(9,.bool ((tongue_uses.f x1_0).2.2.1)),(131,.bool ((tongue_uses.f x1_0).2.2.1)),(132,.bool true),(133,vI x2),(134,.bool (x2==6)),(135,.bool false),(138,pP b2 0),(139,vI x1_0),(140,.bool true),(141,pP bp0 0),(142,pP b2 1),(143,vI x1_1),(144,pP bp0 0),(145,pP bp0 3),(146,.pointer (some ⟨bp0,3+((x1_1).toNat)*1,none⟩)),(147,.bool false)] w:=by
 simp only [tc_stmt.p6] at h
 refine we_orders3 (by kernel_rfl) [(0,[⟨b1,0,none⟩],[],[]),(2,[⟨b2,1,none⟩],[],[])] (.vals [0] (.vals [1] (.vals [2] (.vals [3] (.vals [4] (.vals [5] (.alt 6 2 .fin .nomore))))))) (by kernel_rfl) (by kernel_rfl) ?_
 have hS329:=hS.drew
 refine g3 0 [(150,pP bp0 0)] [ld b1 0 (pP bp0 0)] ⟨hS329.c 1,trivial⟩<|g30 [1] [(151,pP b2 1)]<|g3 2 [(152,vI x1_1)] [ld b2 1 (vI x1_1)] ⟨hS329.c 0,trivial⟩<|g30 [3,4] [(154,pP bp0 3),(153,pP bp0 0)]<|go3_arrAddr (d:=155) (ty:=0) (t:=105) (len:=4) (el:=4) (b:=bp0) (o0:=3) (sz:=1) (x:=(.tmp 154)) (y:=(.tmp 152)) (k':=.i64) (j:=x1_1) (jn:=((x1_1).toNat)) (by kernel_rfl) (by kernel_rfl) (by kernel_rfl) (by kernel_rfl) (by kernel_rfl) (Int.toNat_of_nonneg hc46).symm (lt_of_get hx5) ?_
 refine go_alt3 (fun KK hKK=>?_) ?_
 ·have hS330:=hS329.b 2
  refine ge_setB (b:=bp0) (off:=3) (jn:=((x1_1).toNat)) (nn:=4) (t:=107) (pre:=[vI sp0_0,vI z7,vI z8]) (post:=[]) (l:=([sp0_3,sp0_4,sp0_5,sp0_6]:List Bool)) (u:=e1) (v:=true) (cs:=#[vI sp0_0,vI z7,vI z8,.bool sp0_3,.bool sp0_4,.bool sp0_5,.bool sp0_6]) hS330 (by kernel_rfl) rfl rfl rfl hx5 fun w40 hS331=>?_
  have hS332:=hS331.nc #[vI sp0_0,vI z7,vI z8,.bool (((([sp0_3,sp0_4,sp0_5,sp0_6]:List Bool).set ((x1_1).toNat) true)[0]?).getD false),.bool (((([sp0_3,sp0_4,sp0_5,sp0_6]:List Bool).set ((x1_1).toNat) true)[1]?).getD false),.bool (((([sp0_3,sp0_4,sp0_5,sp0_6]:List Bool).set ((x1_1).toNat) true)[2]?).getD false),.bool (((([sp0_3,sp0_4,sp0_5,sp0_6]:List Bool).set ((x1_1).toNat) true)[3]?).getD false)] (by kernel_rfl)
  refine g2 hKK ?_
  have hS337:=((((hS332.b 4).b 4).b 2).b 4).b 4
  obtain rfl:=si h
  exact go_fin3 fun a hF=>hQ _ _ _ (Outs.again ⟨ft15,wf15,(Sub.refl _),hS337,hF.weaken ea⟩)
 exact go_nomore3
abbrev tc_stmt.A7 (w0:World) (bp0:Nat) (sp0_0 x1_0 x1_1 x1_2_0 x1_2_1:Int) (l1_2_2:List SExpr) (A1_2_2:OA) (c1_2_2:Nat) (x1_3_0 x1_3_1_0 x1_3_1_1:Int) (l1_3_1_2:List SExpr) (A1_3_1_2:OA) (c1_3_1_2:Nat) (x1_3_2_0 x1_3_2_1:Int) (l1_3_2_2:List SExpr) (A1_3_2_2:OA) (c1_3_2_2:Nat) (l1_4:List SStmt) (A1_4:OA) (c1_4:Nat) (l1_5:List SStmt) (A1_5:OA) (c1_5:Nat) (x2:Int) (LT:List Own) (b1 b2:Nat) (wf15:World) (z7 z8:Int):(Bool×Bool×Bool×Bool)→Act→World→Prop:=fun (s:Bool×Bool×Bool×Bool) a w=>∃ (ft18:List Nat) (wf18:World),Sub wf15 wf18∧St w0 w [bk b2 #[vI x1_0,vI x1_1,vI x1_2_0,vI x1_2_1,.slice A1_2_2 l1_2_2.length c1_2_2,vI x1_3_0,vI x1_3_1_0,vI x1_3_1_1,.slice A1_3_1_2 l1_3_1_2.length c1_3_1_2,vI x1_3_2_0,vI x1_3_2_1,.slice A1_3_2_2 l1_3_2_2.length c1_3_2_2,.slice A1_4 l1_4.length c1_4,.slice A1_5 l1_5.length c1_5] 70,bk b1 #[pP bp0 0] 104,bk bp0 #[vI sp0_0,vI z7,vI z8,.bool s.1,.bool s.2.1,.bool s.2.2.1,.bool s.2.2.2] 107,Own.all LT,Own.frz ft18 wf18]∧Frm 171 a [(0,pP bp0 0),(2,vI x2),(3,pP b1 0),(4,pP b2 0)]
abbrev tc_stmt.B7 (w0:World) (Z:Zone) (bp0:Nat) (sp0_0 sp0_1 sp0_2:Int) (sp0_3 sp0_4 sp0_5 sp0_6:Bool) (x1_0 x1_1 x1_2_0 x1_2_1:Int) (l1_2_2:List SExpr) (A1_2_2:OA) (c1_2_2:Nat) (x1_3_0 x1_3_1_0 x1_3_1_1:Int) (l1_3_1_2:List SExpr) (A1_3_1_2:OA) (c1_3_1_2:Nat) (x1_3_2_0 x1_3_2_1:Int) (l1_3_2_2:List SExpr) (A1_3_2_2:OA) (c1_3_2_2:Nat) (l1_4:List SStmt) (A1_4:OA) (c1_4:Nat) (l1_5:List SStmt) (A1_5:OA) (c1_5:Nat) (x2:Int) (LT:List Own):(Bool×Int×Int×Int×Bool×Bool×Bool×Bool)→Exit→Act→World→Prop:=RetsD Try.prog Try.f88 (tc_stmt.Post w0 Z bp0 sp0_0 sp0_1 sp0_2 sp0_3 sp0_4 sp0_5 sp0_6 x1_0 x1_1 x1_2_0 x1_2_1 l1_2_2 A1_2_2 c1_2_2 x1_3_0 x1_3_1_0 x1_3_1_1 l1_3_1_2 A1_3_1_2 c1_3_1_2 x1_3_2_0 x1_3_2_1 l1_3_2_2 A1_3_2_2 c1_3_2_2 l1_4 A1_4 c1_4 l1_5 A1_5 c1_5 x2 LT)
theorem tc_stmt_p7 (K:Nat) (w0:World) (Z:Zone) (bp0:Nat) (sp0_0 sp0_1 sp0_2:Int) (sp0_3 sp0_4 sp0_5 sp0_6:Bool) (x1_0 x1_1 x1_2_0 x1_2_1:Int) (l1_2_2:List SExpr) (A1_2_2:OA) (c1_2_2:Nat) (x1_3_0 x1_3_1_0 x1_3_1_1:Int) (l1_3_1_2:List SExpr) (A1_3_1_2:OA) (c1_3_1_2:Nat) (x1_3_2_0 x1_3_2_1:Int) (l1_3_2_2:List SExpr) (A1_3_2_2:OA) (c1_3_2_2:Nat) (l1_4:List SStmt) (A1_4:OA) (c1_4:Nat) (l1_5:List SStmt) (A1_5:OA) (c1_5:Nat) (x2:Int) (LT:List Own) (hZ:∀ w L,St w0 w (Own.all LT::L)→∀ w',Sub w w'→Z w') (hR1_2_2:RdZ Z A1_2_2 l1_2_2) (hL1_2_2:l1_2_2.length≤c1_2_2) (hR1_3_1_2:RdZ Z A1_3_1_2 l1_3_1_2) (hL1_3_1_2:l1_3_1_2.length≤c1_3_1_2) (hR1_3_2_2:RdZ Z A1_3_2_2 l1_3_2_2) (hL1_3_2_2:l1_3_2_2.length≤c1_3_2_2) (hR1_4:RdZ Z A1_4 l1_4) (hL1_4:l1_4.length≤c1_4) (hR1_5:RdZ Z A1_5 l1_5) (hL1_5:l1_5.length≤c1_5) (rec_tc_list:Int→Int→Int→Bool→Bool→Bool→Bool→(List SStmt)→Int→Option (Bool×Int×Int×Int×Bool×Bool×Bool×Bool)) (hr_tc_list:tc_list.Rec rec_tc_list) (ft1:List Nat) (wf1:World) (b1 b2:Nat) (ft3:List Nat) (wf3:World) (hRz1:Sub wf1 wf3) (ft5:List Nat) (wf5:World) (hRz2:Sub wf3 wf5) (ft7:List Nat) (wf7:World) (q2:Bool) (hRz3:Sub wf5 wf7) (ft9:List Nat) (wf9:World) (hRz4:Sub wf7 wf9) (ft12:List Nat) (wf12:World) (z3 z4:Int) (hRz5:Sub wf9 wf12) (ft15:List Nat) (wf15:World) (z7 z8:Int) (hRz6:Sub wf12 wf15) (hc43:¬ (((tongue_uses.f x1_0).2.2.1)=true)) (hc50:x1_0=6) (hc51:0≤x1_1) (e2:Bool) (hx6:([sp0_3,sp0_4,sp0_5,sp0_6]:List Bool)[(x1_1).toNat]?=some e2) (hc52:¬ (e2=true)) (o:(Bool×Bool×Bool×Bool) ⊕ (Bool×Int×Int×Int×Bool×Bool×Bool×Bool)) (h:tc_stmt.p7 sp0_3 sp0_4 sp0_5 sp0_6 x1_1=some o) (w:World) (hS:St w0 w [bk b2 #[vI x1_0,vI x1_1,vI x1_2_0,vI x1_2_1,.slice A1_2_2 l1_2_2.length c1_2_2,vI x1_3_0,vI x1_3_1_0,vI x1_3_1_1,.slice A1_3_1_2 l1_3_1_2.length c1_3_1_2,vI x1_3_2_0,vI x1_3_2_1,.slice A1_3_2_2 l1_3_2_2.length c1_3_2_2,.slice A1_4 l1_4.length c1_4,.slice A1_5 l1_5.length c1_5] 70,bk b1 #[pP bp0 0] 104,bk bp0 #[vI sp0_0,vI z7,vI z8,.bool sp0_3,.bool sp0_4,.bool sp0_5,.bool sp0_6] 107,Own.all LT,Own.frz ft15 wf15]) (Q:Exit→Act→World→Prop) (hQ:∀ x a w,Outs (tc_stmt.A7 w0 bp0 sp0_0 x1_0 x1_1 x1_2_0 x1_2_1 l1_2_2 A1_2_2 c1_2_2 x1_3_0 x1_3_1_0 x1_3_1_1 l1_3_1_2 A1_3_1_2 c1_3_1_2 x1_3_2_0 x1_3_2_1 l1_3_2_2 A1_3_2_2 c1_3_2_2 l1_4 A1_4 c1_4 l1_5 A1_5 c1_5 x2 LT b1 b2 wf15 z7 z8) (tc_stmt.B7 w0 Z bp0 sp0_0 sp0_1 sp0_2 sp0_3 sp0_4 sp0_5 sp0_6 x1_0 x1_1 x1_2_0 x1_2_1 l1_2_2 A1_2_2 c1_2_2 x1_3_0 x1_3_1_0 x1_3_1_1 l1_3_1_2 A1_3_1_2 c1_3_1_2 x1_3_2_0 x1_3_2_1 l1_3_2_2 A1_3_2_2 c1_3_2_2 l1_4 A1_4 c1_4 l1_5 A1_5 c1_5 x2 LT) o x a w→Q x a w):WE Try.prog 171 (subF Try.f88 [1,1,1,1,1,1,1,1,1,0,1,0,1,0]) Q [(0,pP bp0 0),(2,vI x2),(3,pP b1 0),(4,pP b2 0),(9,.bool ((tongue_uses.f x1_0).2.2.1)),(131,.bool ((tongue_uses.f x1_0).2.2.1)),(132,.bool false),(133,undef),(134,undef),(135,.bool false),(138,pP b2 0),(139,vI x1_0),(140,.bool true),(141,pP bp0 0),(142,pP b2 1),(143,vI x1_1),(144,pP bp0 0),(145,pP bp0 3),(146,.pointer (some ⟨bp0,3+((x1_1).toNat)*1,none⟩)),(147,.bool false)] w:=by
 simp only [tc_stmt.p7] at h
 refine we_orders3 (by kernel_rfl) [(0,[⟨b1,0,none⟩],[],[]),(2,[⟨b2,1,none⟩],[],[])] (.vals [0] (.vals [1] (.vals [2] (.vals [3] (.vals [4] (.vals [5] (.alt 6 2 .fin .nomore))))))) (by kernel_rfl) (by kernel_rfl) ?_
 have hS385:=hS.drew
 refine g3 0 [(150,pP bp0 0)] [ld b1 0 (pP bp0 0)] ⟨hS385.c 1,trivial⟩<|g30 [1] [(151,pP b2 1)]<|g3 2 [(152,vI x1_1)] [ld b2 1 (vI x1_1)] ⟨hS385.c 0,trivial⟩<|g30 [3,4] [(154,pP bp0 3),(153,pP bp0 0)]<|go3_arrAddr (d:=155) (ty:=0) (t:=105) (len:=4) (el:=4) (b:=bp0) (o0:=3) (sz:=1) (x:=(.tmp 154)) (y:=(.tmp 152)) (k':=.i64) (j:=x1_1) (jn:=((x1_1).toNat)) (by kernel_rfl) (by kernel_rfl) (by kernel_rfl) (by kernel_rfl) (by kernel_rfl) (Int.toNat_of_nonneg hc51).symm (lt_of_get hx6) ?_
 refine go_alt3 (fun KK hKK=>?_) ?_
 ·have hS386:=hS385.b 2
  refine ge_setB (b:=bp0) (off:=3) (jn:=((x1_1).toNat)) (nn:=4) (t:=107) (pre:=[vI sp0_0,vI z7,vI z8]) (post:=[]) (l:=([sp0_3,sp0_4,sp0_5,sp0_6]:List Bool)) (u:=e2) (v:=true) (cs:=#[vI sp0_0,vI z7,vI z8,.bool sp0_3,.bool sp0_4,.bool sp0_5,.bool sp0_6]) hS386 (by kernel_rfl) rfl rfl rfl hx6 fun w49 hS387=>?_
  have hS388:=hS387.nc #[vI sp0_0,vI z7,vI z8,.bool (((([sp0_3,sp0_4,sp0_5,sp0_6]:List Bool).set ((x1_1).toNat) true)[0]?).getD false),.bool (((([sp0_3,sp0_4,sp0_5,sp0_6]:List Bool).set ((x1_1).toNat) true)[1]?).getD false),.bool (((([sp0_3,sp0_4,sp0_5,sp0_6]:List Bool).set ((x1_1).toNat) true)[2]?).getD false),.bool (((([sp0_3,sp0_4,sp0_5,sp0_6]:List Bool).set ((x1_1).toNat) true)[3]?).getD false)] (by kernel_rfl)
  refine g2 hKK ?_
  have hS393:=((((hS388.b 4).b 4).b 2).b 4).b 4
  obtain rfl:=si h
  exact go_fin3 fun a hF=>hQ _ _ _ (Outs.again ⟨ft15,wf15,(Sub.refl _),hS393,hF.weaken ea⟩)
 exact go_nomore3
theorem tc_stmt_step (K:Nat) (rec_tc_list:Int→Int→Int→Bool→Bool→Bool→Bool→(List SStmt)→Int→Option (Bool×Int×Int×Int×Bool×Bool×Bool×Bool)) (hr_tc_list:tc_list.Rec rec_tc_list) (Z:Zone) (bp0:Nat) (sp0_0 sp0_1 sp0_2:Int) (sp0_3 sp0_4 sp0_5 sp0_6:Bool) (x1_0 x1_1 x1_2_0 x1_2_1:Int) (l1_2_2:List SExpr) (A1_2_2:OA) (c1_2_2:Nat) (x1_3_0 x1_3_1_0 x1_3_1_1:Int) (l1_3_1_2:List SExpr) (A1_3_1_2:OA) (c1_3_1_2:Nat) (x1_3_2_0 x1_3_2_1:Int) (l1_3_2_2:List SExpr) (A1_3_2_2:OA) (c1_3_2_2:Nat) (l1_4:List SStmt) (A1_4:OA) (c1_4:Nat) (l1_5:List SStmt) (A1_5:OA) (c1_5:Nat) (x2:Int) (w0 wE:World) (LT:List Own) (hS:St w0 wE [bk bp0 #[vI sp0_0,vI sp0_1,vI sp0_2,.bool sp0_3,.bool sp0_4,.bool sp0_5,.bool sp0_6] 107,Own.all LT]) (hZ:∀ w L,St w0 w (Own.all LT::L)→∀ w',Sub w w'→Z w') (hR1_2_2:RdZ Z A1_2_2 l1_2_2) (hL1_2_2:l1_2_2.length≤c1_2_2) (hR1_3_1_2:RdZ Z A1_3_1_2 l1_3_1_2) (hL1_3_1_2:l1_3_1_2.length≤c1_3_1_2) (hR1_3_2_2:RdZ Z A1_3_2_2 l1_3_2_2) (hL1_3_2_2:l1_3_2_2.length≤c1_3_2_2) (hR1_4:RdZ Z A1_4 l1_4) (hL1_4:l1_4.length≤c1_4) (hR1_5:RdZ Z A1_5 l1_5) (hL1_5:l1_5.length≤c1_5) (r:Bool×Int×Int×Int×Bool×Bool×Bool×Bool) (h:tc_stmt.b K rec_tc_list sp0_0 sp0_1 sp0_2 sp0_3 sp0_4 sp0_5 sp0_6 x1_0 x1_1 x1_2_0 x1_2_1 l1_2_2 x1_3_0 x1_3_1_0 x1_3_1_1 l1_3_1_2 x1_3_2_0 x1_3_2_1 l1_3_2_2 l1_4 l1_5 x2=some r) :
  Calls Try.prog 88 #[pP bp0 0,.agg #[vI x1_0,vI x1_1,vI x1_2_0,vI x1_2_1,.slice A1_2_2 l1_2_2.length c1_2_2,vI x1_3_0,vI x1_3_1_0,vI x1_3_1_1,.slice A1_3_1_2 l1_3_1_2.length c1_3_1_2,vI x1_3_2_0,vI x1_3_2_1,.slice A1_3_2_2 l1_3_2_2.length c1_3_2_2,.slice A1_4 l1_4.length c1_4,.slice A1_5 l1_5.length c1_5],vI x2] wE (tc_stmt.Post w0 Z bp0 sp0_0 sp0_1 sp0_2 sp0_3 sp0_4 sp0_5 sp0_6 x1_0 x1_1 x1_2_0 x1_2_1 l1_2_2 A1_2_2 c1_2_2 x1_3_0 x1_3_1_0 x1_3_1_1 l1_3_1_2 A1_3_1_2 c1_3_1_2 x1_3_2_0 x1_3_2_1 l1_3_2_2 A1_3_2_2 c1_3_2_2 l1_4 A1_4 c1_4 l1_5 A1_5 c1_5 x2 LT r):=by
 unfold tc_stmt.b at h
 refine calls_enterD (n:=171) (args:=[pP bp0 0,.agg #[vI x1_0,vI x1_1,vI x1_2_0,vI x1_2_1,.slice A1_2_2 l1_2_2.length c1_2_2,vI x1_3_0,vI x1_3_1_0,vI x1_3_1_1,.slice A1_3_1_2 l1_3_1_2.length c1_3_1_2,vI x1_3_2_0,vI x1_3_2_1,.slice A1_3_2_2 l1_3_2_2.length c1_3_2_2,.slice A1_4 l1_4.length c1_4,.slice A1_5 l1_5.length c1_5],vI x2]) (fn:=Try.f88) rfl rfl rfl rfl ?_
 show WE _ _ _ _ [(0,pP bp0 0),(1,.agg #[vI x1_0,vI x1_1,vI x1_2_0,vI x1_2_1,.slice A1_2_2 l1_2_2.length c1_2_2,vI x1_3_0,vI x1_3_1_0,vI x1_3_1_1,.slice A1_3_1_2 l1_3_1_2.length c1_3_1_2,vI x1_3_2_0,vI x1_3_2_1,.slice A1_3_2_2 l1_3_2_2.length c1_3_2_2,.slice A1_4 l1_4.length c1_4,.slice A1_5 l1_5.length c1_5]),(2,vI x2)] _
 obtain ⟨ft1,wf1,hS1⟩:=hS.frz0
 refine ws fun K1 hK1=>wr [(0,1),(1,1),(2,0)]<|gw (some 3) (.cells #[pP bp0 0] 104) (fun b=>pP b 0) hS1 fun b1 w1 hx1 hS2=>?_
 refine gw (some 4) (.cells #[vI x1_0,vI x1_1,vI x1_2_0,vI x1_2_1,.slice A1_2_2 l1_2_2.length c1_2_2,vI x1_3_0,vI x1_3_1_0,vI x1_3_1_1,.slice A1_3_1_2 l1_3_1_2.length c1_3_1_2,vI x1_3_2_0,vI x1_3_2_1,.slice A1_3_2_2 l1_3_2_2.length c1_3_2_2,.slice A1_4 l1_4.length c1_4,.slice A1_5 l1_5.length c1_5] 70) (fun b=>pP b 0) hS2 fun b2 w2 hx2 hS3=>?_
 refine gb0 [2] [(6,.bool false)]<|gn hK1<|ws fun K2 hK2=>?_
 rcases hq3:tc_stmt.p0 sp0_0 sp0_1 sp0_2 sp0_3 sp0_4 sp0_5 sp0_6 x1_0 with _ | (_ | rr8)
 ·rw [hq3] at h; cases h
 ·rw [hq3] at h
  simp only [] at h
  refine kp (tc_stmt_p0 K w0 Z bp0 sp0_0 sp0_1 sp0_2 sp0_3 sp0_4 sp0_5 sp0_6 x1_0 x1_1 x1_2_0 x1_2_1 l1_2_2 A1_2_2 c1_2_2 x1_3_0 x1_3_1_0 x1_3_1_1 l1_3_1_2 A1_3_1_2 c1_3_1_2 x1_3_2_0 x1_3_2_1 l1_3_2_2 A1_3_2_2 c1_3_2_2 l1_4 A1_4 c1_4 l1_5 A1_5 c1_5 x2 LT hZ hR1_2_2 hL1_2_2 hR1_3_1_2 hL1_3_1_2 hR1_3_2_2 hL1_3_2_2 hR1_4 hL1_4 hR1_5 hL1_5 rec_tc_list hr_tc_list ft1 wf1 b1 b2 _ hq3 _ hS3 _ ?_)
  rintro _ a w5 ⟨rfl,ft3,wf3,hRz1,hS23,hF⟩
  replace hS23:St w0 w5 [bk b2 #[vI x1_0,vI x1_1,vI x1_2_0,vI x1_2_1,.slice A1_2_2 l1_2_2.length c1_2_2,vI x1_3_0,vI x1_3_1_0,vI x1_3_1_1,.slice A1_3_1_2 l1_3_1_2.length c1_3_1_2,vI x1_3_2_0,vI x1_3_2_1,.slice A1_3_2_2 l1_3_2_2.length c1_3_2_2,.slice A1_4 l1_4.length c1_4,.slice A1_5 l1_5.length c1_5] 70,bk b1 #[pP bp0 0] 104,bk bp0 #[vI sp0_0,vI sp0_1,vI sp0_2,.bool sp0_3,.bool sp0_4,.bool sp0_5,.bool sp0_6] 107,Own.all LT,Own.frz ft3 wf3]:=hS23
  refine hK2 [(0,pP bp0 0),(2,vI x2),(3,pP b1 0),(4,pP b2 0)] w5 ?_ a hF
  refine ws fun K6 hK6=>wr [(0,0),(1,0),(2,1),(3,0),(4,0),(5,0),(6,0),(7,0),(8,0),(9,0),(10,0),(11,0),(12,0),(13,0)]<|gb [0,1] [(25,vI x1_0),(24,pP b2 0)] [ld b2 0 (vI x1_0)] ⟨hS23.c 0,trivial⟩<|ge_call (d:=some 26) (f:=90) (args:=#[vI x1_0]) (by kernel_rfl) (tongue_uses_ok x1_0 _ _ rfl) ?_
  rintro _ w6 ⟨rfl,hS24⟩
  refine ⟨_,rfl,hS24.below,?_⟩
  have hS25:=hS23.call hS24
  refine gb0 [3,4,5,6,7,8,9,10,11,12,13] [(11,vI ((tongue_uses.f x1_0).2.2.2.2)),(10,vI ((tongue_uses.f x1_0).2.2.2.1)),(9,.bool ((tongue_uses.f x1_0).2.2.1)),(8,.bool ((tongue_uses.f x1_0).2.1)),(7,.bool ((tongue_uses.f x1_0).1)),(31,vI ((tongue_uses.f x1_0).2.2.2.2)),(30,vI ((tongue_uses.f x1_0).2.2.2.1)),(29,.bool ((tongue_uses.f x1_0).2.2.1)),(28,.bool ((tongue_uses.f x1_0).2.1)),(27,.bool ((tongue_uses.f x1_0).1)),(23,.tuple #[.bool ((tongue_uses.f x1_0).1),.bool ((tongue_uses.f x1_0).2.1),.bool ((tongue_uses.f x1_0).2.2.1),vI ((tongue_uses.f x1_0).2.2.2.1),vI ((tongue_uses.f x1_0).2.2.2.2)])]<|gn hK6<|ws fun K7 hK7=>?_
  rcases hq7:tc_stmt.p1 sp0_0 sp0_1 sp0_2 sp0_3 sp0_4 sp0_5 sp0_6 x1_0 x1_1 with _ | (_ | rr7)
  ·rw [hq7] at h; cases h
  ·rw [hq7] at h
   simp only [] at h
   refine kp (tc_stmt_p1 K w0 Z bp0 sp0_0 sp0_1 sp0_2 sp0_3 sp0_4 sp0_5 sp0_6 x1_0 x1_1 x1_2_0 x1_2_1 l1_2_2 A1_2_2 c1_2_2 x1_3_0 x1_3_1_0 x1_3_1_1 l1_3_1_2 A1_3_1_2 c1_3_1_2 x1_3_2_0 x1_3_2_1 l1_3_2_2 A1_3_2_2 c1_3_2_2 l1_4 A1_4 c1_4 l1_5 A1_5 c1_5 x2 LT hZ hR1_2_2 hL1_2_2 hR1_3_1_2 hL1_3_1_2 hR1_3_2_2 hL1_3_2_2 hR1_4 hL1_4 hR1_5 hL1_5 rec_tc_list hr_tc_list ft1 wf1 b1 b2 ft3 wf3 hRz1 _ hq7 _ hS25 _ ?_)
   rintro _ a w9 ⟨rfl,ft5,wf5,hRz2,hS45,hF⟩
   replace hS45:St w0 w9 [bk b2 #[vI x1_0,vI x1_1,vI x1_2_0,vI x1_2_1,.slice A1_2_2 l1_2_2.length c1_2_2,vI x1_3_0,vI x1_3_1_0,vI x1_3_1_1,.slice A1_3_1_2 l1_3_1_2.length c1_3_1_2,vI x1_3_2_0,vI x1_3_2_1,.slice A1_3_2_2 l1_3_2_2.length c1_3_2_2,.slice A1_4 l1_4.length c1_4,.slice A1_5 l1_5.length c1_5] 70,bk b1 #[pP bp0 0] 104,bk bp0 #[vI sp0_0,vI sp0_1,vI sp0_2,.bool sp0_3,.bool sp0_4,.bool sp0_5,.bool sp0_6] 107,Own.all LT,Own.frz ft5 wf5]:=hS45
   refine hK7 [(0,pP bp0 0),(2,vI x2),(3,pP b1 0),(4,pP b2 0),(7,.bool ((tongue_uses.f x1_0).1)),(8,.bool ((tongue_uses.f x1_0).2.1)),(9,.bool ((tongue_uses.f x1_0).2.2.1))] w9 ?_ a hF
   refine ws fun K11 hK11=>?_
   rcases hq10:tc_stmt.p2 x1_3_0 x1_3_1_0 x1_3_1_1 l1_3_1_2 x1_3_2_0 x1_3_2_1 l1_3_2_2 with _ | (q2 | rr6)
   ·rw [hq10] at h; cases h
   ·rw [hq10] at h
    simp only [] at h
    refine kp (tc_stmt_p2 K w0 Z bp0 sp0_0 sp0_1 sp0_2 sp0_3 sp0_4 sp0_5 sp0_6 x1_0 x1_1 x1_2_0 x1_2_1 l1_2_2 A1_2_2 c1_2_2 x1_3_0 x1_3_1_0 x1_3_1_1 l1_3_1_2 A1_3_1_2 c1_3_1_2 x1_3_2_0 x1_3_2_1 l1_3_2_2 A1_3_2_2 c1_3_2_2 l1_4 A1_4 c1_4 l1_5 A1_5 c1_5 x2 LT hZ hR1_2_2 hL1_2_2 hR1_3_1_2 hL1_3_1_2 hR1_3_2_2 hL1_3_2_2 hR1_4 hL1_4 hR1_5 hL1_5 rec_tc_list hr_tc_list ft1 wf1 b1 b2 ft3 wf3 hRz1 ft5 wf5 hRz2 _ hq10 _ hS45 _ ?_)
    rintro _ a w12 ⟨rfl,ft7,wf7,hRz3,hS65,hF⟩
    replace hS65:St w0 w12 [bk b2 #[vI x1_0,vI x1_1,vI x1_2_0,vI x1_2_1,.slice A1_2_2 l1_2_2.length c1_2_2,vI x1_3_0,vI x1_3_1_0,vI x1_3_1_1,.slice A1_3_1_2 l1_3_1_2.length c1_3_1_2,vI x1_3_2_0,vI x1_3_2_1,.slice A1_3_2_2 l1_3_2_2.length c1_3_2_2,.slice A1_4 l1_4.length c1_4,.slice A1_5 l1_5.length c1_5] 70,bk b1 #[pP bp0 0] 104,bk bp0 #[vI sp0_0,vI sp0_1,vI sp0_2,.bool sp0_3,.bool sp0_4,.bool sp0_5,.bool sp0_6] 107,Own.all LT,Own.frz ft7 wf7]:=hS65
    refine hK11 [(0,pP bp0 0),(2,vI x2),(3,pP b1 0),(4,pP b2 0),(7,.bool ((tongue_uses.f x1_0).1)),(8,.bool ((tongue_uses.f x1_0).2.1)),(9,.bool ((tongue_uses.f x1_0).2.2.1)),(12,.bool q2)] w12 ?_ a hF
    refine ws fun K12 hK12=>?_
    rcases hq27:tc_stmt.p3 sp0_0 sp0_1 sp0_2 sp0_3 sp0_4 sp0_5 sp0_6 x1_0 x1_2_0 x1_2_1 l1_2_2 l1_4 l1_5 q2 with _ | (_ | rr5)
    ·rw [hq27] at h; cases h
    ·rw [hq27] at h
     simp only [] at h
     refine kp (tc_stmt_p3 K w0 Z bp0 sp0_0 sp0_1 sp0_2 sp0_3 sp0_4 sp0_5 sp0_6 x1_0 x1_1 x1_2_0 x1_2_1 l1_2_2 A1_2_2 c1_2_2 x1_3_0 x1_3_1_0 x1_3_1_1 l1_3_1_2 A1_3_1_2 c1_3_1_2 x1_3_2_0 x1_3_2_1 l1_3_2_2 A1_3_2_2 c1_3_2_2 l1_4 A1_4 c1_4 l1_5 A1_5 c1_5 x2 LT hZ hR1_2_2 hL1_2_2 hR1_3_1_2 hL1_3_1_2 hR1_3_2_2 hL1_3_2_2 hR1_4 hL1_4 hR1_5 hL1_5 rec_tc_list hr_tc_list ft1 wf1 b1 b2 ft3 wf3 hRz1 ft5 wf5 hRz2 ft7 wf7 q2 hRz3 _ hq27 _ hS65 _ ?_)
     rintro _ a w29 ⟨rfl,ft9,wf9,hRz4,hS253,hF⟩
     replace hS253:St w0 w29 [bk b2 #[vI x1_0,vI x1_1,vI x1_2_0,vI x1_2_1,.slice A1_2_2 l1_2_2.length c1_2_2,vI x1_3_0,vI x1_3_1_0,vI x1_3_1_1,.slice A1_3_1_2 l1_3_1_2.length c1_3_1_2,vI x1_3_2_0,vI x1_3_2_1,.slice A1_3_2_2 l1_3_2_2.length c1_3_2_2,.slice A1_4 l1_4.length c1_4,.slice A1_5 l1_5.length c1_5] 70,bk b1 #[pP bp0 0] 104,bk bp0 #[vI sp0_0,vI sp0_1,vI sp0_2,.bool sp0_3,.bool sp0_4,.bool sp0_5,.bool sp0_6] 107,Own.all LT,Own.frz ft9 wf9]:=hS253
     refine hK12 [(0,pP bp0 0),(2,vI x2),(3,pP b1 0),(4,pP b2 0),(7,.bool ((tongue_uses.f x1_0).1)),(8,.bool ((tongue_uses.f x1_0).2.1)),(9,.bool ((tongue_uses.f x1_0).2.2.1))] w29 ?_ a hF
     refine ws fun K29 hK29=>?_
     rcases hq29:tc_stmt.p4 K sp0_0 sp0_1 sp0_2 sp0_3 sp0_4 sp0_5 sp0_6 x1_0 x1_2_0 x1_2_1 l1_2_2 with _ | (⟨z3,z4⟩ | rr4)
     ·rw [hq29] at h; cases h
     ·rw [hq29] at h
      simp only [] at h
      refine kp (tc_stmt_p4 K w0 Z bp0 sp0_0 sp0_1 sp0_2 sp0_3 sp0_4 sp0_5 sp0_6 x1_0 x1_1 x1_2_0 x1_2_1 l1_2_2 A1_2_2 c1_2_2 x1_3_0 x1_3_1_0 x1_3_1_1 l1_3_1_2 A1_3_1_2 c1_3_1_2 x1_3_2_0 x1_3_2_1 l1_3_2_2 A1_3_2_2 c1_3_2_2 l1_4 A1_4 c1_4 l1_5 A1_5 c1_5 x2 LT hZ hR1_2_2 hL1_2_2 hR1_3_1_2 hL1_3_1_2 hR1_3_2_2 hL1_3_2_2 hR1_4 hL1_4 hR1_5 hL1_5 rec_tc_list hr_tc_list ft1 wf1 b1 b2 ft3 wf3 hRz1 ft5 wf5 hRz2 ft7 wf7 q2 hRz3 ft9 wf9 hRz4 _ hq29 _ hS253 _ ?_)
      rintro _ a w32 ⟨rfl,ft12,wf12,hRz5,hS276,hF⟩
      replace hS276:St w0 w32 [bk b2 #[vI x1_0,vI x1_1,vI x1_2_0,vI x1_2_1,.slice A1_2_2 l1_2_2.length c1_2_2,vI x1_3_0,vI x1_3_1_0,vI x1_3_1_1,.slice A1_3_1_2 l1_3_1_2.length c1_3_1_2,vI x1_3_2_0,vI x1_3_2_1,.slice A1_3_2_2 l1_3_2_2.length c1_3_2_2,.slice A1_4 l1_4.length c1_4,.slice A1_5 l1_5.length c1_5] 70,bk b1 #[pP bp0 0] 104,bk bp0 #[vI sp0_0,vI z3,vI z4,.bool sp0_3,.bool sp0_4,.bool sp0_5,.bool sp0_6] 107,Own.all LT,Own.frz ft12 wf12]:=hS276
      refine hK29 [(0,pP bp0 0),(2,vI x2),(3,pP b1 0),(4,pP b2 0),(8,.bool ((tongue_uses.f x1_0).2.1)),(9,.bool ((tongue_uses.f x1_0).2.2.1))] w32 ?_ a hF
      refine ws fun K32 hK32=>?_
      rcases hq33:tc_stmt.p5 K sp0_0 sp0_3 sp0_4 sp0_5 sp0_6 x1_0 x1_3_0 x1_3_1_0 x1_3_1_1 l1_3_1_2 x1_3_2_0 x1_3_2_1 l1_3_2_2 z3 z4 with _ | (⟨z7,z8⟩ | rr3)
      ·rw [hq33] at h; cases h
      ·rw [hq33] at h
       simp only [] at h
       refine kp (tc_stmt_p5 K w0 Z bp0 sp0_0 sp0_1 sp0_2 sp0_3 sp0_4 sp0_5 sp0_6 x1_0 x1_1 x1_2_0 x1_2_1 l1_2_2 A1_2_2 c1_2_2 x1_3_0 x1_3_1_0 x1_3_1_1 l1_3_1_2 A1_3_1_2 c1_3_1_2 x1_3_2_0 x1_3_2_1 l1_3_2_2 A1_3_2_2 c1_3_2_2 l1_4 A1_4 c1_4 l1_5 A1_5 c1_5 x2 LT hZ hR1_2_2 hL1_2_2 hR1_3_1_2 hL1_3_1_2 hR1_3_2_2 hL1_3_2_2 hR1_4 hL1_4 hR1_5 hL1_5 rec_tc_list hr_tc_list ft1 wf1 b1 b2 ft3 wf3 hRz1 ft5 wf5 hRz2 ft7 wf7 q2 hRz3 ft9 wf9 hRz4 ft12 wf12 z3 z4 hRz5 _ hq33 _ hS276 _ ?_)
       rintro _ a w37 ⟨rfl,ft15,wf15,hRz6,hS313,hF⟩
       replace hS313:St w0 w37 [bk b2 #[vI x1_0,vI x1_1,vI x1_2_0,vI x1_2_1,.slice A1_2_2 l1_2_2.length c1_2_2,vI x1_3_0,vI x1_3_1_0,vI x1_3_1_1,.slice A1_3_1_2 l1_3_1_2.length c1_3_1_2,vI x1_3_2_0,vI x1_3_2_1,.slice A1_3_2_2 l1_3_2_2.length c1_3_2_2,.slice A1_4 l1_4.length c1_4,.slice A1_5 l1_5.length c1_5] 70,bk b1 #[pP bp0 0] 104,bk bp0 #[vI sp0_0,vI z7,vI z8,.bool sp0_3,.bool sp0_4,.bool sp0_5,.bool sp0_6] 107,Own.all LT,Own.frz ft15 wf15]:=hS313
       refine hK32 [(0,pP bp0 0),(2,vI x2),(3,pP b1 0),(4,pP b2 0),(9,.bool ((tongue_uses.f x1_0).2.2.1))] w37 ?_ a hF
       refine ws fun K40 hK40=>ws fun K41 hK41=>wr [(0,0),(1,0),(2,0),(3,0),(4,0)]<|gb0 [0,1] [(132,.bool ((tongue_uses.f x1_0).2.2.1)),(131,.bool ((tongue_uses.f x1_0).2.2.1))] ?_
       by_cases hc43:((tongue_uses.f x1_0).2.2.1)=true
       ·rw [if_pos hc43] at h
        refine gk 132 ((tongue_uses.f x1_0).2.2.1) true hc43<|gb0 [2,3,4] [(135,.bool (x2==6)),(134,.bool (x2==6)),(133,vI x2)]<|gn hK41 ?_
        by_cases hc44:x2=6
        ·rw [if_pos hc44] at h
         refine wk 135 (x2==6) true (beq_iff_eq.2 hc44)<|wt<|ws fun K42 hK42=>wr [(0,0),(1,2),(2,0)]<|gb [0] [(136,pP bp0 0)] [ld b1 0 (pP bp0 0)] ⟨hS313.c 1,trivial⟩ ?_
         have hS316:=(hS313.b 2).packN 1
         refine ge_call2 (m:=0) (d:=some 137) (f:=89) (args:=#[pP bp0 0,vI 2]) (by kernel_rfl) (tc_say_ok bp0 sp0_0 z7 z8 sp0_3 sp0_4 sp0_5 sp0_6 2 _ _ _ hS316 _ rfl) ?_
         rintro _ w38 ⟨rfl,hS315⟩
         refine ⟨_,rfl,?_⟩
         have hS317:=hS315.unpack [bk bp0 #[vI sp0_0,vI ((tc_say.f sp0_0 z7 z8 sp0_3 sp0_4 sp0_5 sp0_6 2).2.1),vI ((tc_say.f sp0_0 z7 z8 sp0_3 sp0_4 sp0_5 sp0_6 2).2.2),.bool sp0_3,.bool sp0_4,.bool sp0_5,.bool sp0_6] 107]
         refine gb0 [2] [(6,.bool ((tc_say.f sp0_0 z7 z8 sp0_3 sp0_4 sp0_5 sp0_6 2).1))]<|gn hK42 ?_
         have hS320:=hS317.p [0,3] rfl
         obtain rfl:=si h
         exact we_ret (post_retD (rs:=[.tmp 6]) (ans:=[]) (vs:=[.bool ((tc_say.f sp0_0 z7 z8 sp0_3 sp0_4 sp0_5 sp0_6 2).1)]) (l:=[]) rfl (by kernel_rfl) trivial ⟨rfl,hS320⟩)
        rw [if_neg hc44] at h
        refine wk 135 (x2==6) false (beq_eq_false_iff_ne.2 hc44)<|wf<|we_skip fun a hF=>hK40 _ _ ?_ a hF
        refine ws fun K43 hK43=>ws fun K44 hK44=>wr [(0,0),(1,0),(2,0)]<|gb [0,1,2] [(140,.bool (x1_0==6)),(139,vI x1_0),(138,pP b2 0)] [ld b2 0 (vI x1_0)] ⟨hS313.c 0,trivial⟩<|gn hK44 ?_
        by_cases hc45:x1_0=6
        ·rw [if_pos hc45] at h
         refine wk 140 (x1_0==6) true (beq_iff_eq.2 hc45)<|wt<|ws fun K45 hK45=>ws fun K46 hK46=>we_draws (by kernel_rfl) [(0,0),(1,0),(2,0),(3,0),(4,0),(5,0),(6,0)] (by kernel_rfl) ?_
         have hS321:=hS313.drew
         refine gb [0,1,2,3,4] [(145,pP bp0 3),(144,pP bp0 0),(143,vI x1_1),(142,pP b2 1),(141,pP bp0 0)] [ld b1 0 (pP bp0 0),ld b2 1 (vI x1_1)] ⟨hS321.c 1,hS321.c 0,trivial⟩ ?_
         by_cases hc46:0≤x1_1
         ·rw [if_pos hc46] at h
          rcases hx5:([sp0_3,sp0_4,sp0_5,sp0_6]:List Bool)[(x1_1).toNat]? with _ | e1
          ·rw [hx5] at h; cases h
          rw [hx5] at h
          simp only [] at h
          refine ge_arrAddr (d:=146) (ty:=0) (t:=105) (len:=4) (el:=4) (b:=bp0) (o0:=3) (sz:=1) (x:=(.tmp 145)) (y:=(.tmp 143)) (k':=.i64) (j:=x1_1) (jn:=((x1_1).toNat)) (by kernel_rfl) (by kernel_rfl) (by kernel_rfl) (by kernel_rfl) (by kernel_rfl) (Int.toNat_of_nonneg hc46).symm (lt_of_get hx5) ?_
          refine gb [6] [(147,.bool e1)] [.loaded ⟨bp0,3+((x1_1).toNat)*1,none⟩ (.bool e1)] ⟨hS321.cellA 2 (pre:=[vI sp0_0,vI z7,vI z8]) (post:=[]) (l:=([sp0_3,sp0_4,sp0_5,sp0_6]:List Bool)) rfl rfl rfl hx5 rfl rfl,trivial⟩<|gn hK46 ?_
          by_cases hc47:e1=true
          ·rw [if_pos hc47] at h
           refine wk 147 e1 true hc47<|wt<|ws fun K47 hK47=>wr [(0,0),(1,2),(2,0)]<|gb [0] [(148,pP bp0 0)] [ld b1 0 (pP bp0 0)] ⟨hS321.c 1,trivial⟩ ?_
           have hS324:=(hS321.b 2).packN 1
           refine ge_call2 (m:=0) (d:=some 149) (f:=89) (args:=#[pP bp0 0,vI 10]) (by kernel_rfl) (tc_say_ok bp0 sp0_0 z7 z8 sp0_3 sp0_4 sp0_5 sp0_6 10 _ _ _ hS324 _ rfl) ?_
           rintro _ w39 ⟨rfl,hS323⟩
           refine ⟨_,rfl,?_⟩
           have hS325:=hS323.unpack [bk bp0 #[vI sp0_0,vI ((tc_say.f sp0_0 z7 z8 sp0_3 sp0_4 sp0_5 sp0_6 10).2.1),vI ((tc_say.f sp0_0 z7 z8 sp0_3 sp0_4 sp0_5 sp0_6 10).2.2),.bool sp0_3,.bool sp0_4,.bool sp0_5,.bool sp0_6] 107]
           refine gb0 [2] [(6,.bool ((tc_say.f sp0_0 z7 z8 sp0_3 sp0_4 sp0_5 sp0_6 10).1))]<|gn hK47 ?_
           have hS328:=hS325.p [0,3] rfl
           obtain rfl:=si h
           exact we_ret (post_retD (rs:=[.tmp 6]) (ans:=[]) (vs:=[.bool ((tc_say.f sp0_0 z7 z8 sp0_3 sp0_4 sp0_5 sp0_6 10).1)]) (l:=[]) rfl (by kernel_rfl) trivial ⟨rfl,hS328⟩)
          rw [if_neg hc47] at h
          refine wk 147 e1 false (Bool.eq_false_iff.2 hc47)<|wf<|we_skip fun a hF=>hK45 _ _ ?_ a hF
          refine ws fun K48 hK48=>?_
          rcases hq36:tc_stmt.p6 sp0_3 sp0_4 sp0_5 sp0_6 x1_1 with _ | (⟨q7,q8,q9,q10⟩ | rr1)
          ·rw [hq36] at h; cases h
          ·rw [hq36] at h
           simp only [] at h
           refine kp (tc_stmt_p6 K w0 Z bp0 sp0_0 sp0_1 sp0_2 sp0_3 sp0_4 sp0_5 sp0_6 x1_0 x1_1 x1_2_0 x1_2_1 l1_2_2 A1_2_2 c1_2_2 x1_3_0 x1_3_1_0 x1_3_1_1 l1_3_1_2 A1_3_1_2 c1_3_1_2 x1_3_2_0 x1_3_2_1 l1_3_2_2 A1_3_2_2 c1_3_2_2 l1_4 A1_4 c1_4 l1_5 A1_5 c1_5 x2 LT hZ hR1_2_2 hL1_2_2 hR1_3_1_2 hL1_3_1_2 hR1_3_2_2 hL1_3_2_2 hR1_4 hL1_4 hR1_5 hL1_5 rec_tc_list hr_tc_list ft1 wf1 b1 b2 ft3 wf3 hRz1 ft5 wf5 hRz2 ft7 wf7 q2 hRz3 ft9 wf9 hRz4 ft12 wf12 z3 z4 hRz5 ft15 wf15 z7 z8 hRz6 hc43 hc44 hc45 hc46 e1 hx5 hc47 _ hq36 _ hS321 _ ?_)
           rintro _ a w41 ⟨rfl,ft17,wf17,hRz7,hS338,hF⟩
           replace hS338:St w0 w41 [bk b2 #[vI x1_0,vI x1_1,vI x1_2_0,vI x1_2_1,.slice A1_2_2 l1_2_2.length c1_2_2,vI x1_3_0,vI x1_3_1_0,vI x1_3_1_1,.slice A1_3_1_2 l1_3_1_2.length c1_3_1_2,vI x1_3_2_0,vI x1_3_2_1,.slice A1_3_2_2 l1_3_2_2.length c1_3_2_2,.slice A1_4 l1_4.length c1_4,.slice A1_5 l1_5.length c1_5] 70,bk b1 #[pP bp0 0] 104,bk bp0 #[vI sp0_0,vI z7,vI z8,.bool q7,.bool q8,.bool q9,.bool q10] 107,Own.all LT,Own.frz ft17 wf17]:=hS338
           refine hK48 [(0,pP bp0 0),(2,vI x2),(3,pP b1 0),(4,pP b2 0)] w41 ?_ a hF
           refine wr [(0,0),(1,2)]<|gb0 [0] [(156,.func (.func 93) #[] #[pP b1 0,pP b2 0])]<|ge_defer (d:=⟨.fn (.func 93) #[pP b1 0,pP b2 0],#[]⟩) (by kernel_rfl) fun D1 hD1=>?_
           refine gn hK43<|ws fun K49 hK49=>wr [(0,0),(1,0),(2,0),(3,0),(4,0),(5,2),(6,0),(7,0),(8,0),(9,0),(10,0),(11,0),(12,2),(13,0),(14,0)]<|gb [0,1,2,3,4] [(161,vI (IntKind.i64.wrap (x2+1))),(160,vI x2),(159,.slice A1_4 l1_4.length c1_4),(158,pP b2 12),(157,pP bp0 0)] [ld b1 0 (pP bp0 0),ld b2 12 (.slice A1_4 l1_4.length c1_4)] ⟨hS338.c 1,hS338.c 0,trivial⟩ ?_
           rcases hq37:rec_tc_list sp0_0 z7 z8 q7 q8 q9 q10 l1_4 (IntKind.i64.wrap (x2+1)) with _ | r3
           ·rw [hq37] at h; cases h
           rw [hq37] at h
           simp only [] at h
           have hS341:=(hS338.b 2).packN 1
           refine ge_call2 (m:=0) (d:=some 162) (f:=48) (args:=#[pP bp0 0,.slice A1_4 l1_4.length c1_4,vI (IntKind.i64.wrap (x2+1))]) (by kernel_rfl) (hr_tc_list (Zand Z wf17) bp0 sp0_0 z7 z8 q7 q8 q9 q10 l1_4 A1_4 c1_4 (IntKind.i64.wrap (x2+1)) _ _ _ hS341 (fun w L h w' k=>⟨(hZ _ _ (h.spread.bring 2 rfl) w' k),(h.spread.frzSub 3 rfl).trans k⟩) (hR1_4.up (ZLe.in _ _)) hL1_4 _ hq37) ?_
           rintro _ w42 ⟨rfl,hS340⟩
           refine ⟨_,rfl,?_⟩
           have hS342:=hS340.unpack [bk bp0 #[vI r3.2.1,vI r3.2.2.1,vI r3.2.2.2.1,.bool r3.2.2.2.2.1,.bool r3.2.2.2.2.2.1,.bool r3.2.2.2.2.2.2.1,.bool r3.2.2.2.2.2.2.2] 107]
           refine gb0 [6] [(163,.bool r3.1)] ?_
           by_cases hc48:r3.1=true
           ·rw [if_pos hc48] at h
            refine gk 163 r3.1 true hc48<|gb [7,8,9,10,11] [(168,vI (IntKind.i64.wrap (x2+1))),(167,vI x2),(166,.slice A1_5 l1_5.length c1_5),(165,pP b2 13),(164,pP bp0 0)] [ld b1 0 (pP bp0 0),ld b2 13 (.slice A1_5 l1_5.length c1_5)] ⟨hS342.c 2,hS342.c 1,trivial⟩ ?_
            rcases hq38:rec_tc_list r3.2.1 r3.2.2.1 r3.2.2.2.1 r3.2.2.2.2.1 r3.2.2.2.2.2.1 r3.2.2.2.2.2.2.1 r3.2.2.2.2.2.2.2 l1_5 (IntKind.i64.wrap (x2+1)) with _ | r4
            ·rw [hq38] at h; cases h
            rw [hq38] at h
            simp only [] at h
            have hS344:=hS342.packN 1
            refine ge_call2 (m:=0) (d:=some 169) (f:=48) (args:=#[pP bp0 0,.slice A1_5 l1_5.length c1_5,vI (IntKind.i64.wrap (x2+1))]) (by kernel_rfl) (hr_tc_list (Zand Z wf17) bp0 r3.2.1 r3.2.2.1 r3.2.2.2.1 r3.2.2.2.2.1 r3.2.2.2.2.2.1 r3.2.2.2.2.2.2.1 r3.2.2.2.2.2.2.2 l1_5 A1_5 c1_5 (IntKind.i64.wrap (x2+1)) _ _ _ hS344 (fun w L h w' k=>⟨(hZ _ _ (h.spread.bring 2 rfl) w' k),(h.spread.frzSub 3 rfl).trans k⟩) (hR1_5.up (ZLe.in _ _)) hL1_5 _ hq38) ?_
            rintro _ w43 ⟨rfl,hS343⟩
            refine ⟨_,rfl,?_⟩
            have hS345:=hS343.unpack [bk bp0 #[vI r4.2.1,vI r4.2.2.1,vI r4.2.2.2.1,.bool r4.2.2.2.2.1,.bool r4.2.2.2.2.2.1,.bool r4.2.2.2.2.2.2.1,.bool r4.2.2.2.2.2.2.2] 107]
            refine gb0 [13,14] [(6,.bool r4.1),(170,.bool r4.1)]<|gn hK49 ?_
            rcases hq39:tc_stmt_1.f r4.2.1 r4.2.2.1 r4.2.2.2.1 r4.2.2.2.2.1 r4.2.2.2.2.2.1 r4.2.2.2.2.2.2.1 r4.2.2.2.2.2.2.2 x1_0 x1_1 x1_2_0 x1_2_1 l1_2_2 x1_3_0 x1_3_1_0 x1_3_1_1 l1_3_1_2 x1_3_2_0 x1_3_2_1 l1_3_2_2 l1_4 l1_5 with _ | r5
            ·rw [hq39] at h; cases h
            rw [hq39] at h
            simp only [] at h
            have hS350:=(((hS345.b 1).b 1).b 2).packN 3
            refine we_ret (post_retL (f:=93) (caps:=#[pP b1 0,pP b2 0]) («as»:=#[]) (rs:=[.tmp 6]) (ans:=[]) (vs:=[.bool r4.1]) (l:=[]) hD1 rfl (by kernel_rfl) (by kernel_rfl) (tc_stmt_1_okD (Zand Z wf17) b1 bp0 r4.2.1 r4.2.2.1 r4.2.2.2.1 r4.2.2.2.2.1 r4.2.2.2.2.2.1 r4.2.2.2.2.2.2.1 r4.2.2.2.2.2.2.2 b2 x1_0 x1_1 x1_2_0 x1_2_1 l1_2_2 A1_2_2 c1_2_2 x1_3_0 x1_3_1_0 x1_3_1_1 l1_3_1_2 A1_3_1_2 c1_3_1_2 x1_3_2_0 x1_3_2_1 l1_3_2_2 A1_3_2_2 c1_3_2_2 l1_4 A1_4 c1_4 l1_5 A1_5 c1_5 _ _ _ hS350 (fun w L h w' k=>⟨(hZ _ _ (h.spread.bring 0 rfl) w' k),(h.spread.frzSub 1 rfl).trans k⟩) (hR1_2_2.up (ZLe.in _ _)) hL1_2_2 (hR1_3_1_2.up (ZLe.in _ _)) hL1_3_1_2 (hR1_3_2_2.up (ZLe.in _ _)) hL1_3_2_2 (hR1_4.up (ZLe.in _ _)) hL1_4 (hR1_5.up (ZLe.in _ _)) hL1_5 _ hq39 .returning) ?_)
            rintro _ w44 ⟨rfl,hS349⟩
            have hS354:=(((hS349.unpack [bk b1 #[pP bp0 0] 104,bk bp0 #[vI r4.2.1,vI r4.2.2.1,vI r4.2.2.2.1,.bool r5.1,.bool r5.2.1,.bool r5.2.2.1,.bool r5.2.2.2] 107,bk b2 #[vI x1_0,vI x1_1,vI x1_2_0,vI x1_2_1,.slice A1_2_2 l1_2_2.length c1_2_2,vI x1_3_0,vI x1_3_1_0,vI x1_3_1_1,.slice A1_3_1_2 l1_3_1_2.length c1_3_1_2,vI x1_3_2_0,vI x1_3_2_1,.slice A1_3_2_2 l1_3_2_2.length c1_3_2_2,.slice A1_4 l1_4.length c1_4,.slice A1_5 l1_5.length c1_5] 70]).b 3).b 2).takeN 2
            obtain rfl:=si h
            exact ⟨⟨_,rfl⟩,trivial,⟨rfl,hS354⟩⟩
           rw [if_neg hc48] at h
           refine gk 163 r3.1 false (Bool.eq_false_iff.2 hc48)<|gb0 [7,8,9,10,11] [(168,undef),(167,undef),(166,undef),(165,undef),(164,undef)]<|ge_off rfl rfl rfl (by kernel_rfl) ?_
           refine gb0 [13,14] [(6,.bool false),(170,.bool false)]<|gn hK49 ?_
           rcases hq40:tc_stmt_1.f r3.2.1 r3.2.2.1 r3.2.2.2.1 r3.2.2.2.2.1 r3.2.2.2.2.2.1 r3.2.2.2.2.2.2.1 r3.2.2.2.2.2.2.2 x1_0 x1_1 x1_2_0 x1_2_1 l1_2_2 x1_3_0 x1_3_1_0 x1_3_1_1 l1_3_1_2 x1_3_2_0 x1_3_2_1 l1_3_2_2 l1_4 l1_5 with _ | r6
           ·rw [hq40] at h; cases h
           rw [hq40] at h
           simp only [] at h
           have hS359:=(((hS342.b 1).b 1).b 2).packN 3
           refine we_ret (post_retL (f:=93) (caps:=#[pP b1 0,pP b2 0]) («as»:=#[]) (rs:=[.tmp 6]) (ans:=[]) (vs:=[.bool false]) (l:=[]) hD1 rfl (by kernel_rfl) (by kernel_rfl) (tc_stmt_1_okD (Zand Z wf17) b1 bp0 r3.2.1 r3.2.2.1 r3.2.2.2.1 r3.2.2.2.2.1 r3.2.2.2.2.2.1 r3.2.2.2.2.2.2.1 r3.2.2.2.2.2.2.2 b2 x1_0 x1_1 x1_2_0 x1_2_1 l1_2_2 A1_2_2 c1_2_2 x1_3_0 x1_3_1_0 x1_3_1_1 l1_3_1_2 A1_3_1_2 c1_3_1_2 x1_3_2_0 x1_3_2_1 l1_3_2_2 A1_3_2_2 c1_3_2_2 l1_4 A1_4 c1_4 l1_5 A1_5 c1_5 _ _ _ hS359 (fun w L h w' k=>⟨(hZ _ _ (h.spread.bring 0 rfl) w' k),(h.spread.frzSub 1 rfl).trans k⟩) (hR1_2_2.up (ZLe.in _ _)) hL1_2_2 (hR1_3_1_2.up (ZLe.in _ _)) hL1_3_1_2 (hR1_3_2_2.up (ZLe.in _ _)) hL1_3_2_2 (hR1_4.up (ZLe.in _ _)) hL1_4 (hR1_5.up (ZLe.in _ _)) hL1_5 _ hq40 .returning) ?_)
           rintro _ w45 ⟨rfl,hS358⟩
           have hS363:=(((hS358.unpack [bk b1 #[pP bp0 0] 104,bk bp0 #[vI r3.2.1,vI r3.2.2.1,vI r3.2.2.2.1,.bool r6.1,.bool r6.2.1,.bool r6.2.2.1,.bool r6.2.2.2] 107,bk b2 #[vI x1_0,vI x1_1,vI x1_2_0,vI x1_2_1,.slice A1_2_2 l1_2_2.length c1_2_2,vI x1_3_0,vI x1_3_1_0,vI x1_3_1_1,.slice A1_3_1_2 l1_3_1_2.length c1_3_1_2,vI x1_3_2_0,vI x1_3_2_1,.slice A1_3_2_2 l1_3_2_2.length c1_3_2_2,.slice A1_4 l1_4.length c1_4,.slice A1_5 l1_5.length c1_5] 70]).b 3).b 2).takeN 2
           obtain rfl:=si h
           exact ⟨⟨_,rfl⟩,trivial,⟨rfl,hS363⟩⟩
          rw [hq36] at h
          simp only [] at h
          refine kp (tc_stmt_p6 K w0 Z bp0 sp0_0 sp0_1 sp0_2 sp0_3 sp0_4 sp0_5 sp0_6 x1_0 x1_1 x1_2_0 x1_2_1 l1_2_2 A1_2_2 c1_2_2 x1_3_0 x1_3_1_0 x1_3_1_1 l1_3_1_2 A1_3_1_2 c1_3_1_2 x1_3_2_0 x1_3_2_1 l1_3_2_2 A1_3_2_2 c1_3_2_2 l1_4 A1_4 c1_4 l1_5 A1_5 c1_5 x2 LT hZ hR1_2_2 hL1_2_2 hR1_3_1_2 hL1_3_1_2 hR1_3_2_2 hL1_3_2_2 hR1_4 hL1_4 hR1_5 hL1_5 rec_tc_list hr_tc_list ft1 wf1 b1 b2 ft3 wf3 hRz1 ft5 wf5 hRz2 ft7 wf7 q2 hRz3 ft9 wf9 hRz4 ft12 wf12 z3 z4 hRz5 ft15 wf15 z7 z8 hRz6 hc43 hc44 hc45 hc46 e1 hx5 hc47 _ hq36 _ hS321 _ ?_)
          rintro _ a w1 ⟨_,rfl,hb⟩
          obtain rfl:=si h
          exact hb
         rw [if_neg hc46] at h
         cases h
        rw [if_neg hc45] at h
        refine wk 140 (x1_0==6) false (beq_eq_false_iff_ne.2 hc45)<|wf<|we_skip fun a hF=>hK43 _ _ ?_ a hF
        refine ws fun K50 hK50=>wr [(0,0),(1,0),(2,0),(3,0),(4,0),(5,2),(6,0),(7,0),(8,0),(9,0),(10,0),(11,0),(12,2),(13,0),(14,0)]<|gb [0,1,2,3,4] [(161,vI (IntKind.i64.wrap (x2+1))),(160,vI x2),(159,.slice A1_4 l1_4.length c1_4),(158,pP b2 12),(157,pP bp0 0)] [ld b1 0 (pP bp0 0),ld b2 12 (.slice A1_4 l1_4.length c1_4)] ⟨hS313.c 1,hS313.c 0,trivial⟩ ?_
        rcases hq41:rec_tc_list sp0_0 z7 z8 sp0_3 sp0_4 sp0_5 sp0_6 l1_4 (IntKind.i64.wrap (x2+1)) with _ | r7
        ·rw [hq41] at h; cases h
        rw [hq41] at h
        simp only [] at h
        have hS366:=(hS313.b 2).packN 1
        refine ge_call2 (m:=0) (d:=some 162) (f:=48) (args:=#[pP bp0 0,.slice A1_4 l1_4.length c1_4,vI (IntKind.i64.wrap (x2+1))]) (by kernel_rfl) (hr_tc_list (Zand Z wf15) bp0 sp0_0 z7 z8 sp0_3 sp0_4 sp0_5 sp0_6 l1_4 A1_4 c1_4 (IntKind.i64.wrap (x2+1)) _ _ _ hS366 (fun w L h w' k=>⟨(hZ _ _ (h.spread.bring 2 rfl) w' k),(h.spread.frzSub 3 rfl).trans k⟩) (hR1_4.up (ZLe.in _ _)) hL1_4 _ hq41) ?_
        rintro _ w46 ⟨rfl,hS365⟩
        refine ⟨_,rfl,?_⟩
        have hS367:=hS365.unpack [bk bp0 #[vI r7.2.1,vI r7.2.2.1,vI r7.2.2.2.1,.bool r7.2.2.2.2.1,.bool r7.2.2.2.2.2.1,.bool r7.2.2.2.2.2.2.1,.bool r7.2.2.2.2.2.2.2] 107]
        refine gb0 [6] [(163,.bool r7.1)] ?_
        by_cases hc49:r7.1=true
        ·rw [if_pos hc49] at h
         refine gk 163 r7.1 true hc49<|gb [7,8,9,10,11] [(168,vI (IntKind.i64.wrap (x2+1))),(167,vI x2),(166,.slice A1_5 l1_5.length c1_5),(165,pP b2 13),(164,pP bp0 0)] [ld b1 0 (pP bp0 0),ld b2 13 (.slice A1_5 l1_5.length c1_5)] ⟨hS367.c 2,hS367.c 1,trivial⟩ ?_
         rcases hq42:rec_tc_list r7.2.1 r7.2.2.1 r7.2.2.2.1 r7.2.2.2.2.1 r7.2.2.2.2.2.1 r7.2.2.2.2.2.2.1 r7.2.2.2.2.2.2.2 l1_5 (IntKind.i64.wrap (x2+1)) with _ | r8
         ·rw [hq42] at h; cases h
         rw [hq42] at h
         simp only [] at h
         have hS369:=hS367.packN 1
         refine ge_call2 (m:=0) (d:=some 169) (f:=48) (args:=#[pP bp0 0,.slice A1_5 l1_5.length c1_5,vI (IntKind.i64.wrap (x2+1))]) (by kernel_rfl) (hr_tc_list (Zand Z wf15) bp0 r7.2.1 r7.2.2.1 r7.2.2.2.1 r7.2.2.2.2.1 r7.2.2.2.2.2.1 r7.2.2.2.2.2.2.1 r7.2.2.2.2.2.2.2 l1_5 A1_5 c1_5 (IntKind.i64.wrap (x2+1)) _ _ _ hS369 (fun w L h w' k=>⟨(hZ _ _ (h.spread.bring 2 rfl) w' k),(h.spread.frzSub 3 rfl).trans k⟩) (hR1_5.up (ZLe.in _ _)) hL1_5 _ hq42) ?_
         rintro _ w47 ⟨rfl,hS368⟩
         refine ⟨_,rfl,?_⟩
         have hS370:=hS368.unpack [bk bp0 #[vI r8.2.1,vI r8.2.2.1,vI r8.2.2.2.1,.bool r8.2.2.2.2.1,.bool r8.2.2.2.2.2.1,.bool r8.2.2.2.2.2.2.1,.bool r8.2.2.2.2.2.2.2] 107]
         refine gb0 [13,14] [(6,.bool r8.1),(170,.bool r8.1)]<|gn hK50 ?_
         have hS373:=hS370.p [0,3] rfl
         obtain rfl:=si h
         exact we_ret (post_retD (rs:=[.tmp 6]) (ans:=[]) (vs:=[.bool r8.1]) (l:=[]) rfl (by kernel_rfl) trivial ⟨rfl,hS373⟩)
        rw [if_neg hc49] at h
        refine gk 163 r7.1 false (Bool.eq_false_iff.2 hc49)<|gb0 [7,8,9,10,11] [(168,undef),(167,undef),(166,undef),(165,undef),(164,undef)]<|ge_off rfl rfl rfl (by kernel_rfl) ?_
        refine gb0 [13,14] [(6,.bool false),(170,.bool false)]<|gn hK50 ?_
        have hS376:=hS367.p [0,3] rfl
        obtain rfl:=si h
        exact we_ret (post_retD (rs:=[.tmp 6]) (ans:=[]) (vs:=[.bool false]) (l:=[]) rfl (by kernel_rfl) trivial ⟨rfl,hS376⟩)
       rw [if_neg hc43] at h
       refine gk 132 ((tongue_uses.f x1_0).2.2.1) false (Bool.eq_false_iff.2 hc43)<|gb0 [2,3,4] [(135,.bool false),(134,undef),(133,undef)]<|gn hK41<|wf<|we_skip fun a hF=>hK40 _ _ ?_ a hF
       refine ws fun K51 hK51=>ws fun K52 hK52=>wr [(0,0),(1,0),(2,0)]<|gb [0,1,2] [(140,.bool (x1_0==6)),(139,vI x1_0),(138,pP b2 0)] [ld b2 0 (vI x1_0)] ⟨hS313.c 0,trivial⟩<|gn hK52 ?_
       by_cases hc50:x1_0=6
       ·rw [if_pos hc50] at h
        refine wk 140 (x1_0==6) true (beq_iff_eq.2 hc50)<|wt<|ws fun K53 hK53=>ws fun K54 hK54=>we_draws (by kernel_rfl) [(0,0),(1,0),(2,0),(3,0),(4,0),(5,0),(6,0)] (by kernel_rfl) ?_
        have hS377:=hS313.drew
        refine gb [0,1,2,3,4] [(145,pP bp0 3),(144,pP bp0 0),(143,vI x1_1),(142,pP b2 1),(141,pP bp0 0)] [ld b1 0 (pP bp0 0),ld b2 1 (vI x1_1)] ⟨hS377.c 1,hS377.c 0,trivial⟩ ?_
        by_cases hc51:0≤x1_1
        ·rw [if_pos hc51] at h
         rcases hx6:([sp0_3,sp0_4,sp0_5,sp0_6]:List Bool)[(x1_1).toNat]? with _ | e2
         ·rw [hx6] at h; cases h
         rw [hx6] at h
         simp only [] at h
         refine ge_arrAddr (d:=146) (ty:=0) (t:=105) (len:=4) (el:=4) (b:=bp0) (o0:=3) (sz:=1) (x:=(.tmp 145)) (y:=(.tmp 143)) (k':=.i64) (j:=x1_1) (jn:=((x1_1).toNat)) (by kernel_rfl) (by kernel_rfl) (by kernel_rfl) (by kernel_rfl) (by kernel_rfl) (Int.toNat_of_nonneg hc51).symm (lt_of_get hx6) ?_
         refine gb [6] [(147,.bool e2)] [.loaded ⟨bp0,3+((x1_1).toNat)*1,none⟩ (.bool e2)] ⟨hS377.cellA 2 (pre:=[vI sp0_0,vI z7,vI z8]) (post:=[]) (l:=([sp0_3,sp0_4,sp0_5,sp0_6]:List Bool)) rfl rfl rfl hx6 rfl rfl,trivial⟩<|gn hK54 ?_
         by_cases hc52:e2=true
         ·rw [if_pos hc52] at h
          refine wk 147 e2 true hc52<|wt<|ws fun K55 hK55=>wr [(0,0),(1,2),(2,0)]<|gb [0] [(148,pP bp0 0)] [ld b1 0 (pP bp0 0)] ⟨hS377.c 1,trivial⟩ ?_
          have hS380:=(hS377.b 2).packN 1
          refine ge_call2 (m:=0) (d:=some 149) (f:=89) (args:=#[pP bp0 0,vI 10]) (by kernel_rfl) (tc_say_ok bp0 sp0_0 z7 z8 sp0_3 sp0_4 sp0_5 sp0_6 10 _ _ _ hS380 _ rfl) ?_
          rintro _ w48 ⟨rfl,hS379⟩
          refine ⟨_,rfl,?_⟩
          have hS381:=hS379.unpack [bk bp0 #[vI sp0_0,vI ((tc_say.f sp0_0 z7 z8 sp0_3 sp0_4 sp0_5 sp0_6 10).2.1),vI ((tc_say.f sp0_0 z7 z8 sp0_3 sp0_4 sp0_5 sp0_6 10).2.2),.bool sp0_3,.bool sp0_4,.bool sp0_5,.bool sp0_6] 107]
          refine gb0 [2] [(6,.bool ((tc_say.f sp0_0 z7 z8 sp0_3 sp0_4 sp0_5 sp0_6 10).1))]<|gn hK55 ?_
          have hS384:=hS381.p [0,3] rfl
          obtain rfl:=si h
          exact we_ret (post_retD (rs:=[.tmp 6]) (ans:=[]) (vs:=[.bool ((tc_say.f sp0_0 z7 z8 sp0_3 sp0_4 sp0_5 sp0_6 10).1)]) (l:=[]) rfl (by kernel_rfl) trivial ⟨rfl,hS384⟩)
         rw [if_neg hc52] at h
         refine wk 147 e2 false (Bool.eq_false_iff.2 hc52)<|wf<|we_skip fun a hF=>hK53 _ _ ?_ a hF
         refine ws fun K56 hK56=>?_
         rcases hq44:tc_stmt.p7 sp0_3 sp0_4 sp0_5 sp0_6 x1_1 with _ | (⟨q15,q16,q17,q18⟩ | rr2)
         ·rw [hq44] at h; cases h
         ·rw [hq44] at h
          simp only [] at h
          refine kp (tc_stmt_p7 K w0 Z bp0 sp0_0 sp0_1 sp0_2 sp0_3 sp0_4 sp0_5 sp0_6 x1_0 x1_1 x1_2_0 x1_2_1 l1_2_2 A1_2_2 c1_2_2 x1_3_0 x1_3_1_0 x1_3_1_1 l1_3_1_2 A1_3_1_2 c1_3_1_2 x1_3_2_0 x1_3_2_1 l1_3_2_2 A1_3_2_2 c1_3_2_2 l1_4 A1_4 c1_4 l1_5 A1_5 c1_5 x2 LT hZ hR1_2_2 hL1_2_2 hR1_3_1_2 hL1_3_1_2 hR1_3_2_2 hL1_3_2_2 hR1_4 hL1_4 hR1_5 hL1_5 rec_tc_list hr_tc_list ft1 wf1 b1 b2 ft3 wf3 hRz1 ft5 wf5 hRz2 ft7 wf7 q2 hRz3 ft9 wf9 hRz4 ft12 wf12 z3 z4 hRz5 ft15 wf15 z7 z8 hRz6 hc43 hc50 hc51 e2 hx6 hc52 _ hq44 _ hS377 _ ?_)
          rintro _ a w50 ⟨rfl,ft19,wf19,hRz8,hS394,hF⟩
          replace hS394:St w0 w50 [bk b2 #[vI x1_0,vI x1_1,vI x1_2_0,vI x1_2_1,.slice A1_2_2 l1_2_2.length c1_2_2,vI x1_3_0,vI x1_3_1_0,vI x1_3_1_1,.slice A1_3_1_2 l1_3_1_2.length c1_3_1_2,vI x1_3_2_0,vI x1_3_2_1,.slice A1_3_2_2 l1_3_2_2.length c1_3_2_2,.slice A1_4 l1_4.length c1_4,.slice A1_5 l1_5.length c1_5] 70,bk b1 #[pP bp0 0] 104,bk bp0 #[vI sp0_0,vI z7,vI z8,.bool q15,.bool q16,.bool q17,.bool q18] 107,Own.all LT,Own.frz ft19 wf19]:=hS394
          refine hK56 [(0,pP bp0 0),(2,vI x2),(3,pP b1 0),(4,pP b2 0)] w50 ?_ a hF
          refine wr [(0,0),(1,2)]<|gb0 [0] [(156,.func (.func 93) #[] #[pP b1 0,pP b2 0])]<|ge_defer (d:=⟨.fn (.func 93) #[pP b1 0,pP b2 0],#[]⟩) (by kernel_rfl) fun D2 hD2=>?_
          refine gn hK51<|ws fun K57 hK57=>wr [(0,0),(1,0),(2,0),(3,0),(4,0),(5,2),(6,0),(7,0),(8,0),(9,0),(10,0),(11,0),(12,2),(13,0),(14,0)]<|gb [0,1,2,3,4] [(161,vI (IntKind.i64.wrap (x2+1))),(160,vI x2),(159,.slice A1_4 l1_4.length c1_4),(158,pP b2 12),(157,pP bp0 0)] [ld b1 0 (pP bp0 0),ld b2 12 (.slice A1_4 l1_4.length c1_4)] ⟨hS394.c 1,hS394.c 0,trivial⟩ ?_
          rcases hq45:rec_tc_list sp0_0 z7 z8 q15 q16 q17 q18 l1_4 (IntKind.i64.wrap (x2+1)) with _ | r9
          ·rw [hq45] at h; cases h
          rw [hq45] at h
          simp only [] at h
          have hS397:=(hS394.b 2).packN 1
          refine ge_call2 (m:=0) (d:=some 162) (f:=48) (args:=#[pP bp0 0,.slice A1_4 l1_4.length c1_4,vI (IntKind.i64.wrap (x2+1))]) (by kernel_rfl) (hr_tc_list (Zand Z wf19) bp0 sp0_0 z7 z8 q15 q16 q17 q18 l1_4 A1_4 c1_4 (IntKind.i64.wrap (x2+1)) _ _ _ hS397 (fun w L h w' k=>⟨(hZ _ _ (h.spread.bring 2 rfl) w' k),(h.spread.frzSub 3 rfl).trans k⟩) (hR1_4.up (ZLe.in _ _)) hL1_4 _ hq45) ?_
          rintro _ w51 ⟨rfl,hS396⟩
          refine ⟨_,rfl,?_⟩
          have hS398:=hS396.unpack [bk bp0 #[vI r9.2.1,vI r9.2.2.1,vI r9.2.2.2.1,.bool r9.2.2.2.2.1,.bool r9.2.2.2.2.2.1,.bool r9.2.2.2.2.2.2.1,.bool r9.2.2.2.2.2.2.2] 107]
          refine gb0 [6] [(163,.bool r9.1)] ?_
          by_cases hc53:r9.1=true
          ·rw [if_pos hc53] at h
           refine gk 163 r9.1 true hc53<|gb [7,8,9,10,11] [(168,vI (IntKind.i64.wrap (x2+1))),(167,vI x2),(166,.slice A1_5 l1_5.length c1_5),(165,pP b2 13),(164,pP bp0 0)] [ld b1 0 (pP bp0 0),ld b2 13 (.slice A1_5 l1_5.length c1_5)] ⟨hS398.c 2,hS398.c 1,trivial⟩ ?_
           rcases hq46:rec_tc_list r9.2.1 r9.2.2.1 r9.2.2.2.1 r9.2.2.2.2.1 r9.2.2.2.2.2.1 r9.2.2.2.2.2.2.1 r9.2.2.2.2.2.2.2 l1_5 (IntKind.i64.wrap (x2+1)) with _ | r10
           ·rw [hq46] at h; cases h
           rw [hq46] at h
           simp only [] at h
           have hS400:=hS398.packN 1
           refine ge_call2 (m:=0) (d:=some 169) (f:=48) (args:=#[pP bp0 0,.slice A1_5 l1_5.length c1_5,vI (IntKind.i64.wrap (x2+1))]) (by kernel_rfl) (hr_tc_list (Zand Z wf19) bp0 r9.2.1 r9.2.2.1 r9.2.2.2.1 r9.2.2.2.2.1 r9.2.2.2.2.2.1 r9.2.2.2.2.2.2.1 r9.2.2.2.2.2.2.2 l1_5 A1_5 c1_5 (IntKind.i64.wrap (x2+1)) _ _ _ hS400 (fun w L h w' k=>⟨(hZ _ _ (h.spread.bring 2 rfl) w' k),(h.spread.frzSub 3 rfl).trans k⟩) (hR1_5.up (ZLe.in _ _)) hL1_5 _ hq46) ?_
           rintro _ w52 ⟨rfl,hS399⟩
           refine ⟨_,rfl,?_⟩
           have hS401:=hS399.unpack [bk bp0 #[vI r10.2.1,vI r10.2.2.1,vI r10.2.2.2.1,.bool r10.2.2.2.2.1,.bool r10.2.2.2.2.2.1,.bool r10.2.2.2.2.2.2.1,.bool r10.2.2.2.2.2.2.2] 107]
           refine gb0 [13,14] [(6,.bool r10.1),(170,.bool r10.1)]<|gn hK57 ?_
           rcases hq47:tc_stmt_1.f r10.2.1 r10.2.2.1 r10.2.2.2.1 r10.2.2.2.2.1 r10.2.2.2.2.2.1 r10.2.2.2.2.2.2.1 r10.2.2.2.2.2.2.2 x1_0 x1_1 x1_2_0 x1_2_1 l1_2_2 x1_3_0 x1_3_1_0 x1_3_1_1 l1_3_1_2 x1_3_2_0 x1_3_2_1 l1_3_2_2 l1_4 l1_5 with _ | r11
           ·rw [hq47] at h; cases h
           rw [hq47] at h
           simp only [] at h
           have hS406:=(((hS401.b 1).b 1).b 2).packN 3
           refine we_ret (post_retL (f:=93) (caps:=#[pP b1 0,pP b2 0]) («as»:=#[]) (rs:=[.tmp 6]) (ans:=[]) (vs:=[.bool r10.1]) (l:=[]) hD2 rfl (by kernel_rfl) (by kernel_rfl) (tc_stmt_1_okD (Zand Z wf19) b1 bp0 r10.2.1 r10.2.2.1 r10.2.2.2.1 r10.2.2.2.2.1 r10.2.2.2.2.2.1 r10.2.2.2.2.2.2.1 r10.2.2.2.2.2.2.2 b2 x1_0 x1_1 x1_2_0 x1_2_1 l1_2_2 A1_2_2 c1_2_2 x1_3_0 x1_3_1_0 x1_3_1_1 l1_3_1_2 A1_3_1_2 c1_3_1_2 x1_3_2_0 x1_3_2_1 l1_3_2_2 A1_3_2_2 c1_3_2_2 l1_4 A1_4 c1_4 l1_5 A1_5 c1_5 _ _ _ hS406 (fun w L h w' k=>⟨(hZ _ _ (h.spread.bring 0 rfl) w' k),(h.spread.frzSub 1 rfl).trans k⟩) (hR1_2_2.up (ZLe.in _ _)) hL1_2_2 (hR1_3_1_2.up (ZLe.in _ _)) hL1_3_1_2 (hR1_3_2_2.up (ZLe.in _ _)) hL1_3_2_2 (hR1_4.up (ZLe.in _ _)) hL1_4 (hR1_5.up (ZLe.in _ _)) hL1_5 _ hq47 .returning) ?_)
           rintro _ w53 ⟨rfl,hS405⟩
           have hS410:=(((hS405.unpack [bk b1 #[pP bp0 0] 104,bk bp0 #[vI r10.2.1,vI r10.2.2.1,vI r10.2.2.2.1,.bool r11.1,.bool r11.2.1,.bool r11.2.2.1,.bool r11.2.2.2] 107,bk b2 #[vI x1_0,vI x1_1,vI x1_2_0,vI x1_2_1,.slice A1_2_2 l1_2_2.length c1_2_2,vI x1_3_0,vI x1_3_1_0,vI x1_3_1_1,.slice A1_3_1_2 l1_3_1_2.length c1_3_1_2,vI x1_3_2_0,vI x1_3_2_1,.slice A1_3_2_2 l1_3_2_2.length c1_3_2_2,.slice A1_4 l1_4.length c1_4,.slice A1_5 l1_5.length c1_5] 70]).b 3).b 2).takeN 2
           obtain rfl:=si h
           exact ⟨⟨_,rfl⟩,trivial,⟨rfl,hS410⟩⟩
          rw [if_neg hc53] at h
          refine gk 163 r9.1 false (Bool.eq_false_iff.2 hc53)<|gb0 [7,8,9,10,11] [(168,undef),(167,undef),(166,undef),(165,undef),(164,undef)]<|ge_off rfl rfl rfl (by kernel_rfl) ?_
          refine gb0 [13,14] [(6,.bool false),(170,.bool false)]<|gn hK57 ?_
          rcases hq48:tc_stmt_1.f r9.2.1 r9.2.2.1 r9.2.2.2.1 r9.2.2.2.2.1 r9.2.2.2.2.2.1 r9.2.2.2.2.2.2.1 r9.2.2.2.2.2.2.2 x1_0 x1_1 x1_2_0 x1_2_1 l1_2_2 x1_3_0 x1_3_1_0 x1_3_1_1 l1_3_1_2 x1_3_2_0 x1_3_2_1 l1_3_2_2 l1_4 l1_5 with _ | r12
          ·rw [hq48] at h; cases h
          rw [hq48] at h
          simp only [] at h
          have hS415:=(((hS398.b 1).b 1).b 2).packN 3
          refine we_ret (post_retL (f:=93) (caps:=#[pP b1 0,pP b2 0]) («as»:=#[]) (rs:=[.tmp 6]) (ans:=[]) (vs:=[.bool false]) (l:=[]) hD2 rfl (by kernel_rfl) (by kernel_rfl) (tc_stmt_1_okD (Zand Z wf19) b1 bp0 r9.2.1 r9.2.2.1 r9.2.2.2.1 r9.2.2.2.2.1 r9.2.2.2.2.2.1 r9.2.2.2.2.2.2.1 r9.2.2.2.2.2.2.2 b2 x1_0 x1_1 x1_2_0 x1_2_1 l1_2_2 A1_2_2 c1_2_2 x1_3_0 x1_3_1_0 x1_3_1_1 l1_3_1_2 A1_3_1_2 c1_3_1_2 x1_3_2_0 x1_3_2_1 l1_3_2_2 A1_3_2_2 c1_3_2_2 l1_4 A1_4 c1_4 l1_5 A1_5 c1_5 _ _ _ hS415 (fun w L h w' k=>⟨(hZ _ _ (h.spread.bring 0 rfl) w' k),(h.spread.frzSub 1 rfl).trans k⟩) (hR1_2_2.up (ZLe.in _ _)) hL1_2_2 (hR1_3_1_2.up (ZLe.in _ _)) hL1_3_1_2 (hR1_3_2_2.up (ZLe.in _ _)) hL1_3_2_2 (hR1_4.up (ZLe.in _ _)) hL1_4 (hR1_5.up (ZLe.in _ _)) hL1_5 _ hq48 .returning) ?_)
          rintro _ w54 ⟨rfl,hS414⟩
          have hS419:=(((hS414.unpack [bk b1 #[pP bp0 0] 104,bk bp0 #[vI r9.2.1,vI r9.2.2.1,vI r9.2.2.2.1,.bool r12.1,.bool r12.2.1,.bool r12.2.2.1,.bool r12.2.2.2] 107,bk b2 #[vI x1_0,vI x1_1,vI x1_2_0,vI x1_2_1,.slice A1_2_2 l1_2_2.length c1_2_2,vI x1_3_0,vI x1_3_1_0,vI x1_3_1_1,.slice A1_3_1_2 l1_3_1_2.length c1_3_1_2,vI x1_3_2_0,vI x1_3_2_1,.slice A1_3_2_2 l1_3_2_2.length c1_3_2_2,.slice A1_4 l1_4.length c1_4,.slice A1_5 l1_5.length c1_5] 70]).b 3).b 2).takeN 2
          obtain rfl:=si h
          exact ⟨⟨_,rfl⟩,trivial,⟨rfl,hS419⟩⟩
         rw [hq44] at h
         simp only [] at h
         refine kp (tc_stmt_p7 K w0 Z bp0 sp0_0 sp0_1 sp0_2 sp0_3 sp0_4 sp0_5 sp0_6 x1_0 x1_1 x1_2_0 x1_2_1 l1_2_2 A1_2_2 c1_2_2 x1_3_0 x1_3_1_0 x1_3_1_1 l1_3_1_2 A1_3_1_2 c1_3_1_2 x1_3_2_0 x1_3_2_1 l1_3_2_2 A1_3_2_2 c1_3_2_2 l1_4 A1_4 c1_4 l1_5 A1_5 c1_5 x2 LT hZ hR1_2_2 hL1_2_2 hR1_3_1_2 hL1_3_1_2 hR1_3_2_2 hL1_3_2_2 hR1_4 hL1_4 hR1_5 hL1_5 rec_tc_list hr_tc_list ft1 wf1 b1 b2 ft3 wf3 hRz1 ft5 wf5 hRz2 ft7 wf7 q2 hRz3 ft9 wf9 hRz4 ft12 wf12 z3 z4 hRz5 ft15 wf15 z7 z8 hRz6 hc43 hc50 hc51 e2 hx6 hc52 _ hq44 _ hS377 _ ?_)
         rintro _ a w1 ⟨_,rfl,hb⟩
         obtain rfl:=si h
         exact hb
        rw [if_neg hc51] at h
        cases h
       rw [if_neg hc50] at h
       refine wk 140 (x1_0==6) false (beq_eq_false_iff_ne.2 hc50)<|wf<|we_skip fun a hF=>hK51 _ _ ?_ a hF
       refine ws fun K58 hK58=>wr [(0,0),(1,0),(2,0),(3,0),(4,0),(5,2),(6,0),(7,0),(8,0),(9,0),(10,0),(11,0),(12,2),(13,0),(14,0)]<|gb [0,1,2,3,4] [(161,vI (IntKind.i64.wrap (x2+1))),(160,vI x2),(159,.slice A1_4 l1_4.length c1_4),(158,pP b2 12),(157,pP bp0 0)] [ld b1 0 (pP bp0 0),ld b2 12 (.slice A1_4 l1_4.length c1_4)] ⟨hS313.c 1,hS313.c 0,trivial⟩ ?_
       rcases hq49:rec_tc_list sp0_0 z7 z8 sp0_3 sp0_4 sp0_5 sp0_6 l1_4 (IntKind.i64.wrap (x2+1)) with _ | r13
       ·rw [hq49] at h; cases h
       rw [hq49] at h
       simp only [] at h
       have hS422:=(hS313.b 2).packN 1
       refine ge_call2 (m:=0) (d:=some 162) (f:=48) (args:=#[pP bp0 0,.slice A1_4 l1_4.length c1_4,vI (IntKind.i64.wrap (x2+1))]) (by kernel_rfl) (hr_tc_list (Zand Z wf15) bp0 sp0_0 z7 z8 sp0_3 sp0_4 sp0_5 sp0_6 l1_4 A1_4 c1_4 (IntKind.i64.wrap (x2+1)) _ _ _ hS422 (fun w L h w' k=>⟨(hZ _ _ (h.spread.bring 2 rfl) w' k),(h.spread.frzSub 3 rfl).trans k⟩) (hR1_4.up (ZLe.in _ _)) hL1_4 _ hq49) ?_
       rintro _ w55 ⟨rfl,hS421⟩
       refine ⟨_,rfl,?_⟩
       have hS423:=hS421.unpack [bk bp0 #[vI r13.2.1,vI r13.2.2.1,vI r13.2.2.2.1,.bool r13.2.2.2.2.1,.bool r13.2.2.2.2.2.1,.bool r13.2.2.2.2.2.2.1,.bool r13.2.2.2.2.2.2.2] 107]
       refine gb0 [6] [(163,.bool r13.1)] ?_
       by_cases hc54:r13.1=true
       ·rw [if_pos hc54] at h
        refine gk 163 r13.1 true hc54<|gb [7,8,9,10,11] [(168,vI (IntKind.i64.wrap (x2+1))),(167,vI x2),(166,.slice A1_5 l1_5.length c1_5),(165,pP b2 13),(164,pP bp0 0)] [ld b1 0 (pP bp0 0),ld b2 13 (.slice A1_5 l1_5.length c1_5)] ⟨hS423.c 2,hS423.c 1,trivial⟩ ?_
        rcases hq50:rec_tc_list r13.2.1 r13.2.2.1 r13.2.2.2.1 r13.2.2.2.2.1 r13.2.2.2.2.2.1 r13.2.2.2.2.2.2.1 r13.2.2.2.2.2.2.2 l1_5 (IntKind.i64.wrap (x2+1)) with _ | r14
        ·rw [hq50] at h; cases h
        rw [hq50] at h
        simp only [] at h
        have hS425:=hS423.packN 1
        refine ge_call2 (m:=0) (d:=some 169) (f:=48) (args:=#[pP bp0 0,.slice A1_5 l1_5.length c1_5,vI (IntKind.i64.wrap (x2+1))]) (by kernel_rfl) (hr_tc_list (Zand Z wf15) bp0 r13.2.1 r13.2.2.1 r13.2.2.2.1 r13.2.2.2.2.1 r13.2.2.2.2.2.1 r13.2.2.2.2.2.2.1 r13.2.2.2.2.2.2.2 l1_5 A1_5 c1_5 (IntKind.i64.wrap (x2+1)) _ _ _ hS425 (fun w L h w' k=>⟨(hZ _ _ (h.spread.bring 2 rfl) w' k),(h.spread.frzSub 3 rfl).trans k⟩) (hR1_5.up (ZLe.in _ _)) hL1_5 _ hq50) ?_
        rintro _ w56 ⟨rfl,hS424⟩
        refine ⟨_,rfl,?_⟩
        have hS426:=hS424.unpack [bk bp0 #[vI r14.2.1,vI r14.2.2.1,vI r14.2.2.2.1,.bool r14.2.2.2.2.1,.bool r14.2.2.2.2.2.1,.bool r14.2.2.2.2.2.2.1,.bool r14.2.2.2.2.2.2.2] 107]
        refine gb0 [13,14] [(6,.bool r14.1),(170,.bool r14.1)]<|gn hK58 ?_
        have hS429:=hS426.p [0,3] rfl
        obtain rfl:=si h
        exact we_ret (post_retD (rs:=[.tmp 6]) (ans:=[]) (vs:=[.bool r14.1]) (l:=[]) rfl (by kernel_rfl) trivial ⟨rfl,hS429⟩)
       rw [if_neg hc54] at h
       refine gk 163 r13.1 false (Bool.eq_false_iff.2 hc54)<|gb0 [7,8,9,10,11] [(168,undef),(167,undef),(166,undef),(165,undef),(164,undef)]<|ge_off rfl rfl rfl (by kernel_rfl) ?_
       refine gb0 [13,14] [(6,.bool false),(170,.bool false)]<|gn hK58 ?_
       have hS432:=hS423.p [0,3] rfl
       obtain rfl:=si h
       exact we_ret (post_retD (rs:=[.tmp 6]) (ans:=[]) (vs:=[.bool false]) (l:=[]) rfl (by kernel_rfl) trivial ⟨rfl,hS432⟩)
      rw [hq33] at h
      simp only [] at h
      refine kp (tc_stmt_p5 K w0 Z bp0 sp0_0 sp0_1 sp0_2 sp0_3 sp0_4 sp0_5 sp0_6 x1_0 x1_1 x1_2_0 x1_2_1 l1_2_2 A1_2_2 c1_2_2 x1_3_0 x1_3_1_0 x1_3_1_1 l1_3_1_2 A1_3_1_2 c1_3_1_2 x1_3_2_0 x1_3_2_1 l1_3_2_2 A1_3_2_2 c1_3_2_2 l1_4 A1_4 c1_4 l1_5 A1_5 c1_5 x2 LT hZ hR1_2_2 hL1_2_2 hR1_3_1_2 hL1_3_1_2 hR1_3_2_2 hL1_3_2_2 hR1_4 hL1_4 hR1_5 hL1_5 rec_tc_list hr_tc_list ft1 wf1 b1 b2 ft3 wf3 hRz1 ft5 wf5 hRz2 ft7 wf7 q2 hRz3 ft9 wf9 hRz4 ft12 wf12 z3 z4 hRz5 _ hq33 _ hS276 _ ?_)
      rintro _ a w1 ⟨_,rfl,hb⟩
      obtain rfl:=si h
      exact hb
     rw [hq29] at h
     simp only [] at h
     refine kp (tc_stmt_p4 K w0 Z bp0 sp0_0 sp0_1 sp0_2 sp0_3 sp0_4 sp0_5 sp0_6 x1_0 x1_1 x1_2_0 x1_2_1 l1_2_2 A1_2_2 c1_2_2 x1_3_0 x1_3_1_0 x1_3_1_1 l1_3_1_2 A1_3_1_2 c1_3_1_2 x1_3_2_0 x1_3_2_1 l1_3_2_2 A1_3_2_2 c1_3_2_2 l1_4 A1_4 c1_4 l1_5 A1_5 c1_5 x2 LT hZ hR1_2_2 hL1_2_2 hR1_3_1_2 hL1_3_1_2 hR1_3_2_2 hL1_3_2_2 hR1_4 hL1_4 hR1_5 hL1_5 rec_tc_list hr_tc_list ft1 wf1 b1 b2 ft3 wf3 hRz1 ft5 wf5 hRz2 ft7 wf7 q2 hRz3 ft9 wf9 hRz4 _ hq29 _ hS253 _ ?_)
     rintro _ a w1 ⟨_,rfl,hb⟩
     obtain rfl:=si h
     exact hb
    rw [hq27] at h
    simp only [] at h
    refine kp (tc_stmt_p3 K w0 Z bp0 sp0_0 sp0_1 sp0_2 sp0_3 sp0_4 sp0_5 sp0_6 x1_0 x1_1 x1_2_0 x1_2_1 l1_2_2 A1_2_2 c1_2_2 x1_3_0 x1_3_1_0 x1_3_1_1 l1_3_1_2 A1_3_1_2 c1_3_1_2 x1_3_2_0 x1_3_2_1 l1_3_2_2 A1_3_2_2 c1_3_2_2 l1_4 A1_4 c1_4 l1_5 A1_5 c1_5 x2 LT hZ hR1_2_2 hL1_2_2 hR1_3_1_2 hL1_3_1_2 hR1_3_2_2 hL1_3_2_2 hR1_4 hL1_4 hR1_5 hL1_5 rec_tc_list hr_tc_list ft1 wf1 b1 b2 ft3 wf3 hRz1 ft5 wf5 hRz2 ft7 wf7 q2 hRz3 _ hq27 _ hS65 _ ?_)
    rintro _ a w1 ⟨_,rfl,hb⟩
    obtain rfl:=si h
    exact hb
   rw [hq10] at h
   simp only [] at h
   refine kp (tc_stmt_p2 K w0 Z bp0 sp0_0 sp0_1 sp0_2 sp0_3 sp0_4 sp0_5 sp0_6 x1_0 x1_1 x1_2_0 x1_2_1 l1_2_2 A1_2_2 c1_2_2 x1_3_0 x1_3_1_0 x1_3_1_1 l1_3_1_2 A1_3_1_2 c1_3_1_2 x1_3_2_0 x1_3_2_1 l1_3_2_2 A1_3_2_2 c1_3_2_2 l1_4 A1_4 c1_4 l1_5 A1_5 c1_5 x2 LT hZ hR1_2_2 hL1_2_2 hR1_3_1_2 hL1_3_1_2 hR1_3_2_2 hL1_3_2_2 hR1_4 hL1_4 hR1_5 hL1_5 rec_tc_list hr_tc_list ft1 wf1 b1 b2 ft3 wf3 hRz1 ft5 wf5 hRz2 _ hq10 _ hS45 _ ?_)
   rintro _ a w1 ⟨_,rfl,hb⟩
   obtain rfl:=si h
   exact hb
  rw [hq7] at h
  simp only [] at h
  refine kp (tc_stmt_p1 K w0 Z bp0 sp0_0 sp0_1 sp0_2 sp0_3 sp0_4 sp0_5 sp0_6 x1_0 x1_1 x1_2_0 x1_2_1 l1_2_2 A1_2_2 c1_2_2 x1_3_0 x1_3_1_0 x1_3_1_1 l1_3_1_2 A1_3_1_2 c1_3_1_2 x1_3_2_0 x1_3_2_1 l1_3_2_2 A1_3_2_2 c1_3_2_2 l1_4 A1_4 c1_4 l1_5 A1_5 c1_5 x2 LT hZ hR1_2_2 hL1_2_2 hR1_3_1_2 hL1_3_1_2 hR1_3_2_2 hL1_3_2_2 hR1_4 hL1_4 hR1_5 hL1_5 rec_tc_list hr_tc_list ft1 wf1 b1 b2 ft3 wf3 hRz1 _ hq7 _ hS25 _ ?_)
  rintro _ a w1 ⟨_,rfl,hb⟩
  obtain rfl:=si h
  exact hb
 rw [hq3] at h
 simp only [] at h
 refine kp (tc_stmt_p0 K w0 Z bp0 sp0_0 sp0_1 sp0_2 sp0_3 sp0_4 sp0_5 sp0_6 x1_0 x1_1 x1_2_0 x1_2_1 l1_2_2 A1_2_2 c1_2_2 x1_3_0 x1_3_1_0 x1_3_1_1 l1_3_1_2 A1_3_1_2 c1_3_1_2 x1_3_2_0 x1_3_2_1 l1_3_2_2 A1_3_2_2 c1_3_2_2 l1_4 A1_4 c1_4 l1_5 A1_5 c1_5 x2 LT hZ hR1_2_2 hL1_2_2 hR1_3_1_2 hL1_3_1_2 hR1_3_2_2 hL1_3_2_2 hR1_4 hL1_4 hR1_5 hL1_5 rec_tc_list hr_tc_list ft1 wf1 b1 b2 _ hq3 _ hS3 _ ?_)
 rintro _ a w1 ⟨_,rfl,hb⟩
 obtain rfl:=si h
 exact hb
def tc_list.recs (K : Nat) : Nat → (Int → Int → Int → Bool → Bool → Bool → Bool → (List SStmt) → Int → Option (Bool × Int × Int × Int × Bool × Bool × Bool × Bool)) × (Int → Int → Int → Bool → Bool → Bool → Bool → Int → Int → Int → Int → (List SExpr) → Int → Int → Int → (List SExpr) → Int → Int → (List SExpr) → (List SStmt) → (List SStmt) → Int → Option (Bool × Int × Int × Int × Bool × Bool × Bool × Bool)) × (Int → Int → Int → Bool → Bool → Bool → Bool → Int → Int → Int → Int → (List SExpr) → Int → Int → Int → (List SExpr) → Int → Int → (List SExpr) → (List SStmt) → (List SStmt) → Int → Option (Bool × Int × Int × Int × Bool × Bool × Bool × Bool))
 | 0=>(fun _ _ _ _ _ _ _ _ _=>none,fun _ _ _ _ _ _ _ _ _ _ _ _ _ _ _ _ _ _ _ _ _ _=>none,fun _ _ _ _ _ _ _ _ _ _ _ _ _ _ _ _ _ _ _ _ _ _=>none)
 | n+1=>(tc_list.b K ((tc_list.recs K n).2.1),tc_stmtAt.b K ((tc_list.recs K n).2.2),tc_stmt.b K ((tc_list.recs K n).1))
theorem tc_list_all (K n:Nat):tc_list.Rec ((tc_list.recs K n).1)∧tc_stmtAt.Rec ((tc_list.recs K n).2.1)∧tc_stmt.Rec ((tc_list.recs K n).2.2):=by
 induction n with
 | zero=>exact ⟨(by unfold tc_list.Rec; intros; rename_i h; cases (show none=some _ from h)),(by unfold tc_stmtAt.Rec; intros; rename_i h; cases (show none=some _ from h)),(by unfold tc_stmt.Rec; intros; rename_i h; cases (show none=some _ from h))⟩
 | succ n ih=>exact ⟨tc_list_step K _ ih.2.1,tc_stmtAt_step K _ ih.2.2,tc_stmt_step K _ ih.1⟩
def tc_list.f (K : Nat) (sp0_0 : Int) (sp0_1 : Int) (sp0_2 : Int) (sp0_3 : Bool) (sp0_4 : Bool) (sp0_5 : Bool) (sp0_6 : Bool) (l1 : List SStmt) (x2 : Int) : Option (Bool × Int × Int × Int × Bool × Bool × Bool × Bool) := ((tc_list.recs K K).1) sp0_0 sp0_1 sp0_2 sp0_3 sp0_4 sp0_5 sp0_6 l1 x2
theorem tc_list_ok (K:Nat) (Z:Zone) (bp0:Nat) (sp0_0 sp0_1 sp0_2:Int) (sp0_3 sp0_4 sp0_5 sp0_6:Bool) (l1:List SStmt) (A1:OA) (c1:Nat) (x2:Int) (w0 wE:World) (LT:List Own) (hS:St w0 wE [bk bp0 #[vI sp0_0,vI sp0_1,vI sp0_2,.bool sp0_3,.bool sp0_4,.bool sp0_5,.bool sp0_6] 107,Own.all LT]) (hZ:∀ w L,St w0 w (Own.all LT::L)→∀ w',Sub w w'→Z w') (hR1:RdZ Z A1 l1) (hL1:l1.length≤c1) (r:Bool×Int×Int×Int×Bool×Bool×Bool×Bool) (h:tc_list.f K sp0_0 sp0_1 sp0_2 sp0_3 sp0_4 sp0_5 sp0_6 l1 x2=some r):Calls Try.prog 48 #[pP bp0 0,.slice A1 l1.length c1,vI x2] wE (tc_list.Post w0 Z bp0 sp0_0 sp0_1 sp0_2 sp0_3 sp0_4 sp0_5 sp0_6 l1 A1 c1 x2 LT r):=(tc_list_all K K).1 Z bp0 sp0_0 sp0_1 sp0_2 sp0_3 sp0_4 sp0_5 sp0_6 l1 A1 c1 x2 w0 wE LT hS hZ hR1 hL1 r h
def tc_stmtAt.f (K : Nat) (sp0_0 : Int) (sp0_1 : Int) (sp0_2 : Int) (sp0_3 : Bool) (sp0_4 : Bool) (sp0_5 : Bool) (sp0_6 : Bool) (x1_0 : Int) (x1_1 : Int) (x1_2_0 : Int) (x1_2_1 : Int) (l1_2_2 : List SExpr) (x1_3_0 : Int) (x1_3_1_0 : Int) (x1_3_1_1 : Int) (l1_3_1_2 : List SExpr) (x1_3_2_0 : Int) (x1_3_2_1 : Int) (l1_3_2_2 : List SExpr) (l1_4 : List SStmt) (l1_5 : List SStmt) (x2 : Int) : Option (Bool × Int × Int × Int × Bool × Bool × Bool × Bool) := ((tc_list.recs K K).2.1) sp0_0 sp0_1 sp0_2 sp0_3 sp0_4 sp0_5 sp0_6 x1_0 x1_1 x1_2_0 x1_2_1 l1_2_2 x1_3_0 x1_3_1_0 x1_3_1_1 l1_3_1_2 x1_3_2_0 x1_3_2_1 l1_3_2_2 l1_4 l1_5 x2
theorem tc_stmtAt_ok (K:Nat) (Z:Zone) (bp0:Nat) (sp0_0 sp0_1 sp0_2:Int) (sp0_3 sp0_4 sp0_5 sp0_6:Bool) (x1_0 x1_1 x1_2_0 x1_2_1:Int) (l1_2_2:List SExpr) (A1_2_2:OA) (c1_2_2:Nat) (x1_3_0 x1_3_1_0 x1_3_1_1:Int) (l1_3_1_2:List SExpr) (A1_3_1_2:OA) (c1_3_1_2:Nat) (x1_3_2_0 x1_3_2_1:Int) (l1_3_2_2:List SExpr) (A1_3_2_2:OA) (c1_3_2_2:Nat) (l1_4:List SStmt) (A1_4:OA) (c1_4:Nat) (l1_5:List SStmt) (A1_5:OA) (c1_5:Nat) (x2:Int) (w0 wE:World) (LT:List Own) (hS:St w0 wE [bk bp0 #[vI sp0_0,vI sp0_1,vI sp0_2,.bool sp0_3,.bool sp0_4,.bool sp0_5,.bool sp0_6] 107,Own.all LT]) (hZ:∀ w L,St w0 w (Own.all LT::L)→∀ w',Sub w w'→Z w') (hR1_2_2:RdZ Z A1_2_2 l1_2_2) (hL1_2_2:l1_2_2.length≤c1_2_2) (hR1_3_1_2:RdZ Z A1_3_1_2 l1_3_1_2) (hL1_3_1_2:l1_3_1_2.length≤c1_3_1_2) (hR1_3_2_2:RdZ Z A1_3_2_2 l1_3_2_2) (hL1_3_2_2:l1_3_2_2.length≤c1_3_2_2) (hR1_4:RdZ Z A1_4 l1_4) (hL1_4:l1_4.length≤c1_4) (hR1_5:RdZ Z A1_5 l1_5) (hL1_5:l1_5.length≤c1_5) (r:Bool×Int×Int×Int×Bool×Bool×Bool×Bool) (h:tc_stmtAt.f K sp0_0 sp0_1 sp0_2 sp0_3 sp0_4 sp0_5 sp0_6 x1_0 x1_1 x1_2_0 x1_2_1 l1_2_2 x1_3_0 x1_3_1_0 x1_3_1_1 l1_3_1_2 x1_3_2_0 x1_3_2_1 l1_3_2_2 l1_4 l1_5 x2=some r):Calls Try.prog 64 #[pP bp0 0,.agg #[vI x1_0,vI x1_1,vI x1_2_0,vI x1_2_1,.slice A1_2_2 l1_2_2.length c1_2_2,vI x1_3_0,vI x1_3_1_0,vI x1_3_1_1,.slice A1_3_1_2 l1_3_1_2.length c1_3_1_2,vI x1_3_2_0,vI x1_3_2_1,.slice A1_3_2_2 l1_3_2_2.length c1_3_2_2,.slice A1_4 l1_4.length c1_4,.slice A1_5 l1_5.length c1_5],vI x2] wE (tc_stmtAt.Post w0 Z bp0 sp0_0 sp0_1 sp0_2 sp0_3 sp0_4 sp0_5 sp0_6 x1_0 x1_1 x1_2_0 x1_2_1 l1_2_2 A1_2_2 c1_2_2 x1_3_0 x1_3_1_0 x1_3_1_1 l1_3_1_2 A1_3_1_2 c1_3_1_2 x1_3_2_0 x1_3_2_1 l1_3_2_2 A1_3_2_2 c1_3_2_2 l1_4 A1_4 c1_4 l1_5 A1_5 c1_5 x2 LT r):=(tc_list_all K K).2.1 Z bp0 sp0_0 sp0_1 sp0_2 sp0_3 sp0_4 sp0_5 sp0_6 x1_0 x1_1 x1_2_0 x1_2_1 l1_2_2 A1_2_2 c1_2_2 x1_3_0 x1_3_1_0 x1_3_1_1 l1_3_1_2 A1_3_1_2 c1_3_1_2 x1_3_2_0 x1_3_2_1 l1_3_2_2 A1_3_2_2 c1_3_2_2 l1_4 A1_4 c1_4 l1_5 A1_5 c1_5 x2 w0 wE LT hS hZ hR1_2_2 hL1_2_2 hR1_3_1_2 hL1_3_1_2 hR1_3_2_2 hL1_3_2_2 hR1_4 hL1_4 hR1_5 hL1_5 r h
def tc_stmt.f (K : Nat) (sp0_0 : Int) (sp0_1 : Int) (sp0_2 : Int) (sp0_3 : Bool) (sp0_4 : Bool) (sp0_5 : Bool) (sp0_6 : Bool) (x1_0 : Int) (x1_1 : Int) (x1_2_0 : Int) (x1_2_1 : Int) (l1_2_2 : List SExpr) (x1_3_0 : Int) (x1_3_1_0 : Int) (x1_3_1_1 : Int) (l1_3_1_2 : List SExpr) (x1_3_2_0 : Int) (x1_3_2_1 : Int) (l1_3_2_2 : List SExpr) (l1_4 : List SStmt) (l1_5 : List SStmt) (x2 : Int) : Option (Bool × Int × Int × Int × Bool × Bool × Bool × Bool) := ((tc_list.recs K K).2.2) sp0_0 sp0_1 sp0_2 sp0_3 sp0_4 sp0_5 sp0_6 x1_0 x1_1 x1_2_0 x1_2_1 l1_2_2 x1_3_0 x1_3_1_0 x1_3_1_1 l1_3_1_2 x1_3_2_0 x1_3_2_1 l1_3_2_2 l1_4 l1_5 x2
theorem tc_stmt_ok (K:Nat) (Z:Zone) (bp0:Nat) (sp0_0 sp0_1 sp0_2:Int) (sp0_3 sp0_4 sp0_5 sp0_6:Bool) (x1_0 x1_1 x1_2_0 x1_2_1:Int) (l1_2_2:List SExpr) (A1_2_2:OA) (c1_2_2:Nat) (x1_3_0 x1_3_1_0 x1_3_1_1:Int) (l1_3_1_2:List SExpr) (A1_3_1_2:OA) (c1_3_1_2:Nat) (x1_3_2_0 x1_3_2_1:Int) (l1_3_2_2:List SExpr) (A1_3_2_2:OA) (c1_3_2_2:Nat) (l1_4:List SStmt) (A1_4:OA) (c1_4:Nat) (l1_5:List SStmt) (A1_5:OA) (c1_5:Nat) (x2:Int) (w0 wE:World) (LT:List Own) (hS:St w0 wE [bk bp0 #[vI sp0_0,vI sp0_1,vI sp0_2,.bool sp0_3,.bool sp0_4,.bool sp0_5,.bool sp0_6] 107,Own.all LT]) (hZ:∀ w L,St w0 w (Own.all LT::L)→∀ w',Sub w w'→Z w') (hR1_2_2:RdZ Z A1_2_2 l1_2_2) (hL1_2_2:l1_2_2.length≤c1_2_2) (hR1_3_1_2:RdZ Z A1_3_1_2 l1_3_1_2) (hL1_3_1_2:l1_3_1_2.length≤c1_3_1_2) (hR1_3_2_2:RdZ Z A1_3_2_2 l1_3_2_2) (hL1_3_2_2:l1_3_2_2.length≤c1_3_2_2) (hR1_4:RdZ Z A1_4 l1_4) (hL1_4:l1_4.length≤c1_4) (hR1_5:RdZ Z A1_5 l1_5) (hL1_5:l1_5.length≤c1_5) (r:Bool×Int×Int×Int×Bool×Bool×Bool×Bool) (h:tc_stmt.f K sp0_0 sp0_1 sp0_2 sp0_3 sp0_4 sp0_5 sp0_6 x1_0 x1_1 x1_2_0 x1_2_1 l1_2_2 x1_3_0 x1_3_1_0 x1_3_1_1 l1_3_1_2 x1_3_2_0 x1_3_2_1 l1_3_2_2 l1_4 l1_5 x2=some r):Calls Try.prog 88 #[pP bp0 0,.agg #[vI x1_0,vI x1_1,vI x1_2_0,vI x1_2_1,.slice A1_2_2 l1_2_2.length c1_2_2,vI x1_3_0,vI x1_3_1_0,vI x1_3_1_1,.slice A1_3_1_2 l1_3_1_2.length c1_3_1_2,vI x1_3_2_0,vI x1_3_2_1,.slice A1_3_2_2 l1_3_2_2.length c1_3_2_2,.slice A1_4 l1_4.length c1_4,.slice A1_5 l1_5.length c1_5],vI x2] wE (tc_stmt.Post w0 Z bp0 sp0_0 sp0_1 sp0_2 sp0_3 sp0_4 sp0_5 sp0_6 x1_0 x1_1 x1_2_0 x1_2_1 l1_2_2 A1_2_2 c1_2_2 x1_3_0 x1_3_1_0 x1_3_1_1 l1_3_1_2 A1_3_1_2 c1_3_1_2 x1_3_2_0 x1_3_2_1 l1_3_2_2 A1_3_2_2 c1_3_2_2 l1_4 A1_4 c1_4 l1_5 A1_5 c1_5 x2 LT r):=(tc_list_all K K).2.2 Z bp0 sp0_0 sp0_1 sp0_2 sp0_3 sp0_4 sp0_5 sp0_6 x1_0 x1_1 x1_2_0 x1_2_1 l1_2_2 A1_2_2 c1_2_2 x1_3_0 x1_3_1_0 x1_3_1_1 l1_3_1_2 A1_3_1_2 c1_3_1_2 x1_3_2_0 x1_3_2_1 l1_3_2_2 A1_3_2_2 c1_3_2_2 l1_4 A1_4 c1_4 l1_5 A1_5 c1_5 x2 w0 wE LT hS hZ hR1_2_2 hL1_2_2 hR1_3_1_2 hL1_3_1_2 hR1_3_2_2 hL1_3_2_2 hR1_4 hL1_4 hR1_5 hL1_5 r h

structure SFault where
 Code:Int
 At:Int
def SFault.eqb (x y : SFault) : Bool := ((x.Code == y.Code) && ((x.At == y.At) && true))
instance : Ok SFault := ⟨fun x => Ok.ok x.Code ∧ Ok.ok x.At ∧ True⟩
instance : Flat SFault := ⟨2, fun x => [vI x.Code, vI x.At], fun _ => rfl, fun _ => rfl, by decide⟩

/-! punctual/tongue.Check -/
abbrev tongue_Check.Post (w0:World) (r:SFault) (e:Ending) (w:World):Prop:=e=.returned (.agg #[vI r.Code,vI r.At])∧St w0 w []
def tongue_Check.f (K : Nat) (l0 : List SStmt) : Option SFault :=
 match tongue_Count.f K l0 with
 | none=>none
 | some r1 =>
  if r1 > 200 then
   some (⟨2,0⟩:SFault)
  else
   match tc_list.f K (-1) 0 0 false false false false l0 0 with
   | none=>none
   | some r2 =>
    some (⟨r2.2.2.1,r2.2.2.2.1⟩:SFault)
theorem tongue_Check_ok (K:Nat) (Z:Zone) (l0:List SStmt) (A0:OA) (c0:Nat) (w0:World) (hZ:∀ w,Sub w0 w→Z w) (hR0:RdZ Z A0 l0) (hL0:l0.length≤c0) (r:SFault) (h:tongue_Check.f K l0=some r) :
  Calls Try.prog 32 #[.slice A0 l0.length c0] w0 (tongue_Check.Post w0 r):=by
 have hS:=St.start w0
 unfold tongue_Check.f at h
 refine calls_enter (n:=17) (args:=[.slice A0 l0.length c0]) (fn:=Try.f32) rfl rfl rfl rfl ?_
 show WE _ _ _ _ [(0,.slice A0 l0.length c0)] _
 refine ws fun K1 hK1=>wr [(0,1)]<|gw (some 2) (.cells #[vI 0,vI 0] 31) (fun b=>pP b 0) hS fun b1 w1 hx1 hS1=>?_
 refine gn hK1<|ws fun K2 hK2=>ws fun K3 hK3=>wr [(0,0),(1,1),(2,0)] ?_
 rcases hq1:tongue_Count.f K l0 with _ | r1
 ·rw [hq1] at h; cases h
 rw [hq1] at h
 simp only [] at h
 refine gb0 [0] [(4,.slice A0 l0.length c0)]<|ge_call (d:=some 5) (f:=47) (args:=#[.slice A0 l0.length c0]) (by kernel_rfl) (tongue_Count_ok K Z l0 A0 c0 _ (fun w' k=>(hZ w' (hS1.subw.trans k))) hR0 hL0 _ hq1) ?_
 rintro _ w2 ⟨rfl,hS2⟩
 refine ⟨_,rfl,hS2.below,?_⟩
 have hS3:=hS1.call hS2
 refine gb0 [2] [(6,.bool (decide (r1 > 200)))]<|gn hK3 ?_
 by_cases hc1:r1 > 200
 ·rw [if_pos hc1] at h
  refine wk 6 (decide (r1 > 200)) true (decide_eq_true hc1)<|wt<|ws fun K4 hK4=>wr [(0,0),(1,2)]<|gb0 [0] [(7,.agg #[vI 2,vI 0])]<|gs b1 0 #[vI 0,vI 0] 31 [vI 2,vI 0] hS3 fun w3 hS4=>?_
  have hS5:=hS4.nc #[vI 2,vI 0] (by kernel_rfl)
  refine gn hK4 ?_
  have hS6:=hS5.takeN 0
  obtain rfl:=si h
  exact we_ret (pr [.cell 2 31] [.agg #[vI 2,vI 0]] [ld b1 0 (vI 2),ld b1 1 (vI 0)] ⟨hS5.c 0,hS5.c 0,trivial⟩ ⟨rfl,hS6⟩)
 rw [if_neg hc1] at h
 refine wk 6 (decide (r1 > 200)) false (decide_eq_false hc1)<|wf<|we_skip fun a hF=>hK2 _ _ ?_ a hF
 refine ws fun K5 hK5=>wr [(0,0),(1,1),(2,0)]<|gb0 [0] [(8,.agg #[vI (-1),vI 0,vI 0,.bool false,.bool false,.bool false,.bool false])]<|gw (some 9) (.cells #[vI (-1),vI 0,vI 0,.bool false,.bool false,.bool false,.bool false] 107) (fun b=>pP b 0) hS3 fun b2 w4 hx2 hS7=>?_
 refine gb0 [2] [(3,pP b2 0)]<|gn hK5<|ws fun K6 hK6=>wr [(0,0),(1,0),(2,2)]<|gb0 [0,1] [(11,.slice A0 l0.length c0),(10,pP b2 0)] ?_
 rcases hq2:tc_list.f K (-1) 0 0 false false false false l0 0 with _ | r2
 ·rw [hq2] at h; cases h
 rw [hq2] at h
 simp only [] at h
 have hS9:=hS7.packN 1
 refine ge_call2 (m:=0) (d:=some 12) (f:=48) (args:=#[pP b2 0,.slice A0 l0.length c0,vI 0]) (by kernel_rfl) (tc_list_ok K Z b2 (-1) 0 0 false false false false l0 A0 c0 0 _ _ _ hS9 (fun w L h w' k=>(hZ w' (h.subw.trans k))) hR0 hL0 _ hq2) ?_
 rintro _ w5 ⟨rfl,hS8⟩
 refine ⟨_,rfl,?_⟩
 have hS10:=hS8.unpack [bk b2 #[vI r2.2.1,vI r2.2.2.1,vI r2.2.2.2.1,.bool r2.2.2.2.2.1,.bool r2.2.2.2.2.2.1,.bool r2.2.2.2.2.2.2.1,.bool r2.2.2.2.2.2.2.2] 107]
 refine gn hK6<|ws fun K7 hK7=>wr [(0,0),(1,0),(2,0),(3,0),(4,2)]<|gb [0,1,2,3] [(16,.agg #[vI r2.2.2.1,vI r2.2.2.2.1]),(15,pP b2 1),(14,pP b2 0),(13,pP b2 0)] [ld b2 1 (vI r2.2.2.1),ld b2 2 (vI r2.2.2.2.1)] ⟨hS10.c 0,hS10.c 0,trivial⟩ ?_
 have hS11:=hS10.b 1
 refine gs b1 0 #[vI 0,vI 0] 31 [vI r2.2.2.1,vI r2.2.2.2.1] hS11 fun w6 hS12=>?_
 have hS13:=hS12.nc #[vI r2.2.2.1,vI r2.2.2.2.1] (by kernel_rfl)
 refine gn hK7 ?_
 have hS14:=hS13.takeN 0
 obtain rfl:=si h
 exact we_ret (pr [.cell 2 31] [.agg #[vI r2.2.2.1,vI r2.2.2.2.1]] [ld b1 0 (vI r2.2.2.1),ld b1 1 (vI r2.2.2.2.1)] ⟨hS13.c 0,hS13.c 0,trivial⟩ ⟨rfl,hS14⟩)

/-! punctual/meaning.sizes -/
abbrev meaning_sizes.Post (w0:World) (r:Bool) (e:Ending) (w:World):Prop:=e=.returned (.bool r)∧St w0 w []
def meaning_sizes.f (l0 : List Int) (l1 : List Int) : Bool :=
 if (l0.length:Int)=8 then
  ((l1.length:Int)==4)
 else
  false
theorem meaning_sizes_ok (l0:List Int) (A0:OA) (c0:Nat) (l1:List Int) (A1:OA) (c1:Nat) (w0:World) (hR0:RdL w0 A0 l0) (hL0:l0.length≤c0) (hR1:RdL w0 A1 l1) (hL1:l1.length≤c1) (r:Bool) (h:meaning_sizes.f l0 l1=r) :
  Calls Try.prog 33 #[.slice A0 l0.length c0,.slice A1 l1.length c1] w0 (meaning_sizes.Post w0 r):=by
 have hS:=St.start w0
 unfold meaning_sizes.f at h
 refine calls_enter (n:=13) (args:=[.slice A0 l0.length c0,.slice A1 l1.length c1]) (fn:=Try.f33) rfl rfl rfl rfl ?_
 show WE _ _ _ _ [(0,.slice A0 l0.length c0),(1,.slice A1 l1.length c1)] _
 refine ws fun K1 hK1=>wr [(0,0)]<|gb0 [0] [(4,.bool false)]<|gn hK1<|ws fun K2 hK2=>wr [(0,0),(1,0),(2,0),(3,0),(4,0),(5,0),(6,0),(7,0),(8,0)]<|gb0 [0,1,2,3] [(8,.bool ((l0.length:Int)==8)),(7,.bool ((l0.length:Int)==8)),(6,vI (l0.length:Int)),(5,.slice A0 l0.length c0)] ?_
 by_cases hc1:(l0.length:Int)=8
 ·rw [if_pos hc1] at h
  refine gk 8 ((l0.length:Int)==8) true (beq_iff_eq.2 hc1)<|gb0 [4,5,6,7,8] [(4,.bool ((l1.length:Int)==4)),(12,.bool ((l1.length:Int)==4)),(11,.bool ((l1.length:Int)==4)),(10,vI (l1.length:Int)),(9,.slice A1 l1.length c1)]<|gn hK2 ?_
  subst h
  exact we_ret (pr0 [.tmp 4] [.bool ((l1.length:Int)==4)] ⟨rfl,hS⟩)
 rw [if_neg hc1] at h
 refine gk 8 ((l0.length:Int)==8) false (beq_eq_false_iff_ne.2 hc1)<|gb0 [4,5,6,7,8] [(4,.bool false),(12,.bool false),(11,undef),(10,undef),(9,undef)]<|gn hK2 ?_
 subst h
 exact we_ret (pr0 [.tmp 4] [.bool false] ⟨rfl,hS⟩)

/-! slices.Clone[[]int,int] -/
abbrev slices_Clone_int_int.Post (w0:World) (r:List Int) (e:Ending) (w:World):Prop:=∃ (v0:Value),e=.returned (v0)∧St w0 w [Own.of v0 3 r]
def slices_Clone_int_int.f (l0 : List Int) : Option (List Int) :=
 if 0+l0.length≤17592186044416 then
  some l0
 else
  none
theorem slices_Clone_int_int_ok (l0:List Int) (A0:OA) (c0:Nat) (w0:World) (hR0:RdL w0 A0 l0) (hL0:l0.length≤c0) (r:List Int) (h:slices_Clone_int_int.f l0=some r) :
  Calls Try.prog 35 #[.slice A0 l0.length c0] w0 (slices_Clone_int_int.Post w0 r):=by
 have hS:=St.start w0
 unfold slices_Clone_int_int.f at h
 rcases A0 with _ | ad
 ·obtain rfl:=RdL.nil_of hR0
  rw [if_pos (by decide)] at h
  refine calls_enter (n:=8) (args:=[.slice none ([]:List Int).length c0]) (fn:=Try.f35) rfl rfl rfl rfl ?_
  show WE _ _ _ _ [(0,.slice none ([]:List Int).length c0)] _
  refine ws fun K1 hK1=>wr [(0,0)]<|gb0 [0] [(2,.slice none 0 0)]<|gn hK1<|ws fun K2 hK2=>ws fun K3 hK3=>wr [(0,0),(1,0)]<|gb0 [0,1] [(4,.bool true),(3,.slice none (([]:List Int).length) c0)]<|gn hK3<|wt<|ws fun K4 hK4=>wr [(0,0)]<|gb0 [0] [(2,.slice none 0 0)]<|gn hK4 ?_
  have hS1:=hS.nil (α:=Int) 3
  obtain rfl:=si h
  exact we_ret (pr0 [.tmp 2] [(.slice none 0 0)] ⟨(.slice none 0 0),rfl,hS1⟩)
 refine calls_enter (n:=8) (args:=[.slice (some ad) l0.length c0]) (fn:=Try.f35) rfl rfl rfl rfl ?_
 show WE _ _ _ _ [(0,.slice (some ad) l0.length c0)] _
 refine ws fun K5 hK5=>wr [(0,0)]<|gb0 [0] [(2,.slice none 0 0)]<|gn hK5<|ws fun K6 hK6=>ws fun K7 hK7=>wr [(0,0),(1,0)]<|gb0 [0,1] [(4,.bool false),(3,.slice (some ad) l0.length c0)]<|gn hK7<|wf<|we_skip fun a hF=>hK6 _ _ ?_ a hF
 refine ws fun K8 hK8=>wr [(0,1),(1,0),(2,2),(3,0)]<|gw (some 5) (.cells #[] 3) (fun b=>.slice (some ⟨b,0,none⟩) 0 0) hS fun b1 w1 hx1 hS2=>?_
 refine gb0 [1] [(6,.slice (some ad) l0.length c0)] ?_
 have hS3:=hS2.asRow (α:=Int) (c:=0) ([]:List Int) (Nat.le_refl _) (by decide) rfl rfl
 by_cases hc1:0+l0.length≤17592186044416
 ·rw [if_pos hc1] at h
  refine ge_appendL (α:=Int) (m:=0) (d:=7) (t:=23) (el:=3) (bytes:=8) (c1:=c0) (A1:=(some ad)) (x:=(.tmp 5)) (y:=(.tmp 6)) (ty:=23) (v:=(.slice (some ⟨b1,0,none⟩) 0 0)) (z:=vI 0) (l:=([]:List Int)) (us:=l0) (by kernel_rfl) (by kernel_rfl) (by kernel_rfl) (by kernel_rfl) (by kernel_rfl) rfl hS3 (hS3.rd hR0) rfl (Nat.mul_le_of_le_div _ _ _ hc1) fun v1 w2 hS4=>?_
  have hS5:St w0 w2 [Own.of v1 3 l0]:=hS4
  refine gb0 [3] [(2,v1)]<|gn hK8 ?_
  obtain rfl:=si h
  exact we_ret (pr0 [.tmp 2] [v1] ⟨v1,rfl,hS5⟩)
 rw [if_neg hc1] at h
 cases h

structure SPut where
 Port:Int
 Value:Int
def SPut.eqb (x y : SPut) : Bool := ((x.Port == y.Port) && ((x.Value == y.Value) && true))
instance : Ok SPut := ⟨fun x => Ok.ok x.Port ∧ Ok.ok x.Value ∧ True⟩
instance : Flat SPut := ⟨2, fun x => [vI x.Port, vI x.Value], fun _ => rfl, fun _ => rfl, by decide⟩

/-! (*punctual/meaning.runner).value -/
abbrev mr_value.Post (w0:World) (Z:Zone) (bp0:Nat) (lp0_0:List Int) (Ap0_0:OA) (cp0_0:Nat) (lp0_1:List SPut) (Ap0_1:OA) (cp0_1:Nat) (sp0_2:Int) (lp0_3:List Int) (Ap0_3:OA) (cp0_3:Nat) (x1_0 x1_1:Int) (l1_2:List SExpr) (A1_2:OA) (c1_2:Nat) (LT:List Own) (r:Int) (e:Ending) (w:World):Prop:=e=.returned (vI r)∧St w0 w [bk bp0 #[(.slice Ap0_0 lp0_0.length cp0_0),(.slice Ap0_1 lp0_1.length cp0_1),vI sp0_2,.slice Ap0_3 lp0_3.length cp0_3] 77,ro Ap0_0 cp0_0 3 lp0_0,ro Ap0_1 cp0_1 42 lp0_1,Own.all LT]
abbrev mr_value.Rec (rec_mr_value:(List Int)→(List SPut)→Int→(List Int)→Int→Int→(List SExpr)→Option Int):Prop:=∀ (Z:Zone) (bp0:Nat) (lp0_0:List Int) (Ap0_0:OA) (cp0_0:Nat) (lp0_1:List SPut) (Ap0_1:OA) (cp0_1:Nat) (sp0_2:Int) (lp0_3:List Int) (Ap0_3:OA) (cp0_3:Nat) (x1_0:Int) (x1_1:Int) (l1_2:List SExpr) (A1_2:OA) (c1_2:Nat) (w0 wE:World) (LT:List Own) (hS:St w0 wE [bk bp0 #[(.slice Ap0_0 lp0_0.length cp0_0),(.slice Ap0_1 lp0_1.length cp0_1),vI sp0_2,.slice Ap0_3 lp0_3.length cp0_3] 77,ro Ap0_0 cp0_0 3 lp0_0,ro Ap0_1 cp0_1 42 lp0_1,Own.all LT]) (hZ:∀ w L,St w0 w (Own.all LT::L)→∀ w',Sub w w'→Z w') (hRp0_3:RdL w0 Ap0_3 lp0_3) (hLp0_3:lp0_3.length≤cp0_3) (hR1_2:RdZ Z A1_2 l1_2) (hL1_2:l1_2.length≤c1_2) (r:Int) (h:rec_mr_value lp0_0 lp0_1 sp0_2 lp0_3 x1_0 x1_1 l1_2=some r),Calls Try.prog 65 #[pP bp0 0,.agg #[vI x1_0,vI x1_1,.slice A1_2 l1_2.length c1_2]] wE (mr_value.Post w0 Z bp0 lp0_0 Ap0_0 cp0_0 lp0_1 Ap0_1 cp0_1 sp0_2 lp0_3 Ap0_3 cp0_3 x1_0 x1_1 l1_2 A1_2 c1_2 LT r)
def mr_value.p0 (lp0_0 : List Int) (lp0_1 : List SPut) (sp0_2 : Int) (lp0_3 : List Int) (l1_2 : List SExpr) (rec_mr_value : (List Int) → (List SPut) → Int → (List Int) → Int → Int → (List SExpr) → Option Int) : Option ((Int × Int) ⊕ Int) :=
  match l1_2[0]? with
  | none=>none
  | some e4 =>
   match l1_2[1]? with
   | none=>none
   | some e5 =>
    match rec_mr_value lp0_0 lp0_1 sp0_2 lp0_3 e4.Kind e4.N e4.A with
    | none=>none
    | some r2 =>
     match rec_mr_value lp0_0 lp0_1 sp0_2 lp0_3 e5.Kind e5.N e5.A with
     | none=>none
     | some r3 =>
      some (.inl (r2,r3))
def mr_value.b (K : Nat) (rec_mr_value : (List Int) → (List SPut) → Int → (List Int) → Int → Int → (List SExpr) → Option Int) (lp0_0 : List Int) (lp0_1 : List SPut) (sp0_2 : Int) (lp0_3 : List Int) (x1_0 : Int) (x1_1 : Int) (l1_2 : List SExpr) : Option Int :=
 if x1_0=1 then
  some x1_1
 else
  if x1_0=2 then
   if 0≤x1_1 then
    match lp0_0[(x1_1).toNat]? with
    | none=>none
    | some e1 =>
     some e1
   else
    none
  else
   if x1_0=3 then
    if 0≤x1_1 then
     match lp0_3[(x1_1).toNat]? with
     | none=>none
     | some e2 =>
      some e2
    else
     none
   else
    if x1_0=4 then
     match l1_2[0]? with
     | none=>none
     | some e3 =>
      match rec_mr_value lp0_0 lp0_1 sp0_2 lp0_3 e3.Kind e3.N e3.A with
      | none=>none
      | some r1 =>
       some (IntKind.i64.wrap (0-r1))
    else
     match mr_value.p0 lp0_0 lp0_1 sp0_2 lp0_3 l1_2 rec_mr_value with
     | none=>none
     | some (.inl (z3,z4)) =>
      if x1_0=5 then
       some (IntKind.i64.wrap (z3+z4))
      else
       if x1_0=6 then
        some (IntKind.i64.wrap (z3-z4))
       else
        some (IntKind.i64.wrap (z3*z4))
     | some (.inr rr1) =>
      some rr1
abbrev mr_value.A0 (w0:World) (bp0:Nat) (lp0_0:List Int) (Ap0_0:OA) (cp0_0:Nat) (lp0_1:List SPut) (Ap0_1:OA) (cp0_1:Nat) (sp0_2:Int) (lp0_3:List Int) (Ap0_3:OA) (cp0_3:Nat) (x1_0 x1_1:Int) (l1_2:List SExpr) (A1_2:OA) (c1_2:Nat) (LT:List Own) (b1:Nat):(Int×Int)→Act→World→Prop:=fun (s:Int×Int) a w=>St w0 w [bk b1 #[vI x1_0,vI x1_1,.slice A1_2 l1_2.length c1_2] 66,bk bp0 #[(.slice Ap0_0 lp0_0.length cp0_0),(.slice Ap0_1 lp0_1.length cp0_1),vI sp0_2,.slice Ap0_3 lp0_3.length cp0_3] 77,ro Ap0_0 cp0_0 3 lp0_0,ro Ap0_1 cp0_1 42 lp0_1,Own.all LT]∧Frm 70 a [(0,pP bp0 0),(3,pP b1 0),(5,vI s.1),(6,vI s.2)]
abbrev mr_value.B0 (w0:World) (Z:Zone) (bp0:Nat) (lp0_0:List Int) (Ap0_0:OA) (cp0_0:Nat) (lp0_1:List SPut) (Ap0_1:OA) (cp0_1:Nat) (sp0_2:Int) (lp0_3:List Int) (Ap0_3:OA) (cp0_3:Nat) (x1_0 x1_1:Int) (l1_2:List SExpr) (A1_2:OA) (c1_2:Nat) (LT:List Own):Int→Exit→Act→World→Prop:=Rets Try.prog Try.f65 (mr_value.Post w0 Z bp0 lp0_0 Ap0_0 cp0_0 lp0_1 Ap0_1 cp0_1 sp0_2 lp0_3 Ap0_3 cp0_3 x1_0 x1_1 l1_2 A1_2 c1_2 LT)
theorem mr_value_p0 (K:Nat) (w0:World) (Z:Zone) (bp0:Nat) (lp0_0:List Int) (Ap0_0:OA) (cp0_0:Nat) (lp0_1:List SPut) (Ap0_1:OA) (cp0_1:Nat) (sp0_2:Int) (lp0_3:List Int) (Ap0_3:OA) (cp0_3:Nat) (x1_0 x1_1:Int) (l1_2:List SExpr) (A1_2:OA) (c1_2:Nat) (LT:List Own) (hZ:∀ w L,St w0 w (Own.all LT::L)→∀ w',Sub w w'→Z w') (hRp0_3:RdL w0 Ap0_3 lp0_3) (hLp0_3:lp0_3.length≤cp0_3) (hR1_2:RdZ Z A1_2 l1_2) (hL1_2:l1_2.length≤c1_2) (rec_mr_value:(List Int)→(List SPut)→Int→(List Int)→Int→Int→(List SExpr)→Option Int) (hr_mr_value:mr_value.Rec rec_mr_value) (b1:Nat) (hc1:¬ (x1_0=1)) (hc2:¬ (x1_0=2)) (hc4:¬ (x1_0=3)) (hc6:¬ (x1_0=4)) (o:(Int×Int) ⊕ Int) (h:mr_value.p0 lp0_0 lp0_1 sp0_2 lp0_3 l1_2 rec_mr_value=some o) (w:World) (hS:St w0 w [bk b1 #[vI x1_0,vI x1_1,.slice A1_2 l1_2.length c1_2] 66,bk bp0 #[(.slice Ap0_0 lp0_0.length cp0_0),(.slice Ap0_1 lp0_1.length cp0_1),vI sp0_2,.slice Ap0_3 lp0_3.length cp0_3] 77,ro Ap0_0 cp0_0 3 lp0_0,ro Ap0_1 cp0_1 42 lp0_1,Own.all LT]) (Q:Exit→Act→World→Prop) (hQ:∀ x a w,Outs (mr_value.A0 w0 bp0 lp0_0 Ap0_0 cp0_0 lp0_1 Ap0_1 cp0_1 sp0_2 lp0_3 Ap0_3 cp0_3 x1_0 x1_1 l1_2 A1_2 c1_2 LT b1) (mr_value.B0 w0 Z bp0 lp0_0 Ap0_0 cp0_0 lp0_1 Ap0_1 cp0_1 sp0_2 lp0_3 Ap0_3 cp0_3 x1_0 x1_1 l1_2 A1_2 c1_2 LT) o x a w→Q x a w):WE Try.prog 70 (subF Try.f65 [1,1,0]) Q [(0,pP bp0 0),(1,.agg #[vI x1_0,vI x1_1,.slice A1_2 l1_2.length c1_2]),(3,pP b1 0),(4,vI 0),(7,pP b1 0),(8,vI x1_0),(9,.bool false),(10,.bool (x1_0==1)),(13,.bool false),(14,.bool (x1_0==2)),(24,.bool false),(25,.bool (x1_0==3)),(34,.bool false),(35,.bool (x1_0==4))] w:=by
 simp only [mr_value.p0] at h
 refine we_orders3 (by kernel_rfl) [(2,[⟨b1,2,none⟩],[3,4,5,11],[]),(4,[⟨blkOf A1_2,offOf A1_2+0*3,none⟩,⟨blkOf A1_2,offOf A1_2+0*3+1,none⟩,⟨blkOf A1_2,offOf A1_2+0*3+2,none⟩],[5,11],[]),(8,[⟨b1,2,none⟩],[9,10,11],[]),(10,[⟨blkOf A1_2,offOf A1_2+1*3,none⟩,⟨blkOf A1_2,offOf A1_2+1*3+1,none⟩,⟨blkOf A1_2,offOf A1_2+1*3+2,none⟩],[],[])] (.vals [0] (.vals [1] (.vals [2] (.vals [3] (.vals [4] (.vals [6] (.vals [7] (.vals [8] (.vals [9] (.vals [10] (.alt 5 2 (.alt 11 2 (.vals [12] (.vals [13] .fin)) .nomore) .nomore))))))))))) (by kernel_rfl) (by kernel_rfl) ?_
 have hS30:=hS.drew
 refine g30 [0,1] [(44,pP b1 2),(43,pP bp0 0)]<|g3 2 [(45,.slice A1_2 l1_2.length c1_2)] [ld b1 2 (.slice A1_2 l1_2.length c1_2)] ⟨hS30.c 0,trivial⟩ ?_
 rcases hx5:l1_2[0]? with _ | e4
 ·rw [hx5] at h; cases h
 rw [hx5] at h
 simp only [] at h
 obtain ⟨An2,cn2,hCs2,hLn2,hRn2⟩:=SExpr.getZ hR1_2 hx5
 refine go3_index (d:=46) (ty:=0) (t:=64) (el:=66) (sz:=3) (m:=l1_2.length) (c:=c1_2) (x:=(.tmp 45)) (y:=(.const (vI 0))) (A:=A1_2) (k':=.i64) (j:=0) (jn:=0) (b0:=blkOf A1_2) (o0:=offOf A1_2) (by kernel_rfl) (by kernel_rfl) (by kernel_rfl) (by kernel_rfl) (by kernel_rfl) (hR1_2.eqSome (hZ _ _ (hS30.bring 4 rfl) _ (Sub.refl _)) (pos_of_get hx5)) rfl (lt_of_get hx5) ?_
 refine g3 4 [(47,.agg #[vI e4.Kind,vI e4.N,.slice An2 e4.A.length cn2])] [.loaded ⟨blkOf A1_2,offOf A1_2+0*3,none⟩ (vI e4.Kind),.loaded ⟨blkOf A1_2,offOf A1_2+0*3+1,none⟩ (vI e4.N),.loaded ⟨blkOf A1_2,offOf A1_2+0*3+2,none⟩ (.slice An2 e4.A.length cn2)] ⟨hCs2 _ (hZ _ _ (hS30.bring 4 rfl) _ (Sub.refl _)) 0 _ rfl,hCs2 _ (hZ _ _ (hS30.bring 4 rfl) _ (Sub.refl _)) 1 _ rfl,hCs2 _ (hZ _ _ (hS30.bring 4 rfl) _ (Sub.refl _)) 2 _ rfl,trivial⟩<|g30 [6,7] [(50,pP b1 2),(49,pP bp0 0)]<|g3 8 [(51,.slice A1_2 l1_2.length c1_2)] [ld b1 2 (.slice A1_2 l1_2.length c1_2)] ⟨hS30.c 0,trivial⟩ ?_
 rcases hx6:l1_2[1]? with _ | e5
 ·rw [hx6] at h; cases h
 rw [hx6] at h
 simp only [] at h
 obtain ⟨An3,cn3,hCs3,hLn3,hRn3⟩:=SExpr.getZ hR1_2 hx6
 refine go3_index (d:=52) (ty:=0) (t:=64) (el:=66) (sz:=3) (m:=l1_2.length) (c:=c1_2) (x:=(.tmp 51)) (y:=(.const (vI 1))) (A:=A1_2) (k':=.i64) (j:=1) (jn:=1) (b0:=blkOf A1_2) (o0:=offOf A1_2) (by kernel_rfl) (by kernel_rfl) (by kernel_rfl) (by kernel_rfl) (by kernel_rfl) (hR1_2.eqSome (hZ _ _ (hS30.bring 4 rfl) _ (Sub.refl _)) (pos_of_get hx6)) rfl (lt_of_get hx6) ?_
 refine g3 10 [(53,.agg #[vI e5.Kind,vI e5.N,.slice An3 e5.A.length cn3])] [.loaded ⟨blkOf A1_2,offOf A1_2+1*3,none⟩ (vI e5.Kind),.loaded ⟨blkOf A1_2,offOf A1_2+1*3+1,none⟩ (vI e5.N),.loaded ⟨blkOf A1_2,offOf A1_2+1*3+2,none⟩ (.slice An3 e5.A.length cn3)] ⟨hCs3 _ (hZ _ _ (hS30.bring 4 rfl) _ (Sub.refl _)) 0 _ rfl,hCs3 _ (hZ _ _ (hS30.bring 4 rfl) _ (Sub.refl _)) 1 _ rfl,hCs3 _ (hZ _ _ (hS30.bring 4 rfl) _ (Sub.refl _)) 2 _ rfl,trivial⟩<|go_alt3 (fun KK hKK=>?_) ?_
 ·rcases hq2:rec_mr_value lp0_0 lp0_1 sp0_2 lp0_3 e4.Kind e4.N e4.A with _ | r2
  ·rw [hq2] at h; cases h
  rw [hq2] at h
  simp only [] at h
  have hS35:=(((hS30.b 3).b 3).b 3).packN 3
  refine ge_call2 (m:=0) (d:=some 48) (f:=65) (args:=#[pP bp0 0,.agg #[vI e4.Kind,vI e4.N,.slice An2 e4.A.length cn2]]) (by kernel_rfl) (hr_mr_value Z bp0 lp0_0 Ap0_0 cp0_0 lp0_1 Ap0_1 cp0_1 sp0_2 lp0_3 Ap0_3 cp0_3 e4.Kind e4.N e4.A An2 cn2 _ _ _ hS35 (fun w L h w' k=>(hZ _ _ (h.spread.bring 1 rfl) w' k)) hRp0_3 hLp0_3 hRn2 hLn2 _ hq2) ?_
  rintro _ w3 ⟨rfl,hS34⟩
  refine ⟨_,rfl,?_⟩
  have hS36:=hS34.unpack [bk bp0 #[(.slice Ap0_0 lp0_0.length cp0_0),(.slice Ap0_1 lp0_1.length cp0_1),vI sp0_2,.slice Ap0_3 lp0_3.length cp0_3] 77,ro Ap0_0 cp0_0 3 lp0_0,ro Ap0_1 cp0_1 42 lp0_1]
  refine ge_nil fun a hF=>hKK _ _ (RS.of2 (l:=[ld b1 2 (.slice A1_2 l1_2.length c1_2),.loaded ⟨blkOf A1_2,offOf A1_2+1*3,none⟩ (vI e5.Kind),.loaded ⟨blkOf A1_2,offOf A1_2+1*3+1,none⟩ (vI e5.N),.loaded ⟨blkOf A1_2,offOf A1_2+1*3+2,none⟩ (.slice An3 e5.A.length cn3)]) (by kernel_rfl) ⟨hS30.c 0,hCs3 _ (hZ _ _ (hS30.bring 4 rfl) _ (Sub.refl _)) 0 _ rfl,hCs3 _ (hZ _ _ (hS30.bring 4 rfl) _ (Sub.refl _)) 1 _ rfl,hCs3 _ (hZ _ _ (hS30.bring 4 rfl) _ (Sub.refl _)) 2 _ rfl,trivial⟩ ⟨hS36.c 3,hCs3 _ (hZ _ _ (hS36.bring 4 rfl) _ (Sub.refl _)) 0 _ rfl,hCs3 _ (hZ _ _ (hS36.bring 4 rfl) _ (Sub.refl _)) 1 _ rfl,hCs3 _ (hZ _ _ (hS36.bring 4 rfl) _ (Sub.refl _)) 2 _ rfl,trivial⟩) ?_ a hF
  refine go_alt3 (fun KK hKK=>?_) ?_
  ·rcases hq3:rec_mr_value lp0_0 lp0_1 sp0_2 lp0_3 e5.Kind e5.N e5.A with _ | r3
   ·rw [hq3] at h; cases h
   rw [hq3] at h
   simp only [] at h
   have hS41:=(((hS36.b 2).b 2).b 2).packN 3
   refine ge_call2 (m:=0) (d:=some 54) (f:=65) (args:=#[pP bp0 0,.agg #[vI e5.Kind,vI e5.N,.slice An3 e5.A.length cn3]]) (by kernel_rfl) (hr_mr_value Z bp0 lp0_0 Ap0_0 cp0_0 lp0_1 Ap0_1 cp0_1 sp0_2 lp0_3 Ap0_3 cp0_3 e5.Kind e5.N e5.A An3 cn3 _ _ _ hS41 (fun w L h w' k=>(hZ _ _ (h.spread.bring 1 rfl) w' k)) hRp0_3 hLp0_3 hRn3 hLn3 _ hq3) ?_
   rintro _ w4 ⟨rfl,hS40⟩
   refine ⟨_,rfl,?_⟩
   have hS42:=hS40.unpack [bk bp0 #[(.slice Ap0_0 lp0_0.length cp0_0),(.slice Ap0_1 lp0_1.length cp0_1),vI sp0_2,.slice Ap0_3 lp0_3.length cp0_3] 77,ro Ap0_0 cp0_0 3 lp0_0,ro Ap0_1 cp0_1 42 lp0_1]
   refine g2 hKK<|g30 [12,13] [(6,vI r3),(5,vI r2)] ?_
   have hS47:=((((hS42.b 4).b 3).b 3).b 3).b 4
   obtain rfl:=si h
   exact go_fin3 fun a hF=>hQ _ _ _ (Outs.again ⟨hS47,hF.weaken ea⟩)
  exact go_nomore3
 exact go_nomore3
theorem mr_value_step (K:Nat) (rec_mr_value:(List Int)→(List SPut)→Int→(List Int)→Int→Int→(List SExpr)→Option Int) (hr_mr_value:mr_value.Rec rec_mr_value) (Z:Zone) (bp0:Nat) (lp0_0:List Int) (Ap0_0:OA) (cp0_0:Nat) (lp0_1:List SPut) (Ap0_1:OA) (cp0_1:Nat) (sp0_2:Int) (lp0_3:List Int) (Ap0_3:OA) (cp0_3:Nat) (x1_0 x1_1:Int) (l1_2:List SExpr) (A1_2:OA) (c1_2:Nat) (w0 wE:World) (LT:List Own) (hS:St w0 wE [bk bp0 #[(.slice Ap0_0 lp0_0.length cp0_0),(.slice Ap0_1 lp0_1.length cp0_1),vI sp0_2,.slice Ap0_3 lp0_3.length cp0_3] 77,ro Ap0_0 cp0_0 3 lp0_0,ro Ap0_1 cp0_1 42 lp0_1,Own.all LT]) (hZ:∀ w L,St w0 w (Own.all LT::L)→∀ w',Sub w w'→Z w') (hRp0_3:RdL w0 Ap0_3 lp0_3) (hLp0_3:lp0_3.length≤cp0_3) (hR1_2:RdZ Z A1_2 l1_2) (hL1_2:l1_2.length≤c1_2) (r:Int) (h:mr_value.b K rec_mr_value lp0_0 lp0_1 sp0_2 lp0_3 x1_0 x1_1 l1_2=some r) :
  Calls Try.prog 65 #[pP bp0 0,.agg #[vI x1_0,vI x1_1,.slice A1_2 l1_2.length c1_2]] wE (mr_value.Post w0 Z bp0 lp0_0 Ap0_0 cp0_0 lp0_1 Ap0_1 cp0_1 sp0_2 lp0_3 Ap0_3 cp0_3 x1_0 x1_1 l1_2 A1_2 c1_2 LT r):=by
 unfold mr_value.b at h
 refine calls_enter (n:=70) (args:=[pP bp0 0,.agg #[vI x1_0,vI x1_1,.slice A1_2 l1_2.length c1_2]]) (fn:=Try.f65) rfl rfl rfl rfl ?_
 show WE _ _ _ _ [(0,pP bp0 0),(1,.agg #[vI x1_0,vI x1_1,.slice A1_2 l1_2.length c1_2])] _
 refine ws fun K1 hK1=>wr [(0,1),(1,0)]<|gw (some 3) (.cells #[vI x1_0,vI x1_1,.slice A1_2 l1_2.length c1_2] 66) (fun b=>pP b 0) hS fun b1 w1 hx1 hS1=>?_
 refine gb0 [1] [(4,vI 0)]<|gn hK1<|ws fun K2 hK2=>ws fun K3 hK3=>wr [(0,0),(1,0)]<|gb [0,1] [(8,vI x1_0),(7,pP b1 0)] [ld b1 0 (vI x1_0)] ⟨hS1.c 0,trivial⟩<|gn hK3<|we_block<|ws fun K4 hK4=>wr [(0,0),(1,0)]<|gb0 [0,1] [(9,.bool (x1_0==1)),(10,.bool (x1_0==1))]<|gn hK4 ?_
 by_cases hc1:x1_0=1
 ·rw [if_pos hc1] at h
  refine wk 9 (x1_0==1) true (beq_iff_eq.2 hc1)<|wt<|ws fun K5 hK5=>wr [(0,0),(1,0),(2,0)]<|gb [0,1,2] [(4,vI x1_1),(12,vI x1_1),(11,pP b1 1)] [ld b1 1 (vI x1_1)] ⟨hS1.c 0,trivial⟩<|gn hK5 ?_
  have hS6:=hS1.p [1,2,3,4] rfl
  obtain rfl:=si h
  exact we_ret (pr0 [.tmp 4] [vI x1_1] ⟨rfl,hS6⟩)
 rw [if_neg hc1] at h
 refine wk 9 (x1_0==1) false (beq_eq_false_iff_ne.2 hc1)<|wf<|ws fun K6 hK6=>wr [(0,0),(1,0)]<|gb0 [0,1] [(13,.bool (x1_0==2)),(14,.bool (x1_0==2))]<|gn hK6 ?_
 by_cases hc2:x1_0=2
 ·rw [if_pos hc2] at h
  refine wk 13 (x1_0==2) true (beq_iff_eq.2 hc2)<|wt<|ws fun K7 hK7=>we_draws (by kernel_rfl) [(0,0),(1,0),(2,0),(3,0),(4,0),(5,0),(6,0),(7,0),(8,0),(9,0)] (by kernel_rfl) ?_
  have hS7:=hS1.drew
  refine gb [0,1,2,3,4,5,6] [(21,vI x1_1),(20,pP b1 1),(19,(.slice Ap0_0 lp0_0.length cp0_0)),(18,pP bp0 0),(17,pP bp0 0),(16,pP bp0 0),(15,pP bp0 0)] [ld bp0 0 ((.slice Ap0_0 lp0_0.length cp0_0)),ld b1 1 (vI x1_1)] ⟨hS7.c 1,hS7.c 0,trivial⟩ ?_
  by_cases hc3:0≤x1_1
  ·rw [if_pos hc3] at h
   rcases hx2:lp0_0[(x1_1).toNat]? with _ | e1
   ·rw [hx2] at h; cases h
   rw [hx2] at h
   simp only [] at h
   refine gi 22 0 23 3 1 lp0_0.length cp0_0 (.tmp 19) (.tmp 21) Ap0_0 .i64 x1_1 ((x1_1).toNat) ((hS7.rdAt 2 rfl).eqSome (pos_of_get hx2)) (Int.toNat_of_nonneg hc3).symm (lt_of_get hx2) ?_
   refine gb [8,9] [(4,vI e1),(23,vI e1)] [.loaded ⟨blkOf Ap0_0,offOf Ap0_0+((x1_1).toNat)*1,none⟩ (vI e1)] ⟨RdL.cell (j:=0) (hS7.rdAt 2 rfl) hx2 rfl,trivial⟩<|gn hK7 ?_
   have hS12:=hS7.p [1,2,3,4] rfl
   obtain rfl:=si h
   exact we_ret (pr0 [.tmp 4] [vI e1] ⟨rfl,hS12⟩)
  rw [if_neg hc3] at h
  cases h
 rw [if_neg hc2] at h
 refine wk 13 (x1_0==2) false (beq_eq_false_iff_ne.2 hc2)<|wf<|ws fun K8 hK8=>wr [(0,0),(1,0)]<|gb0 [0,1] [(24,.bool (x1_0==3)),(25,.bool (x1_0==3))]<|gn hK8 ?_
 by_cases hc4:x1_0=3
 ·rw [if_pos hc4] at h
  refine wk 24 (x1_0==3) true (beq_iff_eq.2 hc4)<|wt<|ws fun K9 hK9=>we_draws (by kernel_rfl) [(0,0),(1,0),(2,0),(3,0),(4,0),(5,0),(6,0),(7,0),(8,0)] (by kernel_rfl) ?_
  have hS13:=hS1.drew
  refine gb [0,1,2,3,4,5] [(31,vI x1_1),(30,pP b1 1),(29,.slice Ap0_3 lp0_3.length cp0_3),(28,pP bp0 3),(27,pP bp0 0),(26,pP bp0 0)] [ld bp0 3 (.slice Ap0_3 lp0_3.length cp0_3),ld b1 1 (vI x1_1)] ⟨hS13.c 1,hS13.c 0,trivial⟩ ?_
  by_cases hc5:0≤x1_1
  ·rw [if_pos hc5] at h
   rcases hx3:lp0_3[(x1_1).toNat]? with _ | e2
   ·rw [hx3] at h; cases h
   rw [hx3] at h
   simp only [] at h
   refine gi 32 0 23 3 1 lp0_3.length cp0_3 (.tmp 29) (.tmp 31) Ap0_3 .i64 x1_1 ((x1_1).toNat) ((hS13.rd hRp0_3).eqSome (pos_of_get hx3)) (Int.toNat_of_nonneg hc5).symm (lt_of_get hx3) ?_
   refine gb [7,8] [(4,vI e2),(33,vI e2)] [.loaded ⟨blkOf Ap0_3,offOf Ap0_3+((x1_1).toNat)*1,none⟩ (vI e2)] ⟨RdL.cell (j:=0) (hS13.rd hRp0_3) hx3 rfl,trivial⟩<|gn hK9 ?_
   have hS18:=hS13.p [1,2,3,4] rfl
   obtain rfl:=si h
   exact we_ret (pr0 [.tmp 4] [vI e2] ⟨rfl,hS18⟩)
  rw [if_neg hc5] at h
  cases h
 rw [if_neg hc4] at h
 refine wk 24 (x1_0==3) false (beq_eq_false_iff_ne.2 hc4)<|wf<|ws fun K10 hK10=>wr [(0,0),(1,0)]<|gb0 [0,1] [(34,.bool (x1_0==4)),(35,.bool (x1_0==4))]<|gn hK10 ?_
 by_cases hc6:x1_0=4
 ·rw [if_pos hc6] at h
  refine wk 34 (x1_0==4) true (beq_iff_eq.2 hc6)<|wt<|ws fun K11 hK11=>wr [(0,0),(1,0),(2,0),(3,0),(4,0),(5,2),(6,0),(7,0)]<|gb [0,1,2] [(38,.slice A1_2 l1_2.length c1_2),(37,pP b1 2),(36,pP bp0 0)] [ld b1 2 (.slice A1_2 l1_2.length c1_2)] ⟨hS1.c 0,trivial⟩ ?_
  rcases hx4:l1_2[0]? with _ | e3
  ·rw [hx4] at h; cases h
  rw [hx4] at h
  simp only [] at h
  obtain ⟨An1,cn1,hCs1,hLn1,hRn1⟩:=SExpr.getZ hR1_2 hx4
  refine gi 39 0 64 66 3 l1_2.length c1_2 (.tmp 38) (.const (vI 0)) A1_2 .i64 0 0 (hR1_2.eqSome (hZ _ _ (hS1.bring 4 rfl) _ (Sub.refl _)) (pos_of_get hx4)) rfl (lt_of_get hx4) ?_
  refine gb [4] [(40,.agg #[vI e3.Kind,vI e3.N,.slice An1 e3.A.length cn1])] [.loaded ⟨blkOf A1_2,offOf A1_2+0*3,none⟩ (vI e3.Kind),.loaded ⟨blkOf A1_2,offOf A1_2+0*3+1,none⟩ (vI e3.N),.loaded ⟨blkOf A1_2,offOf A1_2+0*3+2,none⟩ (.slice An1 e3.A.length cn1)] ⟨hCs1 _ (hZ _ _ (hS1.bring 4 rfl) _ (Sub.refl _)) 0 _ rfl,hCs1 _ (hZ _ _ (hS1.bring 4 rfl) _ (Sub.refl _)) 1 _ rfl,hCs1 _ (hZ _ _ (hS1.bring 4 rfl) _ (Sub.refl _)) 2 _ rfl,trivial⟩ ?_
  rcases hq1:rec_mr_value lp0_0 lp0_1 sp0_2 lp0_3 e3.Kind e3.N e3.A with _ | r1
  ·rw [hq1] at h; cases h
  rw [hq1] at h
  simp only [] at h
  have hS23:=(((hS1.b 3).b 3).b 3).packN 3
  refine ge_call2 (m:=0) (d:=some 41) (f:=65) (args:=#[pP bp0 0,.agg #[vI e3.Kind,vI e3.N,.slice An1 e3.A.length cn1]]) (by kernel_rfl) (hr_mr_value Z bp0 lp0_0 Ap0_0 cp0_0 lp0_1 Ap0_1 cp0_1 sp0_2 lp0_3 Ap0_3 cp0_3 e3.Kind e3.N e3.A An1 cn1 _ _ _ hS23 (fun w L h w' k=>(hZ _ _ (h.spread.bring 1 rfl) w' k)) hRp0_3 hLp0_3 hRn1 hLn1 _ hq1) ?_
  rintro _ w2 ⟨rfl,hS22⟩
  refine ⟨_,rfl,?_⟩
  have hS24:=hS22.unpack [bk bp0 #[(.slice Ap0_0 lp0_0.length cp0_0),(.slice Ap0_1 lp0_1.length cp0_1),vI sp0_2,.slice Ap0_3 lp0_3.length cp0_3] 77,ro Ap0_0 cp0_0 3 lp0_0,ro Ap0_1 cp0_1 42 lp0_1]
  refine gb0 [6,7] [(4,vI (IntKind.i64.wrap (0-r1))),(42,vI (IntKind.i64.wrap (0-r1)))]<|gn hK11 ?_
  have hS29:=hS24.p [0,1,2,4] rfl
  obtain rfl:=si h
  exact we_ret (pr0 [.tmp 4] [vI (IntKind.i64.wrap (0-r1))] ⟨rfl,hS29⟩)
 rw [if_neg hc6] at h
 refine wk 34 (x1_0==4) false (beq_eq_false_iff_ne.2 hc6)<|wf<|we_skip fun a hF=>hK2 _ _ ?_ a hF
 refine ws fun K12 hK12=>?_
 rcases hq4:mr_value.p0 lp0_0 lp0_1 sp0_2 lp0_3 l1_2 rec_mr_value with _ | (⟨z3,z4⟩ | rr1)
 ·rw [hq4] at h; cases h
 ·rw [hq4] at h
  simp only [] at h
  refine kp (mr_value_p0 K w0 Z bp0 lp0_0 Ap0_0 cp0_0 lp0_1 Ap0_1 cp0_1 sp0_2 lp0_3 Ap0_3 cp0_3 x1_0 x1_1 l1_2 A1_2 c1_2 LT hZ hRp0_3 hLp0_3 hR1_2 hL1_2 rec_mr_value hr_mr_value b1 hc1 hc2 hc4 hc6 _ hq4 _ hS1 _ ?_)
  rintro _ a w5 ⟨rfl,hS48,hF⟩
  replace hS48:St w0 w5 [bk b1 #[vI x1_0,vI x1_1,.slice A1_2 l1_2.length c1_2] 66,bk bp0 #[(.slice Ap0_0 lp0_0.length cp0_0),(.slice Ap0_1 lp0_1.length cp0_1),vI sp0_2,.slice Ap0_3 lp0_3.length cp0_3] 77,ro Ap0_0 cp0_0 3 lp0_0,ro Ap0_1 cp0_1 42 lp0_1,Own.all LT]:=hS48
  refine hK12 [(0,pP bp0 0),(3,pP b1 0),(5,vI z3),(6,vI z4)] w5 ?_ a hF
  refine ws fun K13 hK13=>ws fun K14 hK14=>wr [(0,0),(1,0)]<|gb [0,1] [(56,vI x1_0),(55,pP b1 0)] [ld b1 0 (vI x1_0)] ⟨hS48.c 0,trivial⟩<|gn hK14<|we_block<|ws fun K15 hK15=>wr [(0,0),(1,0)]<|gb0 [0,1] [(57,.bool (x1_0==5)),(58,.bool (x1_0==5))]<|gn hK15 ?_
  by_cases hc7:x1_0=5
  ·rw [if_pos hc7] at h
   refine wk 57 (x1_0==5) true (beq_iff_eq.2 hc7)<|wt<|ws fun K16 hK16=>wr [(0,0),(1,0),(2,0),(3,0)]<|gb0 [0,1,2,3] [(4,vI (IntKind.i64.wrap (z3+z4))),(61,vI (IntKind.i64.wrap (z3+z4))),(60,vI z4),(59,vI z3)]<|gn hK16 ?_
   have hS53:=hS48.p [1,2,3,4] rfl
   obtain rfl:=si h
   exact we_ret (pr0 [.tmp 4] [vI (IntKind.i64.wrap (z3+z4))] ⟨rfl,hS53⟩)
  rw [if_neg hc7] at h
  refine wk 57 (x1_0==5) false (beq_eq_false_iff_ne.2 hc7)<|wf<|ws fun K17 hK17=>wr [(0,0),(1,0)]<|gb0 [0,1] [(62,.bool (x1_0==6)),(63,.bool (x1_0==6))]<|gn hK17 ?_
  by_cases hc8:x1_0=6
  ·rw [if_pos hc8] at h
   refine wk 62 (x1_0==6) true (beq_iff_eq.2 hc8)<|wt<|ws fun K18 hK18=>wr [(0,0),(1,0),(2,0),(3,0)]<|gb0 [0,1,2,3] [(4,vI (IntKind.i64.wrap (z3-z4))),(66,vI (IntKind.i64.wrap (z3-z4))),(65,vI z4),(64,vI z3)]<|gn hK18 ?_
   have hS58:=hS48.p [1,2,3,4] rfl
   obtain rfl:=si h
   exact we_ret (pr0 [.tmp 4] [vI (IntKind.i64.wrap (z3-z4))] ⟨rfl,hS58⟩)
  rw [if_neg hc8] at h
  refine wk 62 (x1_0==6) false (beq_eq_false_iff_ne.2 hc8)<|wf<|we_skip fun a hF=>hK13 _ _ ?_ a hF
  refine ws fun K19 hK19=>wr [(0,0),(1,0),(2,0),(3,0)]<|gb0 [0,1,2,3] [(4,vI (IntKind.i64.wrap (z3*z4))),(69,vI (IntKind.i64.wrap (z3*z4))),(68,vI z4),(67,vI z3)]<|gn hK19 ?_
  have hS63:=hS48.p [1,2,3,4] rfl
  obtain rfl:=si h
  exact we_ret (pr0 [.tmp 4] [vI (IntKind.i64.wrap (z3*z4))] ⟨rfl,hS63⟩)
 rw [hq4] at h
 simp only [] at h
 refine kp (mr_value_p0 K w0 Z bp0 lp0_0 Ap0_0 cp0_0 lp0_1 Ap0_1 cp0_1 sp0_2 lp0_3 Ap0_3 cp0_3 x1_0 x1_1 l1_2 A1_2 c1_2 LT hZ hRp0_3 hLp0_3 hR1_2 hL1_2 rec_mr_value hr_mr_value b1 hc1 hc2 hc4 hc6 _ hq4 _ hS1 _ ?_)
 rintro _ a w1 ⟨_,rfl,hb⟩
 obtain rfl:=si h
 exact hb
def mr_value.recs (K : Nat) : Nat → ((List Int) → (List SPut) → Int → (List Int) → Int → Int → (List SExpr) → Option Int)
 | 0=>fun _ _ _ _ _ _ _=>none
 | n+1=>mr_value.b K (mr_value.recs K n)
theorem mr_value_all (K n:Nat):mr_value.Rec (mr_value.recs K n):=by
 induction n with
 | zero=>exact (by unfold mr_value.Rec; intros; rename_i h; cases (show none=some _ from h))
 | succ n ih=>exact mr_value_step K _ ih
def mr_value.f (K : Nat) (lp0_0 : List Int) (lp0_1 : List SPut) (sp0_2 : Int) (lp0_3 : List Int) (x1_0 : Int) (x1_1 : Int) (l1_2 : List SExpr) : Option Int := (mr_value.recs K K) lp0_0 lp0_1 sp0_2 lp0_3 x1_0 x1_1 l1_2
theorem mr_value_ok (K:Nat) (Z:Zone) (bp0:Nat) (lp0_0:List Int) (Ap0_0:OA) (cp0_0:Nat) (lp0_1:List SPut) (Ap0_1:OA) (cp0_1:Nat) (sp0_2:Int) (lp0_3:List Int) (Ap0_3:OA) (cp0_3:Nat) (x1_0 x1_1:Int) (l1_2:List SExpr) (A1_2:OA) (c1_2:Nat) (w0 wE:World) (LT:List Own) (hS:St w0 wE [bk bp0 #[(.slice Ap0_0 lp0_0.length cp0_0),(.slice Ap0_1 lp0_1.length cp0_1),vI sp0_2,.slice Ap0_3 lp0_3.length cp0_3] 77,ro Ap0_0 cp0_0 3 lp0_0,ro Ap0_1 cp0_1 42 lp0_1,Own.all LT]) (hZ:∀ w L,St w0 w (Own.all LT::L)→∀ w',Sub w w'→Z w') (hRp0_3:RdL w0 Ap0_3 lp0_3) (hLp0_3:lp0_3.length≤cp0_3) (hR1_2:RdZ Z A1_2 l1_2) (hL1_2:l1_2.length≤c1_2) (r:Int) (h:mr_value.f K lp0_0 lp0_1 sp0_2 lp0_3 x1_0 x1_1 l1_2=some r):Calls Try.prog 65 #[pP bp0 0,.agg #[vI x1_0,vI x1_1,.slice A1_2 l1_2.length c1_2]] wE (mr_value.Post w0 Z bp0 lp0_0 Ap0_0 cp0_0 lp0_1 Ap0_1 cp0_1 sp0_2 lp0_3 Ap0_3 cp0_3 x1_0 x1_1 l1_2 A1_2 c1_2 LT r):=(mr_value_all K K) Z bp0 lp0_0 Ap0_0 cp0_0 lp0_1 Ap0_1 cp0_1 sp0_2 lp0_3 Ap0_3 cp0_3 x1_0 x1_1 l1_2 A1_2 c1_2 w0 wE LT hS hZ hRp0_3 hLp0_3 hR1_2 hL1_2 r h
end Go.Proofs.Ytcjphfmmmlgcbaa.GV
