/- Walks of single functions, written by a program of this work. -/
import Derived.Test.YtcjphfmmmlgcbaaGWMeaningRuns3
namespace Go.Proofs.Ytcjphfmmmlgcbaa.GV
open Go Go.RowKit
set_option linter.unusedVariables false
set_option linter.unusedSimpArgs false
set_option maxRecDepth 100000

/-! punctual/punctuallaw.claims -/
abbrev claims.Post (w0:World) (r:Bool) (e:Ending) (w:World):Prop:=e=.returned (.bool r)∧St w0 w []
def claims.f (K : Nat) (l0 : List SStmt) : Option Bool :=
 match ps_Deep.f K l0 with
 | none=>none
 | some r1 =>
  if r1≤300 then
   match pr_Size.f K l0 with
   | none=>none
   | some r2 =>
    some (decide (r2≤2000))
  else
   some false
theorem claims_ok (K:Nat) (Z:Zone) (l0:List SStmt) (A0:OA) (c0:Nat) (w0:World) (hZ:∀ w,Sub w0 w→Z w) (hR0:RdZ Z A0 l0) (hL0:l0.length≤c0) (r:Bool) (h:claims.f K l0=some r) :
  Calls Try.prog 7 #[.slice A0 l0.length c0] w0 (claims.Post w0 r):=by
 have hS:=St.start w0
 unfold claims.f at h
 refine calls_enter (n:=11) (args:=[.slice A0 l0.length c0]) (fn:=Try.f7) rfl rfl rfl rfl ?_
 show WE _ _ _ _ [(0,.slice A0 l0.length c0)] _
 refine ws fun K1 hK1=>wr [(0,0)]<|gb0 [0] [(2,.bool false)]<|gn hK1<|ws fun K2 hK2=>wr [(0,0),(1,1),(2,0),(3,0),(4,0),(5,1),(6,0),(7,0),(8,0)] ?_
 rcases hq1:ps_Deep.f K l0 with _ | r1
 ·rw [hq1] at h; cases h
 rw [hq1] at h
 simp only [] at h
 refine gb0 [0] [(3,.slice A0 l0.length c0)]<|ge_call (d:=some 4) (f:=27) (args:=#[.slice A0 l0.length c0]) (by kernel_rfl) (ps_Deep_ok K Z l0 A0 c0 _ (fun w' k=>(hZ w' (hS.subw.trans k))) hR0 hL0 _ hq1) ?_
 rintro _ w1 ⟨rfl,hS1⟩
 refine ⟨_,rfl,hS1.below,?_⟩
 have hS2:=hS.call hS1
 refine gb0 [2,3] [(6,.bool (decide (r1≤300))),(5,.bool (decide (r1≤300)))] ?_
 by_cases hc1:r1≤300
 ·rw [if_pos hc1] at h
  refine gk 6 (decide (r1≤300)) true (decide_eq_true hc1) ?_
  rcases hq2:pr_Size.f K l0 with _ | r2
  ·rw [hq2] at h; cases h
  rw [hq2] at h
  simp only [] at h
  refine gb0 [4] [(7,.slice A0 l0.length c0)]<|ge_call (d:=some 8) (f:=17) (args:=#[.slice A0 l0.length c0]) (by kernel_rfl) (pr_Size_ok K Z l0 A0 c0 _ (fun w' k=>(hZ w' (hS2.subw.trans k))) hR0 hL0 _ hq2) ?_
  rintro _ w2 ⟨rfl,hS3⟩
  refine ⟨_,rfl,hS3.below,?_⟩
  have hS4:=hS2.call hS3
  refine gb0 [6,7,8] [(2,.bool (decide (r2≤2000))),(10,.bool (decide (r2≤2000))),(9,.bool (decide (r2≤2000)))]<|gn hK2 ?_
  obtain rfl:=si h
  exact we_ret (pr0 [.tmp 2] [.bool (decide (r2≤2000))] ⟨rfl,hS4⟩)
 rw [if_neg hc1] at h
 refine gk 6 (decide (r1≤300)) false (decide_eq_false hc1)<|gb0 [4] [(7,undef)]<|ge_off rfl rfl rfl (by kernel_rfl) ?_
 refine gb0 [6,7,8] [(2,.bool false),(10,.bool false),(9,undef)]<|gn hK2 ?_
 obtain rfl:=si h
 exact we_ret (pr0 [.tmp 2] [.bool false] ⟨rfl,hS2⟩)

/-! punctual/punctualref.F -/
abbrev pr_F.Post (w0:World) (r:SFault) (e:Ending) (w:World):Prop:=e=.returned (.agg #[vI r.Code,vI r.At])∧St w0 w []
def pr_F.f (x0 : Int) (x1 : Int) : SFault :=
 (⟨x0,x1⟩:SFault)
theorem pr_F_ok (x0 x1:Int) (w0:World) (r:SFault) (h:pr_F.f x0 x1=r) :
  Calls Try.prog 29 #[vI x0,vI x1] w0 (pr_F.Post w0 r):=by
 have hS:=St.start w0
 unfold pr_F.f at h
 refine calls_enter (n:=8) (args:=[vI x0,vI x1]) (fn:=Try.f29) rfl rfl rfl rfl ?_
 show WE _ _ _ _ [(0,vI x0),(1,vI x1)] _
 refine ws fun K1 hK1=>wr [(0,1)]<|gw (some 4) (.cells #[vI 0,vI 0] 31) (fun b=>pP b 0) hS fun b1 w1 hx1 hS1=>?_
 refine gn hK1<|ws fun K2 hK2=>wr [(0,0),(1,0),(2,0),(3,2)]<|gb0 [0,1,2] [(7,.agg #[vI x0,vI x1]),(6,vI x1),(5,vI x0)]<|gs b1 0 #[vI 0,vI 0] 31 [vI x0,vI x1] hS1 fun w2 hS2=>?_
 have hS3:=hS2.nc #[vI x0,vI x1] (by kernel_rfl)
 refine gn hK2 ?_
 have hS4:=hS3.takeN 0
 subst h
 exact we_ret (pr [.cell 4 31] [.agg #[vI x0,vI x1]] [ld b1 0 (vI x0),ld b1 1 (vI x1)] ⟨hS3.c 0,hS3.c 0,trivial⟩ ⟨rfl,hS4⟩)

structure Sstatement where
 s:SStmt
 deep:Int
 locks:List Int

structure Hstatement where
 f0:Int
 f1:Int
 f2:Int
 f3:Int
 f4:Hdr
 f5:Int
 f6:Int
 f7:Int
 f8:Hdr
 f9:Int
 f10:Int
 f11:Hdr
 f12:Hdr
 f13:Hdr
 f14:Int
 f15:Hdr
instance : Flat Hstatement := ⟨16, fun x => [vI x.f0, vI x.f1, vI x.f2, vI x.f3, .slice x.f4.A x.f4.n x.f4.c, vI x.f5, vI x.f6, vI x.f7, .slice x.f8.A x.f8.n x.f8.c, vI x.f9, vI x.f10, .slice x.f11.A x.f11.n x.f11.c, .slice x.f12.A x.f12.n x.f12.c, .slice x.f13.A x.f13.n x.f13.c, vI x.f14, .slice x.f15.A x.f15.n x.f15.c], fun _ => rfl, fun _ => rfl, by decide⟩
def Rstatement (Z : Zone) (h : Hstatement) (x : Sstatement) : Prop := h.f0 = x.s.Kind ∧ h.f1 = x.s.N ∧ h.f2 = x.s.E.Kind ∧ h.f3 = x.s.E.N ∧ (h.f4.n = x.s.E.A.length ∧ x.s.E.A.length ≤ h.f4.c ∧ RdZ Z h.f4.A x.s.E.A) ∧ h.f5 = x.s.If.Kind ∧ h.f6 = x.s.If.A.Kind ∧ h.f7 = x.s.If.A.N ∧ (h.f8.n = x.s.If.A.A.length ∧ x.s.If.A.A.length ≤ h.f8.c ∧ RdZ Z h.f8.A x.s.If.A.A) ∧ h.f9 = x.s.If.B.Kind ∧ h.f10 = x.s.If.B.N ∧ (h.f11.n = x.s.If.B.A.length ∧ x.s.If.B.A.length ≤ h.f11.c ∧ RdZ Z h.f11.A x.s.If.B.A) ∧ (h.f12.n = x.s.Body.length ∧ x.s.Body.length ≤ h.f12.c ∧ RdZ Z h.f12.A x.s.Body) ∧ (h.f13.n = x.s.Else.length ∧ x.s.Else.length ≤ h.f13.c ∧ RdZ Z h.f13.A x.s.Else) ∧ h.f14 = x.deep ∧ (h.f15.n = x.locks.length ∧ x.locks.length ≤ h.f15.c ∧ RdF Z h.f15.A x.locks) ∧ True
theorem Rstatement.up  {Z Z':Zone} {h:Hstatement} {x:Sstatement} (k:ZLe Z Z') (r:Rstatement Z h x):Rstatement Z' h x:=by
 obtain ⟨e0,e1,e2,e3,⟨q4,k4,r4⟩,e5,e6,e7,⟨q8,k8,r8⟩,e9,e10,⟨q11,k11,r11⟩,⟨q12,k12,r12⟩,⟨q13,k13,r13⟩,e14,⟨q15,k15,r15⟩,_⟩:=r
 exact ⟨e0,e1,e2,e3,⟨q4,k4,r4.up k⟩,e5,e6,e7,⟨q8,k8,r8.up k⟩,e9,e10,⟨q11,k11,r11.up k⟩,⟨q12,k12,r12.up k⟩,⟨q13,k13,r13.up k⟩,e14,⟨q15,k15,r15.up k⟩,trivial⟩
instance : DRep Sstatement := ⟨Hstatement, inferInstance, Rstatement, fun k r => Rstatement.up k r⟩
theorem Sstatement.getZ  {Z:Zone} {A:Option Addr} {l:List Sstatement} (h:RdZ Z A l) {k:Nat} {x:Sstatement} (hx:l[k]?=some x):∃ (A4:OA) (c4:Nat) (A8:OA) (c8:Nat) (A11:OA) (c11:Nat) (A12:OA) (c12:Nat) (A13:OA) (c13:Nat) (A15:OA) (c15:Nat),CellsAt Z A (k*16) [vI x.s.Kind,vI x.s.N,vI x.s.E.Kind,vI x.s.E.N,.slice A4 x.s.E.A.length c4,vI x.s.If.Kind,vI x.s.If.A.Kind,vI x.s.If.A.N,.slice A8 x.s.If.A.A.length c8,vI x.s.If.B.Kind,vI x.s.If.B.N,.slice A11 x.s.If.B.A.length c11,.slice A12 x.s.Body.length c12,.slice A13 x.s.Else.length c13,vI x.deep,.slice A15 x.locks.length c15]∧x.s.E.A.length≤c4∧RdZ Z A4 x.s.E.A∧x.s.If.A.A.length≤c8∧RdZ Z A8 x.s.If.A.A∧x.s.If.B.A.length≤c11∧RdZ Z A11 x.s.If.B.A∧x.s.Body.length≤c12∧RdZ Z A12 x.s.Body∧x.s.Else.length≤c13∧RdZ Z A13 x.s.Else∧x.locks.length≤c15∧RdF Z A15 x.locks:=by
 obtain ⟨(y:Hstatement),r,hc⟩:=h.get hx
 have r':Rstatement Z y x:=r
 have hc':CellsAt Z A (k*16) [vI y.f0,vI y.f1,vI y.f2,vI y.f3,.slice y.f4.A y.f4.n y.f4.c,vI y.f5,vI y.f6,vI y.f7,.slice y.f8.A y.f8.n y.f8.c,vI y.f9,vI y.f10,.slice y.f11.A y.f11.n y.f11.c,.slice y.f12.A y.f12.n y.f12.c,.slice y.f13.A y.f13.n y.f13.c,vI y.f14,.slice y.f15.A y.f15.n y.f15.c]:=hc
 obtain ⟨e0,e1,e2,e3,⟨q4,k4,r4⟩,e5,e6,e7,⟨q8,k8,r8⟩,e9,e10,⟨q11,k11,r11⟩,⟨q12,k12,r12⟩,⟨q13,k13,r13⟩,e14,⟨q15,k15,r15⟩,_⟩:=r'
 rw [e0,e1,e2,e3,q4,e5,e6,e7,q8,e9,e10,q11,q12,q13,e14,q15] at hc'
 exact ⟨y.f4.A,y.f4.c,y.f8.A,y.f8.c,y.f11.A,y.f11.c,y.f12.A,y.f12.c,y.f13.A,y.f13.c,y.f15.A,y.f15.c,hc',k4,r4,k8,r8,k11,r11,k12,r12,k13,r13,k15,r15⟩
instance : Ok Sstatement := ⟨fun x => Ok.ok x.s.Kind ∧ Ok.ok x.s.N ∧ Ok.ok x.s.E.Kind ∧ Ok.ok x.s.E.N ∧ (x.s.E.A.length * 40 ≤ 140737488351232 ∧ ∀ z ∈ x.s.E.A, Ok.ok z) ∧ Ok.ok x.s.If.Kind ∧ Ok.ok x.s.If.A.Kind ∧ Ok.ok x.s.If.A.N ∧ (x.s.If.A.A.length * 40 ≤ 140737488351232 ∧ ∀ z ∈ x.s.If.A.A, Ok.ok z) ∧ Ok.ok x.s.If.B.Kind ∧ Ok.ok x.s.If.B.N ∧ (x.s.If.B.A.length * 40 ≤ 140737488351232 ∧ ∀ z ∈ x.s.If.B.A, Ok.ok z) ∧ (x.s.Body.length * 192 ≤ 140737488351232 ∧ ∀ z ∈ x.s.Body, Ok.ok z) ∧ (x.s.Else.length * 192 ≤ 140737488351232 ∧ ∀ z ∈ x.s.Else, Ok.ok z) ∧ Ok.ok x.deep ∧ (x.locks.length * 8 ≤ 140737488351232 ∧ ∀ z ∈ x.locks, Ok.ok z) ∧ True⟩
theorem Sstatement.mkZ  {Z:Zone} (x:Sstatement) {A4:Option Addr} {c4:Nat} {A8:Option Addr} {c8:Nat} {A11:Option Addr} {c11:Nat} {A12:Option Addr} {c12:Nat} {A13:Option Addr} {c13:Nat} {A15:Option Addr} {c15:Nat} (k4:x.s.E.A.length≤c4) (r4:RdZ Z A4 x.s.E.A) (k8:x.s.If.A.A.length≤c8) (r8:RdZ Z A8 x.s.If.A.A) (k11:x.s.If.B.A.length≤c11) (r11:RdZ Z A11 x.s.If.B.A) (k12:x.s.Body.length≤c12) (r12:RdZ Z A12 x.s.Body) (k13:x.s.Else.length≤c13) (r13:RdZ Z A13 x.s.Else) (k15:x.locks.length≤c15) (r15:RdF Z A15 x.locks):DRep.rel (α:=Sstatement) Z (⟨x.s.Kind,x.s.N,x.s.E.Kind,x.s.E.N,⟨A4,x.s.E.A.length,c4⟩,x.s.If.Kind,x.s.If.A.Kind,x.s.If.A.N,⟨A8,x.s.If.A.A.length,c8⟩,x.s.If.B.Kind,x.s.If.B.N,⟨A11,x.s.If.B.A.length,c11⟩,⟨A12,x.s.Body.length,c12⟩,⟨A13,x.s.Else.length,c13⟩,x.deep,⟨A15,x.locks.length,c15⟩⟩:Hstatement) x:=by
 exact ⟨rfl,rfl,rfl,rfl,⟨rfl,k4,r4⟩,rfl,rfl,rfl,⟨rfl,k8,r8⟩,rfl,rfl,⟨rfl,k11,r11⟩,⟨rfl,k12,r12⟩,⟨rfl,k13,r13⟩,rfl,⟨rfl,k15,r15⟩,trivial⟩
mutual
def Sstatement.blk : Sstatement → Nat
 | ⟨⟨_,_,⟨_,_,a4⟩,⟨_,⟨_,_,a8⟩,⟨_,_,a11⟩⟩,a12,a13⟩,_,a15⟩=>1+SExpr.blkL a4+SExpr.blkL a8+SExpr.blkL a11+SStmt.blkL a12+SStmt.blkL a13+a15.length
def Sstatement.blkL : List Sstatement → Nat
 | []=>0
 | x::l=>x.blk+Sstatement.blkL l
end
theorem Sstatement.blkL_sum:∀ l:List Sstatement,Sstatement.blkL l=(l.map Sstatement.blk).sum
 | []=>by simp [Sstatement.blkL]
 | x::l=>by simp [Sstatement.blkL,Sstatement.blkL_sum l]

/-! punctual/punctualref.Flat -/
abbrev pr_Flat.Post (w0:World) (Z:Zone) (r:List Sstatement) (e:Ending) (w:World):Prop:=∃ (v1:Value) (hds1:List Hstatement) (ft:List Nat) (wf:World),e=.returned (v1)∧DRows (Zand Z wf) hds1 r∧St w0 w [Own.of v1 101 hds1,Own.frz ft wf]
abbrev pr_Flat.Rec (rec_pr_Flat:(List SStmt)→Int→(List Int)→Int→Option (List Sstatement)):Prop:=∀ (Z:Zone) (l0:List SStmt) (A0:OA) (c0:Nat) (x1:Int) (l2:List Int) (A2:OA) (c2:Nat) (x3:Int) (w0:World) (hZ:∀ w,Sub w0 w→Z w) (hR0:RdZ Z A0 l0) (hL0:l0.length≤c0) (hR2:RdF Z A2 l2) (hL2:l2.length≤c2) (r:List Sstatement) (h:rec_pr_Flat l0 x1 l2 x3=some r),Calls Try.prog 44 #[.slice A0 l0.length c0,vI x1,.slice A2 l2.length c2,vI x3] w0 (pr_Flat.Post w0 Z r)
def pr_Flat.p1 (l2 : List Int) (e1 : SStmt) : Option ((List Int) ⊕ (List Sstatement)) :=
  if e1.Kind=6 then
   if 0+l2.length≤17592186044416 then
    if l2.length<17592186044416 then
     some (.inl (l2++[e1.N]))
    else
     none
   else
    none
  else
   some (.inl l2)
def pr_Flat.r0 (l0 : List SStmt) (x1 : Int) (l2 : List Int) (x3 : Int) (rec_pr_Flat : (List SStmt) → Int → (List Int) → Int → Option (List Sstatement)) : (List Sstatement) × Nat → Option (((List Sstatement) × Nat) ⊕ ((List Sstatement) ⊕ (List Sstatement)))
 | (m1,i1) =>
  if (i1:Int)<(l0.length:Int) then
   match l0[i1]? with
   | none=>none
   | some e1 =>
    if (m1.length:Int) > x3 then
     some (.inr (.inr m1))
    else
     if m1.length<628292358729 then
      match pr_Flat.p1 l2 e1 with
      | none=>none
      | some (.inl m4) =>
       match rec_pr_Flat e1.Body (IntKind.i64.wrap (x1+1)) m4 x3 with
       | none=>none
       | some r1 =>
        if (m1++[(⟨e1,x1,l2⟩:Sstatement)]).length+r1.length≤628292358729 then
         match rec_pr_Flat e1.Else (IntKind.i64.wrap (x1+1)) m4 x3 with
         | none=>none
         | some r2 =>
          if ((m1++[(⟨e1,x1,l2⟩:Sstatement)])++r1).length+r2.length≤628292358729 then
           some (.inl ((((m1++[(⟨e1,x1,l2⟩:Sstatement)])++r1)++r2),(i1+1)))
          else
           none
        else
         none
      | some (.inr rr1) =>
       some (.inr (.inr rr1))
     else
      none
  else
   some (.inr (.inl m1))
def pr_Flat.b (K : Nat) (rec_pr_Flat : (List SStmt) → Int → (List Int) → Int → Option (List Sstatement)) (l0 : List SStmt) (x1 : Int) (l2 : List Int) (x3 : Int) : Option (List Sstatement) :=
 match iter (pr_Flat.r0 l0 x1 l2 x3 rec_pr_Flat) K (([]:List Sstatement),0) with
 | none=>none
 | some (.inl m5) =>
  some m5
 | some (.inr rr2) =>
  some rr2
abbrev pr_Flat.A1 (w0:World) (Z:Zone) (l0:List SStmt) (A0:OA) (c0:Nat) (x1:Int) (l2:List Int) (A2:OA) (c2:Nat) (x3:Int) (wf2:World) (hds1:List Hstatement) (i1:Nat) (e1:SStmt) (An1:OA) (cn1:Nat) (An2:OA) (cn2:Nat) (An3:OA) (cn3:Nat) (An4:OA) (cn4:Nat) (An5:OA) (cn5 b1:Nat) (v3:Value):(List Int)→Act→World→Prop:=fun (s:(List Int)) a w=>∃ (ft4:List Nat) (wf4:World) (Z2:OA) (cz2:Nat),Sub wf2 wf4∧RdF (Zand Z wf4) Z2 s∧s.length≤cz2∧St w0 w [bk b1 #[vI e1.Kind,vI e1.N,vI e1.E.Kind,vI e1.E.N,.slice An1 e1.E.A.length cn1,vI e1.If.Kind,vI e1.If.A.Kind,vI e1.If.A.N,.slice An2 e1.If.A.A.length cn2,vI e1.If.B.Kind,vI e1.If.B.N,.slice An3 e1.If.B.A.length cn3,.slice An4 e1.Body.length cn4,.slice An5 e1.Else.length cn5] 70,Own.of v3 101 (hds1++[(⟨e1.Kind,e1.N,e1.E.Kind,e1.E.N,⟨An1,e1.E.A.length,cn1⟩,e1.If.Kind,e1.If.A.Kind,e1.If.A.N,⟨An2,e1.If.A.A.length,cn2⟩,e1.If.B.Kind,e1.If.B.N,⟨An3,e1.If.B.A.length,cn3⟩,⟨An4,e1.Body.length,cn4⟩,⟨An5,e1.Else.length,cn5⟩,x1,⟨A2,l2.length,c2⟩⟩:Hstatement)]),Own.frz ft4 wf4]∧Frm 62 a [(1,vI x1),(2,.slice A2 l2.length c2),(3,vI x3),(9,v3),(11,pP b1 0),(12,.slice Z2 s.length cz2),(13,.slice A0 l0.length c0),(14,vI (l0.length:Int)),(15,vI (i1:Int))]
abbrev pr_Flat.B1 (w0:World) (Z:Zone):(List Sstatement)→Exit→Act→World→Prop:=Rets Try.prog Try.f44 (pr_Flat.Post w0 Z)
theorem pr_Flat_p1 (K:Nat) (w0:World) (Z:Zone) (l0:List SStmt) (A0:OA) (c0:Nat) (x1:Int) (l2:List Int) (A2:OA) (c2:Nat) (x3:Int) (hZ:∀ w,Sub w0 w→Z w) (hR0:RdZ Z A0 l0) (hL0:l0.length≤c0) (hR2:RdF Z A2 l2) (hL2:l2.length≤c2) (rec_pr_Flat:(List SStmt)→Int→(List Int)→Int→Option (List Sstatement)) (hr_pr_Flat:pr_Flat.Rec rec_pr_Flat) (ft1:List Nat) (wf1:World) (ft2:List Nat) (wf2:World) (m1:List Sstatement) (hds1:List Hstatement) (i1:Nat) (hsb1:Sub wf1 wf2) (hd1:DRows (Zand Z wf2) hds1 m1) (hc1:(i1:Int)<(l0.length:Int)) (e1:SStmt) (hx1:l0[i1]?=some e1) (An1:OA) (cn1:Nat) (An2:OA) (cn2:Nat) (An3:OA) (cn3:Nat) (An4:OA) (cn4:Nat) (An5:OA) (cn5:Nat) (hCs1:CellsAt Z A0 (i1*14) [vI e1.Kind,vI e1.N,vI e1.E.Kind,vI e1.E.N,.slice An1 e1.E.A.length cn1,vI e1.If.Kind,vI e1.If.A.Kind,vI e1.If.A.N,.slice An2 e1.If.A.A.length cn2,vI e1.If.B.Kind,vI e1.If.B.N,.slice An3 e1.If.B.A.length cn3,.slice An4 e1.Body.length cn4,.slice An5 e1.Else.length cn5]) (hLn1:e1.E.A.length≤cn1) (hRn1:RdZ Z An1 e1.E.A) (hLn2:e1.If.A.A.length≤cn2) (hRn2:RdZ Z An2 e1.If.A.A) (hLn3:e1.If.B.A.length≤cn3) (hRn3:RdZ Z An3 e1.If.B.A) (hLn4:e1.Body.length≤cn4) (hRn4:RdZ Z An4 e1.Body) (hLn5:e1.Else.length≤cn5) (hRn5:RdZ Z An5 e1.Else) (b1:Nat) (Z1:OA) (cz1:Nat) (hc2:¬ ((m1.length:Int) > x3)) (b2:Nat) (hc3:m1.length<628292358729) (v3:Value) (hd3:DRows (Zand Z wf2) (hds1++[(⟨e1.Kind,e1.N,e1.E.Kind,e1.E.N,⟨An1,e1.E.A.length,cn1⟩,e1.If.Kind,e1.If.A.Kind,e1.If.A.N,⟨An2,e1.If.A.A.length,cn2⟩,e1.If.B.Kind,e1.If.B.N,⟨An3,e1.If.B.A.length,cn3⟩,⟨An4,e1.Body.length,cn4⟩,⟨An5,e1.Else.length,cn5⟩,x1,⟨A2,l2.length,c2⟩⟩:Hstatement)]) (m1++[(⟨e1,x1,l2⟩:Sstatement)])) (o:(List Int) ⊕ (List Sstatement)) (h:pr_Flat.p1 l2 e1=some o) (w:World) (hS:St w0 w [Own.of v3 101 (hds1++[(⟨e1.Kind,e1.N,e1.E.Kind,e1.E.N,⟨An1,e1.E.A.length,cn1⟩,e1.If.Kind,e1.If.A.Kind,e1.If.A.N,⟨An2,e1.If.A.A.length,cn2⟩,e1.If.B.Kind,e1.If.B.N,⟨An3,e1.If.B.A.length,cn3⟩,⟨An4,e1.Body.length,cn4⟩,⟨An5,e1.Else.length,cn5⟩,x1,⟨A2,l2.length,c2⟩⟩:Hstatement)]),bk b1 #[vI e1.Kind,vI e1.N,vI e1.E.Kind,vI e1.E.N,.slice An1 e1.E.A.length cn1,vI e1.If.Kind,vI e1.If.A.Kind,vI e1.If.A.N,.slice An2 e1.If.A.A.length cn2,vI e1.If.B.Kind,vI e1.If.B.N,.slice An3 e1.If.B.A.length cn3,.slice An4 e1.Body.length cn4,.slice An5 e1.Else.length cn5] 70,Own.frz ft2 wf2]) (Q:Exit→Act→World→Prop) (hQ:∀ x a w,Outs (pr_Flat.A1 w0 Z l0 A0 c0 x1 l2 A2 c2 x3 wf2 hds1 i1 e1 An1 cn1 An2 cn2 An3 cn3 An4 cn4 An5 cn5 b1 v3) (pr_Flat.B1 w0 Z) o x a w→Q x a w):WE Try.prog 62 (subF Try.f44 [1,1,0,1,0,0,1,1,0,0,1,1,1,1,0]) Q [(1,vI x1),(2,.slice A2 l2.length c2),(3,vI x3),(9,v3),(11,pP b1 0),(12,.slice A2 l2.length c2),(13,.slice A0 l0.length c0),(14,vI (l0.length:Int)),(15,vI (i1:Int)),(16,.bool true),(17,.pointer (some ⟨blkOf A0,offOf A0+i1*14,none⟩)),(18,.agg #[vI e1.Kind,vI e1.N,vI e1.E.Kind,vI e1.E.N,.slice An1 e1.E.A.length cn1,vI e1.If.Kind,vI e1.If.A.Kind,vI e1.If.A.N,.slice An2 e1.If.A.A.length cn2,vI e1.If.B.Kind,vI e1.If.B.N,.slice An3 e1.If.B.A.length cn3,.slice An4 e1.Body.length cn4,.slice An5 e1.Else.length cn5]),(19,(.slice Z1 m1.length cz1)),(20,vI (m1.length:Int)),(21,vI x3),(22,.bool false),(24,(.slice Z1 m1.length cz1)),(25,.agg #[vI e1.Kind,vI e1.N,vI e1.E.Kind,vI e1.E.N,.slice An1 e1.E.A.length cn1,vI e1.If.Kind,vI e1.If.A.Kind,vI e1.If.A.N,.slice An2 e1.If.A.A.length cn2,vI e1.If.B.Kind,vI e1.If.B.N,.slice An3 e1.If.B.A.length cn3,.slice An4 e1.Body.length cn4,.slice An5 e1.Else.length cn5]),(26,vI x1),(27,.slice A2 l2.length c2),(28,.agg #[vI e1.Kind,vI e1.N,vI e1.E.Kind,vI e1.E.N,.slice An1 e1.E.A.length cn1,vI e1.If.Kind,vI e1.If.A.Kind,vI e1.If.A.N,.slice An2 e1.If.A.A.length cn2,vI e1.If.B.Kind,vI e1.If.B.N,.slice An3 e1.If.B.A.length cn3,.slice An4 e1.Body.length cn4,.slice An5 e1.Else.length cn5,vI x1,.slice A2 l2.length c2]),(29,.slice (some ⟨b2,0,none⟩) 1 1),(30,v3),(31,.slice A2 l2.length c2)] w:=by
 simp only [pr_Flat.p1] at h
 refine ws fun K15 hK15=>wr [(0,0),(1,0),(2,0)]<|gb [0,1,2] [(34,.bool (e1.Kind==6)),(33,vI e1.Kind),(32,pP b1 0)] [ld b1 0 (vI e1.Kind)] ⟨hS.c 1,trivial⟩<|gn hK15 ?_
 by_cases hc4:e1.Kind=6
 ·rw [if_pos hc4] at h
  refine wk 34 (e1.Kind==6) true (beq_iff_eq.2 hc4)<|wt<|we_orders3 (by kernel_rfl) [(4,[⟨b1,1,none⟩],[5,6],[])] (.vals [1] (.vals [3] (.vals [4] (.alt 0 1 (.alt 2 2 (.alt 5 1 (.alt 6 2 (.vals [7] .fin) .nomore) .nomore) (.alt 5 1 (.alt 2 2 (.alt 6 2 (.vals [7] .fin) .nomore) .nomore) .nomore)) (.alt 5 1 (.alt 0 1 (.alt 2 2 (.alt 6 2 (.vals [7] .fin) .nomore) .nomore) .nomore) .nomore))))) (by kernel_rfl) (by kernel_rfl) ?_
  have hS14:=hS.drew
  refine g30 [1,3] [(38,pP b1 1),(36,.slice A2 l2.length c2)]<|g3 4 [(39,vI e1.N)] [ld b1 1 (vI e1.N)] ⟨hS14.c 1,trivial⟩<|go_alt3 (fun KK hKK=>?_) ?_
  ·refine ge_one2<|gw (some 35) (.cells #[] 3) (fun b=>.slice (some ⟨b,0,none⟩) 0 0) hS14 fun b3 w5 hx4 hS15=>?_
   refine ge_nil fun a hF=>hKK _ _ (RS.of2 (l:=[ld b1 1 (vI e1.N)]) (by kernel_rfl) ⟨hS14.c 1,trivial⟩ ⟨hS15.c 2,trivial⟩) ?_ a hF
   refine go_alt3 (fun KK hKK=>?_) ?_
   ·have hS16:=hS15.asRow (α:=Int) (c:=0) ([]:List Int) (Nat.le_refl _) (by decide) rfl rfl
    by_cases hc5:0+l2.length≤17592186044416
    ·rw [if_pos hc5] at h
     refine ge_appendL (α:=Int) (m:=0) (d:=37) (t:=23) (el:=3) (bytes:=8) (c1:=c2) (A1:=A2) (x:=(.tmp 35)) (y:=(.tmp 36)) (ty:=23) (v:=(.slice (some ⟨b3,0,none⟩) 0 0)) (z:=vI 0) (l:=([]:List Int)) (us:=l2) (by kernel_rfl) (by kernel_rfl) (by kernel_rfl) (by kernel_rfl) (by kernel_rfl) rfl hS16 (hR2 _ (hZ _ hS16.subw)) rfl (Nat.mul_le_of_le_div _ _ _ hc5) fun v4 w6 hS17=>?_
     have hS18:St w0 w6 [Own.of v4 3 l2,Own.of v3 101 (hds1++[(⟨e1.Kind,e1.N,e1.E.Kind,e1.E.N,⟨An1,e1.E.A.length,cn1⟩,e1.If.Kind,e1.If.A.Kind,e1.If.A.N,⟨An2,e1.If.A.A.length,cn2⟩,e1.If.B.Kind,e1.If.B.N,⟨An3,e1.If.B.A.length,cn3⟩,⟨An4,e1.Body.length,cn4⟩,⟨An5,e1.Else.length,cn5⟩,x1,⟨A2,l2.length,c2⟩⟩:Hstatement)]),bk b1 #[vI e1.Kind,vI e1.N,vI e1.E.Kind,vI e1.E.N,.slice An1 e1.E.A.length cn1,vI e1.If.Kind,vI e1.If.A.Kind,vI e1.If.A.N,.slice An2 e1.If.A.A.length cn2,vI e1.If.B.Kind,vI e1.If.B.N,.slice An3 e1.If.B.A.length cn3,.slice An4 e1.Body.length cn4,.slice An5 e1.Else.length cn5] 70,Own.frz ft2 wf2]:=hS17
     refine ge_nil fun a hF=>hKK _ _ (RS.of2 (l:=[ld b1 1 (vI e1.N)]) (by kernel_rfl) ⟨hS15.c 2,trivial⟩ ⟨hS18.c 2,trivial⟩) ?_ a hF
     refine go_alt3 (fun KK hKK=>?_) ?_
     ·refine ge_one2<|gw (some 40) (.cells #[vI e1.N] 3) (fun b=>.slice (some ⟨b,0,none⟩) 1 1) hS18 fun b4 w7 hx5 hS19=>?_
      refine g2 hKK<|go_alt3 (fun KK hKK=>?_) ?_
      ·have hS20:=hS19.b 1
       by_cases hc6:l2.length<17592186044416
       ·rw [if_pos hc6] at h
        refine ge_append (α:=Int) (m:=0) (d:=41) (t:=23) (el:=3) (bytes:=8) (c1:=1) (b1:=b4) (x:=(.tmp 37)) (y:=(.tmp 40)) (ty:=23) (v:=v4) (z:=vI 0) (l:=l2) (u:=e1.N) (by kernel_rfl) (by kernel_rfl) (by kernel_rfl) (by kernel_rfl) (by kernel_rfl) rfl hS20 rfl (by omega) fun v5 w8 hS21=>?_
        refine g2 hKK<|g30 [7] [(12,v5)] ?_
        obtain ⟨Z3,cz3,rfl⟩:=hS21.open 0 rfl
        have hS23:=(hS21.b 3).b 1
        obtain ⟨ft5,wf5,hsb4,-,hRd1,hLd1,hS24⟩:=hS23.ffrz Z
        have hS26:=(hS24.b 1).b 2
        obtain rfl:=si h
        exact go_fin3 fun a hF=>hQ _ _ _ (Outs.again ⟨ft5,wf5,Z3,cz3,hsb4,hRd1,hLd1,hS26,hF.weaken ea⟩)
       rw [if_neg hc6] at h
       cases h
      exact go_nomore3
     exact go_nomore3
    rw [if_neg hc5] at h
    cases h
   refine go_alt3 (fun KK hKK=>?_) ?_
   ·refine ge_one2<|gw (some 40) (.cells #[vI e1.N] 3) (fun b=>.slice (some ⟨b,0,none⟩) 1 1) hS15 fun b4 w6 hx5 hS16=>?_
    refine g2 hKK<|go_alt3 (fun KK hKK=>?_) ?_
    ·have hS18:=(hS16.b 1).asRow (α:=Int) (c:=0) ([]:List Int) (Nat.le_refl _) (by decide) rfl rfl
     by_cases hc5:0+l2.length≤17592186044416
     ·rw [if_pos hc5] at h
      refine ge_appendL (α:=Int) (m:=0) (d:=37) (t:=23) (el:=3) (bytes:=8) (c1:=c2) (A1:=A2) (x:=(.tmp 35)) (y:=(.tmp 36)) (ty:=23) (v:=(.slice (some ⟨b3,0,none⟩) 0 0)) (z:=vI 0) (l:=([]:List Int)) (us:=l2) (by kernel_rfl) (by kernel_rfl) (by kernel_rfl) (by kernel_rfl) (by kernel_rfl) rfl hS18 (hR2 _ (hZ _ hS18.subw)) rfl (Nat.mul_le_of_le_div _ _ _ hc5) fun v4 w7 hS19=>?_
      have hS20:St w0 w7 [Own.of v4 3 l2,bk b4 #[vI e1.N] 3,Own.of v3 101 (hds1++[(⟨e1.Kind,e1.N,e1.E.Kind,e1.E.N,⟨An1,e1.E.A.length,cn1⟩,e1.If.Kind,e1.If.A.Kind,e1.If.A.N,⟨An2,e1.If.A.A.length,cn2⟩,e1.If.B.Kind,e1.If.B.N,⟨An3,e1.If.B.A.length,cn3⟩,⟨An4,e1.Body.length,cn4⟩,⟨An5,e1.Else.length,cn5⟩,x1,⟨A2,l2.length,c2⟩⟩:Hstatement)]),bk b1 #[vI e1.Kind,vI e1.N,vI e1.E.Kind,vI e1.E.N,.slice An1 e1.E.A.length cn1,vI e1.If.Kind,vI e1.If.A.Kind,vI e1.If.A.N,.slice An2 e1.If.A.A.length cn2,vI e1.If.B.Kind,vI e1.If.B.N,.slice An3 e1.If.B.A.length cn3,.slice An4 e1.Body.length cn4,.slice An5 e1.Else.length cn5] 70,Own.frz ft2 wf2]:=hS19
      refine ge_nil fun a hF=>hKK _ _ (RS.of2 (l:=[ld b1 1 (vI e1.N)]) (by kernel_rfl) ⟨hS16.c 3,trivial⟩ ⟨hS20.c 3,trivial⟩) ?_ a hF
      refine go_alt3 (fun KK hKK=>?_) ?_
      ·have hS22:=(hS20.b 1).b 1
       by_cases hc6:l2.length<17592186044416
       ·rw [if_pos hc6] at h
        refine ge_append (α:=Int) (m:=0) (d:=41) (t:=23) (el:=3) (bytes:=8) (c1:=1) (b1:=b4) (x:=(.tmp 37)) (y:=(.tmp 40)) (ty:=23) (v:=v4) (z:=vI 0) (l:=l2) (u:=e1.N) (by kernel_rfl) (by kernel_rfl) (by kernel_rfl) (by kernel_rfl) (by kernel_rfl) rfl hS22 rfl (by omega) fun v5 w8 hS23=>?_
        refine g2 hKK<|g30 [7] [(12,v5)] ?_
        obtain ⟨Z3,cz3,rfl⟩:=hS23.open 0 rfl
        have hS25:=(hS23.b 3).b 1
        obtain ⟨ft5,wf5,hsb4,-,hRd1,hLd1,hS26⟩:=hS25.ffrz Z
        have hS28:=(hS26.b 1).b 2
        obtain rfl:=si h
        exact go_fin3 fun a hF=>hQ _ _ _ (Outs.again ⟨ft5,wf5,Z3,cz3,hsb4,hRd1,hLd1,hS28,hF.weaken ea⟩)
       rw [if_neg hc6] at h
       cases h
      exact go_nomore3
     rw [if_neg hc5] at h
     cases h
    exact go_nomore3
   exact go_nomore3
  refine go_alt3 (fun KK hKK=>?_) ?_
  ·refine ge_one2<|gw (some 40) (.cells #[vI e1.N] 3) (fun b=>.slice (some ⟨b,0,none⟩) 1 1) hS14 fun b3 w5 hx4 hS15=>?_
   refine g2 hKK<|go_alt3 (fun KK hKK=>?_) ?_
   ·refine ge_one2<|gw (some 35) (.cells #[] 3) (fun b=>.slice (some ⟨b,0,none⟩) 0 0) hS15 fun b4 w6 hx5 hS16=>?_
    refine ge_nil fun a hF=>hKK _ _ (RS.of2 (l:=[ld b1 1 (vI e1.N)]) (by kernel_rfl) ⟨hS15.c 2,trivial⟩ ⟨hS16.c 3,trivial⟩) ?_ a hF
    refine go_alt3 (fun KK hKK=>?_) ?_
    ·have hS17:=hS16.asRow (α:=Int) (c:=0) ([]:List Int) (Nat.le_refl _) (by decide) rfl rfl
     by_cases hc5:0+l2.length≤17592186044416
     ·rw [if_pos hc5] at h
      refine ge_appendL (α:=Int) (m:=0) (d:=37) (t:=23) (el:=3) (bytes:=8) (c1:=c2) (A1:=A2) (x:=(.tmp 35)) (y:=(.tmp 36)) (ty:=23) (v:=(.slice (some ⟨b4,0,none⟩) 0 0)) (z:=vI 0) (l:=([]:List Int)) (us:=l2) (by kernel_rfl) (by kernel_rfl) (by kernel_rfl) (by kernel_rfl) (by kernel_rfl) rfl hS17 (hR2 _ (hZ _ hS17.subw)) rfl (Nat.mul_le_of_le_div _ _ _ hc5) fun v4 w7 hS18=>?_
      have hS19:St w0 w7 [Own.of v4 3 l2,bk b3 #[vI e1.N] 3,Own.of v3 101 (hds1++[(⟨e1.Kind,e1.N,e1.E.Kind,e1.E.N,⟨An1,e1.E.A.length,cn1⟩,e1.If.Kind,e1.If.A.Kind,e1.If.A.N,⟨An2,e1.If.A.A.length,cn2⟩,e1.If.B.Kind,e1.If.B.N,⟨An3,e1.If.B.A.length,cn3⟩,⟨An4,e1.Body.length,cn4⟩,⟨An5,e1.Else.length,cn5⟩,x1,⟨A2,l2.length,c2⟩⟩:Hstatement)]),bk b1 #[vI e1.Kind,vI e1.N,vI e1.E.Kind,vI e1.E.N,.slice An1 e1.E.A.length cn1,vI e1.If.Kind,vI e1.If.A.Kind,vI e1.If.A.N,.slice An2 e1.If.A.A.length cn2,vI e1.If.B.Kind,vI e1.If.B.N,.slice An3 e1.If.B.A.length cn3,.slice An4 e1.Body.length cn4,.slice An5 e1.Else.length cn5] 70,Own.frz ft2 wf2]:=hS18
      refine ge_nil fun a hF=>hKK _ _ (RS.of2 (l:=[ld b1 1 (vI e1.N)]) (by kernel_rfl) ⟨hS16.c 3,trivial⟩ ⟨hS19.c 3,trivial⟩) ?_ a hF
      refine go_alt3 (fun KK hKK=>?_) ?_
      ·have hS21:=(hS19.b 1).b 1
       by_cases hc6:l2.length<17592186044416
       ·rw [if_pos hc6] at h
        refine ge_append (α:=Int) (m:=0) (d:=41) (t:=23) (el:=3) (bytes:=8) (c1:=1) (b1:=b3) (x:=(.tmp 37)) (y:=(.tmp 40)) (ty:=23) (v:=v4) (z:=vI 0) (l:=l2) (u:=e1.N) (by kernel_rfl) (by kernel_rfl) (by kernel_rfl) (by kernel_rfl) (by kernel_rfl) rfl hS21 rfl (by omega) fun v5 w8 hS22=>?_
        refine g2 hKK<|g30 [7] [(12,v5)] ?_
        obtain ⟨Z3,cz3,rfl⟩:=hS22.open 0 rfl
        have hS24:=(hS22.b 3).b 1
        obtain ⟨ft5,wf5,hsb4,-,hRd1,hLd1,hS25⟩:=hS24.ffrz Z
        have hS27:=(hS25.b 1).b 2
        obtain rfl:=si h
        exact go_fin3 fun a hF=>hQ _ _ _ (Outs.again ⟨ft5,wf5,Z3,cz3,hsb4,hRd1,hLd1,hS27,hF.weaken ea⟩)
       rw [if_neg hc6] at h
       cases h
      exact go_nomore3
     rw [if_neg hc5] at h
     cases h
    exact go_nomore3
   exact go_nomore3
  exact go_nomore3
 rw [if_neg hc4] at h
 refine wk 34 (e1.Kind==6) false (beq_eq_false_iff_ne.2 hc4)<|wf ?_
 have hS30:=((hS.b 2).b 1).b 2
 obtain rfl:=si h
 exact we_skip fun a hF=>hQ _ _ _ (Outs.again ⟨ft2,wf2,A2,c2,(Sub.refl _),(hR2.up (ZLe.in _ _)),hL2,hS30,hF.weaken ea⟩)
abbrev pr_Flat.A0 (w0:World) (Z:Zone) (l0:List SStmt) (A0:OA) (c0:Nat) (x1:Int) (l2:List Int) (A2:OA) (c2:Nat) (x3:Int) (wf1:World):((List Sstatement)×Nat)→Act→World→Prop:=fun (s:(List Sstatement)×Nat) a w=>∃ (ft2:List Nat) (wf2:World) (v1:Value) (hds1:List Hstatement),Sub wf1 wf2∧DRows (Zand Z wf2) hds1 s.1∧St w0 w [Own.of v1 101 hds1,Own.frz ft2 wf2]∧Frm 62 a [(1,vI x1),(2,.slice A2 l2.length c2),(3,vI x3),(9,v1),(13,.slice A0 l0.length c0),(14,vI (l0.length:Int)),(15,vI (s.2:Int))]
abbrev pr_Flat.B0 (w0:World) (Z:Zone) (wf1:World):((List Sstatement) ⊕ (List Sstatement))→Exit→Act→World→Prop:=Exits 0 (fun (s:(List Sstatement)) a w=>∃ (ft3:List Nat) (wf3:World) (v2:Value) (hds2:List Hstatement),Sub wf1 wf3∧DRows (Zand Z wf3) hds2 s∧St w0 w [Own.of v2 101 hds2,Own.frz ft3 wf3]∧Frm 62 a [(9,v2)]) (Rets Try.prog Try.f44 (pr_Flat.Post w0 Z))
theorem pr_Flat_r0 (K:Nat) (w0:World) (Z:Zone) (l0:List SStmt) (A0:OA) (c0:Nat) (x1:Int) (l2:List Int) (A2:OA) (c2:Nat) (x3:Int) (hZ:∀ w,Sub w0 w→Z w) (hR0:RdZ Z A0 l0) (hL0:l0.length≤c0) (hR2:RdF Z A2 l2) (hL2:l2.length≤c2) (rec_pr_Flat:(List SStmt)→Int→(List Int)→Int→Option (List Sstatement)) (hr_pr_Flat:pr_Flat.Rec rec_pr_Flat) (ft1:List Nat) (wf1:World) (s:(List Sstatement)×Nat) (o:((List Sstatement)×Nat) ⊕ ((List Sstatement) ⊕ (List Sstatement))) (h:pr_Flat.r0 l0 x1 l2 x3 rec_pr_Flat s=some o) (a:Act) (w:World) (hA:pr_Flat.A0 w0 Z l0 A0 c0 x1 l2 A2 c2 x3 wf1 s a w) (Q:Exit→Act→World→Prop) (hQ:∀ x a w,Outs (pr_Flat.A0 w0 Z l0 A0 c0 x1 l2 A2 c2 x3 wf1) (pr_Flat.B0 w0 Z wf1) o x a w→Q x a w):(subF Try.f44 [1,1,0,1,0,0]).wp Try.prog Q a w:=by
 obtain ⟨m1,i1⟩:=s
 obtain ⟨ft2,wf2,v1,hds1,hsb1,hd1,hS,hF⟩:=hA
 replace hS:St w0 w [Own.of v1 101 hds1,Own.frz ft2 wf2]:=hS
 simp only [pr_Flat.r0] at h
 refine (?_:WE Try.prog 62 (subF Try.f44 [1,1,0,1,0,0]) Q [(1,vI x1),(2,.slice A2 l2.length c2),(3,vI x3),(9,v1),(13,.slice A0 l0.length c0),(14,vI (l0.length:Int)),(15,vI (i1:Int))] w) a hF
 clear hF a
 refine ws fun K5 hK5=>wr [(0,0)]<|gb0 [0] [(16,.bool (decide ((i1:Int)<(l0.length:Int))))]<|gn hK5<|ws fun K6 hK6=>?_
 by_cases hc1:(i1:Int)<(l0.length:Int)
 ·rw [if_pos hc1] at h
  refine wk 16 (decide ((i1:Int)<(l0.length:Int))) true (decide_eq_true hc1)<|wt<|we_skip fun a hF=>hK6 _ _ ?_ a hF
  refine ws fun K7 hK7=>we_block<|ws fun K8 hK8=>wr [(0,0),(1,0),(2,1),(3,2)] ?_
  rcases hx1:l0[i1]? with _ | e1
  ·rw [hx1] at h; cases h
  rw [hx1] at h
  simp only [] at h
  obtain ⟨An1,cn1,An2,cn2,An3,cn3,An4,cn4,An5,cn5,hCs1,hLn1,hRn1,hLn2,hRn2,hLn3,hRn3,hLn4,hRn4,hLn5,hRn5⟩:=SStmt.getZ hR0 hx1
  refine gi 17 0 22 70 14 l0.length c0 (.tmp 13) (.tmp 15) A0 .i64 (i1:Int) i1 (hR0.eqSome (hZ _ hS.subw) (pos_of_get hx1)) rfl (lt_of_get hx1) ?_
  refine gb [1] [(18,.agg #[vI e1.Kind,vI e1.N,vI e1.E.Kind,vI e1.E.N,.slice An1 e1.E.A.length cn1,vI e1.If.Kind,vI e1.If.A.Kind,vI e1.If.A.N,.slice An2 e1.If.A.A.length cn2,vI e1.If.B.Kind,vI e1.If.B.N,.slice An3 e1.If.B.A.length cn3,.slice An4 e1.Body.length cn4,.slice An5 e1.Else.length cn5])] [.loaded ⟨blkOf A0,offOf A0+i1*14,none⟩ (vI e1.Kind),.loaded ⟨blkOf A0,offOf A0+i1*14+1,none⟩ (vI e1.N),.loaded ⟨blkOf A0,offOf A0+i1*14+2,none⟩ (vI e1.E.Kind),.loaded ⟨blkOf A0,offOf A0+i1*14+3,none⟩ (vI e1.E.N),.loaded ⟨blkOf A0,offOf A0+i1*14+4,none⟩ (.slice An1 e1.E.A.length cn1),.loaded ⟨blkOf A0,offOf A0+i1*14+5,none⟩ (vI e1.If.Kind),.loaded ⟨blkOf A0,offOf A0+i1*14+6,none⟩ (vI e1.If.A.Kind),.loaded ⟨blkOf A0,offOf A0+i1*14+7,none⟩ (vI e1.If.A.N),.loaded ⟨blkOf A0,offOf A0+i1*14+8,none⟩ (.slice An2 e1.If.A.A.length cn2),.loaded ⟨blkOf A0,offOf A0+i1*14+9,none⟩ (vI e1.If.B.Kind),.loaded ⟨blkOf A0,offOf A0+i1*14+10,none⟩ (vI e1.If.B.N),.loaded ⟨blkOf A0,offOf A0+i1*14+11,none⟩ (.slice An3 e1.If.B.A.length cn3),.loaded ⟨blkOf A0,offOf A0+i1*14+12,none⟩ (.slice An4 e1.Body.length cn4),.loaded ⟨blkOf A0,offOf A0+i1*14+13,none⟩ (.slice An5 e1.Else.length cn5)] ⟨hCs1 _ (hZ _ hS.subw) 0 _ rfl,hCs1 _ (hZ _ hS.subw) 1 _ rfl,hCs1 _ (hZ _ hS.subw) 2 _ rfl,hCs1 _ (hZ _ hS.subw) 3 _ rfl,hCs1 _ (hZ _ hS.subw) 4 _ rfl,hCs1 _ (hZ _ hS.subw) 5 _ rfl,hCs1 _ (hZ _ hS.subw) 6 _ rfl,hCs1 _ (hZ _ hS.subw) 7 _ rfl,hCs1 _ (hZ _ hS.subw) 8 _ rfl,hCs1 _ (hZ _ hS.subw) 9 _ rfl,hCs1 _ (hZ _ hS.subw) 10 _ rfl,hCs1 _ (hZ _ hS.subw) 11 _ rfl,hCs1 _ (hZ _ hS.subw) 12 _ rfl,hCs1 _ (hZ _ hS.subw) 13 _ rfl,trivial⟩<|gw (some 11) (.cells #[vI 0,vI 0,vI 0,vI 0,.slice none 0 0,vI 0,vI 0,vI 0,.slice none 0 0,vI 0,vI 0,.slice none 0 0,.slice none 0 0,.slice none 0 0] 70) (fun b=>pP b 0) hS fun b1 w1 hx2 hS5=>?_
  refine gs b1 0 #[vI 0,vI 0,vI 0,vI 0,.slice none 0 0,vI 0,vI 0,vI 0,.slice none 0 0,vI 0,vI 0,.slice none 0 0,.slice none 0 0,.slice none 0 0] 70 [vI e1.Kind,vI e1.N,vI e1.E.Kind,vI e1.E.N,.slice An1 e1.E.A.length cn1,vI e1.If.Kind,vI e1.If.A.Kind,vI e1.If.A.N,.slice An2 e1.If.A.A.length cn2,vI e1.If.B.Kind,vI e1.If.B.N,.slice An3 e1.If.B.A.length cn3,.slice An4 e1.Body.length cn4,.slice An5 e1.Else.length cn5] hS5 fun w2 hS6=>?_
  have hS7:=hS6.nc #[vI e1.Kind,vI e1.N,vI e1.E.Kind,vI e1.E.N,.slice An1 e1.E.A.length cn1,vI e1.If.Kind,vI e1.If.A.Kind,vI e1.If.A.N,.slice An2 e1.If.A.A.length cn2,vI e1.If.B.Kind,vI e1.If.B.N,.slice An3 e1.If.B.A.length cn3,.slice An4 e1.Body.length cn4,.slice An5 e1.Else.length cn5] (by kernel_rfl)
  refine gn hK8<|ws fun K9 hK9=>ws fun K10 hK10=>wr [(0,0),(1,0),(2,0),(3,0)]<|gb0 [0] [(19,v1)] ?_
  obtain ⟨Z1,cz1,rfl⟩:=hS7.dopen 1 rfl hd1
  refine gb0 [1,2,3] [(22,.bool (decide ((m1.length:Int) > x3))),(21,vI x3),(20,vI (m1.length:Int))]<|gn hK10 ?_
  by_cases hc2:(m1.length:Int) > x3
  ·rw [if_pos hc2] at h
   refine wk 22 (decide ((m1.length:Int) > x3)) true (decide_eq_true hc2)<|wt<|ws fun K11 hK11=>wr [(0,0),(1,0)]<|gb0 [0,1] [(8,(.slice Z1 m1.length cz1)),(23,(.slice Z1 m1.length cz1))]<|gn hK11 ?_
   have hS10:=hS7.p [1,2] rfl
   obtain rfl:=si h
   exact we_ret fun a hF=>hQ _ _ _ (Outs.out nofun (Exits.on ⟨rfl,(pr0 [.tmp 8] [(.slice Z1 m1.length cz1)] ⟨(.slice Z1 m1.length cz1),hds1,ft2,wf2,rfl,hd1,hS10⟩) a hF⟩))
  rw [if_neg hc2] at h
  refine wk 22 (decide ((m1.length:Int) > x3)) false (decide_eq_false hc2)<|wf<|we_skip fun a hF=>hK9 _ _ ?_ a hF
  refine ws fun K12 hK12=>wr [(0,0),(1,0),(2,0),(3,0),(4,0),(5,1),(6,2),(7,0)]<|gb [0,1,2,3,4] [(28,.agg #[vI e1.Kind,vI e1.N,vI e1.E.Kind,vI e1.E.N,.slice An1 e1.E.A.length cn1,vI e1.If.Kind,vI e1.If.A.Kind,vI e1.If.A.N,.slice An2 e1.If.A.A.length cn2,vI e1.If.B.Kind,vI e1.If.B.N,.slice An3 e1.If.B.A.length cn3,.slice An4 e1.Body.length cn4,.slice An5 e1.Else.length cn5,vI x1,.slice A2 l2.length c2]),(27,.slice A2 l2.length c2),(26,vI x1),(25,.agg #[vI e1.Kind,vI e1.N,vI e1.E.Kind,vI e1.E.N,.slice An1 e1.E.A.length cn1,vI e1.If.Kind,vI e1.If.A.Kind,vI e1.If.A.N,.slice An2 e1.If.A.A.length cn2,vI e1.If.B.Kind,vI e1.If.B.N,.slice An3 e1.If.B.A.length cn3,.slice An4 e1.Body.length cn4,.slice An5 e1.Else.length cn5]),(24,(.slice Z1 m1.length cz1))] [ld b1 0 (vI e1.Kind),ld b1 1 (vI e1.N),ld b1 2 (vI e1.E.Kind),ld b1 3 (vI e1.E.N),ld b1 4 (.slice An1 e1.E.A.length cn1),ld b1 5 (vI e1.If.Kind),ld b1 6 (vI e1.If.A.Kind),ld b1 7 (vI e1.If.A.N),ld b1 8 (.slice An2 e1.If.A.A.length cn2),ld b1 9 (vI e1.If.B.Kind),ld b1 10 (vI e1.If.B.N),ld b1 11 (.slice An3 e1.If.B.A.length cn3),ld b1 12 (.slice An4 e1.Body.length cn4),ld b1 13 (.slice An5 e1.Else.length cn5)] ⟨hS7.c 0,hS7.c 0,hS7.c 0,hS7.c 0,hS7.c 0,hS7.c 0,hS7.c 0,hS7.c 0,hS7.c 0,hS7.c 0,hS7.c 0,hS7.c 0,hS7.c 0,hS7.c 0,trivial⟩<|gw (some 29) (.cells #[vI e1.Kind,vI e1.N,vI e1.E.Kind,vI e1.E.N,.slice An1 e1.E.A.length cn1,vI e1.If.Kind,vI e1.If.A.Kind,vI e1.If.A.N,.slice An2 e1.If.A.A.length cn2,vI e1.If.B.Kind,vI e1.If.B.N,.slice An3 e1.If.B.A.length cn3,.slice An4 e1.Body.length cn4,.slice An5 e1.Else.length cn5,vI x1,.slice A2 l2.length c2] 101) (fun b=>.slice (some ⟨b,0,none⟩) 1 1) hS7 fun b2 w3 hx3 hS11=>?_
  have hS12:=hS11.b 2
  by_cases hc3:m1.length<628292358729
  ·rw [if_pos hc3] at h
   have hd3:DRows (Zand Z wf2) (hds1++[(⟨e1.Kind,e1.N,e1.E.Kind,e1.E.N,⟨An1,e1.E.A.length,cn1⟩,e1.If.Kind,e1.If.A.Kind,e1.If.A.N,⟨An2,e1.If.A.A.length,cn2⟩,e1.If.B.Kind,e1.If.B.N,⟨An3,e1.If.B.A.length,cn3⟩,⟨An4,e1.Body.length,cn4⟩,⟨An5,e1.Else.length,cn5⟩,x1,⟨A2,l2.length,c2⟩⟩:Hstatement)]) (m1++[(⟨e1,x1,l2⟩:Sstatement)]):=DRows.add hd1 (Sstatement.mkZ (⟨e1,x1,l2⟩:Sstatement) hLn1 (hRn1.up (ZLe.in _ _)) hLn2 (hRn2.up (ZLe.in _ _)) hLn3 (hRn3.up (ZLe.in _ _)) hLn4 (hRn4.up (ZLe.in _ _)) hLn5 (hRn5.up (ZLe.in _ _)) hL2 (hR2.up (ZLe.in _ _)))
   refine ge_append (α:=Hstatement) (m:=0) (d:=30) (t:=98) (el:=101) (bytes:=224) (c1:=1) (b1:=b2) (x:=(.tmp 24)) (y:=(.tmp 29)) (ty:=98) (v:=(.slice Z1 m1.length cz1)) (z:=.agg #[vI 0,vI 0,vI 0,vI 0,.slice none 0 0,vI 0,vI 0,vI 0,.slice none 0 0,vI 0,vI 0,.slice none 0 0,.slice none 0 0,.slice none 0 0,vI 0,.slice none 0 0]) (l:=hds1) (u:=(⟨e1.Kind,e1.N,e1.E.Kind,e1.E.N,⟨An1,e1.E.A.length,cn1⟩,e1.If.Kind,e1.If.A.Kind,e1.If.A.N,⟨An2,e1.If.A.A.length,cn2⟩,e1.If.B.Kind,e1.If.B.N,⟨An3,e1.If.B.A.length,cn3⟩,⟨An4,e1.Body.length,cn4⟩,⟨An5,e1.Else.length,cn5⟩,x1,⟨A2,l2.length,c2⟩⟩:Hstatement)) (by kernel_rfl) (by kernel_rfl) (by kernel_rfl) (by kernel_rfl) (by kernel_rfl) rfl hS12 rfl (by have h0:hds1.length=m1.length:=DRows.len hd1; omega) fun v3 w4 hS13=>?_
   refine gb0 [7] [(9,v3)]<|gn hK12<|ws fun K13 hK13=>wr [(0,0),(1,0)]<|gb0 [0,1] [(12,.slice A2 l2.length c2),(31,.slice A2 l2.length c2)]<|gn hK13<|ws fun K14 hK14=>?_
   rcases hq1:pr_Flat.p1 l2 e1 with _ | (m4 | rr1)
   ·rw [hq1] at h; cases h
   ·rw [hq1] at h
    simp only [] at h
    refine kp (pr_Flat_p1 K w0 Z l0 A0 c0 x1 l2 A2 c2 x3 hZ hR0 hL0 hR2 hL2 rec_pr_Flat hr_pr_Flat ft1 wf1 ft2 wf2 m1 hds1 i1 hsb1 hd1 hc1 e1 hx1 An1 cn1 An2 cn2 An3 cn3 An4 cn4 An5 cn5 hCs1 hLn1 hRn1 hLn2 hRn2 hLn3 hRn3 hLn4 hRn4 hLn5 hRn5 b1 Z1 cz1 hc2 b2 hc3 v3 hd3 _ hq1 _ hS13 _ ?_)
    rintro _ a w9 ⟨rfl,ft6,wf6,Z4,cz4,hRz2,hRz3,hRz4,hS31,hF⟩
    replace hS31:St w0 w9 [bk b1 #[vI e1.Kind,vI e1.N,vI e1.E.Kind,vI e1.E.N,.slice An1 e1.E.A.length cn1,vI e1.If.Kind,vI e1.If.A.Kind,vI e1.If.A.N,.slice An2 e1.If.A.A.length cn2,vI e1.If.B.Kind,vI e1.If.B.N,.slice An3 e1.If.B.A.length cn3,.slice An4 e1.Body.length cn4,.slice An5 e1.Else.length cn5] 70,Own.of v3 101 (hds1++[(⟨e1.Kind,e1.N,e1.E.Kind,e1.E.N,⟨An1,e1.E.A.length,cn1⟩,e1.If.Kind,e1.If.A.Kind,e1.If.A.N,⟨An2,e1.If.A.A.length,cn2⟩,e1.If.B.Kind,e1.If.B.N,⟨An3,e1.If.B.A.length,cn3⟩,⟨An4,e1.Body.length,cn4⟩,⟨An5,e1.Else.length,cn5⟩,x1,⟨A2,l2.length,c2⟩⟩:Hstatement)]),Own.frz ft6 wf6]:=hS31
    refine hK14 [(1,vI x1),(2,.slice A2 l2.length c2),(3,vI x3),(9,v3),(11,pP b1 0),(12,.slice Z4 m4.length cz4),(13,.slice A0 l0.length c0),(14,vI (l0.length:Int)),(15,vI (i1:Int))] w9 ?_ a hF
    refine ws fun K16 hK16=>wr [(0,0),(1,0),(2,0),(3,0),(4,0),(5,0),(6,0),(7,1),(8,2),(9,0)] ?_
    rcases hq2:rec_pr_Flat e1.Body (IntKind.i64.wrap (x1+1)) m4 x3 with _ | r1
    ·rw [hq2] at h; cases h
    rw [hq2] at h
    simp only [] at h
    refine gb [0,1,2,3,4,5,6] [(48,vI x3),(47,.slice Z4 m4.length cz4),(46,vI (IntKind.i64.wrap (x1+1))),(45,vI x1),(44,.slice An4 e1.Body.length cn4),(43,pP b1 12),(42,v3)] [ld b1 12 (.slice An4 e1.Body.length cn4)] ⟨hS31.c 0,trivial⟩<|ge_call (d:=some 49) (f:=44) (args:=#[.slice An4 e1.Body.length cn4,vI (IntKind.i64.wrap (x1+1)),.slice Z4 m4.length cz4,vI x3]) (by kernel_rfl) (hr_pr_Flat (Zand Z wf6) e1.Body An4 cn4 (IntKind.i64.wrap (x1+1)) m4 Z4 cz4 x3 _ (fun w' k=>⟨(hZ w' (hS31.subw.trans k)),(hS31.frzSub 2 rfl).trans k⟩) (hRn4.up (ZLe.in _ _)) hLn4 hRz3 hRz4 _ hq2) ?_
    rintro _ w10 ⟨v6,hds3,ft7,wf7,rfl,hd4,hS32⟩
    refine ⟨_,rfl,hS32.below,?_⟩
    have hS35:=((hS31.call hS32).b 4).b 2
    obtain ⟨ft8,wf8,hsb5,hsb6,hS36⟩:=hS35.frzMerge
    replace hd4:DRows (Zand Z wf8) hds3 r1:=hd4.up (ZLe.both hsb6 hsb5)
    obtain ⟨Z5,cz5,rfl⟩:=hS36.dopen 1 rfl hd4
    have hS37:=hS36.b 1
    obtain ⟨ft9,wf9,hsb7,-,hRd2,hLd2,hS38⟩:=hS37.dfrz (Z:=Z) hd4
    obtain ⟨hds4,hd5,hf1⟩:=hRd2.ex
    have hS39:=hS38.b 2
    by_cases hc7:(m1++[(⟨e1,x1,l2⟩:Sstatement)]).length+r1.length≤628292358729
    ·rw [if_pos hc7] at h
     have hd6:DRows (Zand Z wf9) ((hds1++[(⟨e1.Kind,e1.N,e1.E.Kind,e1.E.N,⟨An1,e1.E.A.length,cn1⟩,e1.If.Kind,e1.If.A.Kind,e1.If.A.N,⟨An2,e1.If.A.A.length,cn2⟩,e1.If.B.Kind,e1.If.B.N,⟨An3,e1.If.B.A.length,cn3⟩,⟨An4,e1.Body.length,cn4⟩,⟨An5,e1.Else.length,cn5⟩,x1,⟨A2,l2.length,c2⟩⟩:Hstatement)])++hds4) ((m1++[(⟨e1,x1,l2⟩:Sstatement)])++r1):=DRows.app (hd3.up (ZLe.up ((hRz2.trans hsb6).trans hsb7))) hd5
     refine ge_same (t:=49) (v:=.slice Z5 r1.length cz5) (v':=.slice Z5 hds4.length cz5) (by kernel_rfl) (congrArg (fun z=>Value.slice Z5 z cz5) (show r1.length=hds4.length from (DRows.len hd5).symm)) ?_
     refine ge_appendL (α:=Hstatement) (m:=0) (d:=50) (t:=98) (el:=101) (bytes:=224) (c1:=cz5) (A1:=Z5) (x:=(.tmp 42)) (y:=(.tmp 49)) (ty:=98) (v:=v3) (z:=.agg #[vI 0,vI 0,vI 0,vI 0,.slice none 0 0,vI 0,vI 0,vI 0,.slice none 0 0,vI 0,vI 0,.slice none 0 0,.slice none 0 0,.slice none 0 0,vI 0,.slice none 0 0]) (l:=(hds1++[(⟨e1.Kind,e1.N,e1.E.Kind,e1.E.N,⟨An1,e1.E.A.length,cn1⟩,e1.If.Kind,e1.If.A.Kind,e1.If.A.N,⟨An2,e1.If.A.A.length,cn2⟩,e1.If.B.Kind,e1.If.B.N,⟨An3,e1.If.B.A.length,cn3⟩,⟨An4,e1.Body.length,cn4⟩,⟨An5,e1.Else.length,cn5⟩,x1,⟨A2,l2.length,c2⟩⟩:Hstatement)])) (us:=hds4) (by kernel_rfl) (by kernel_rfl) (by kernel_rfl) (by kernel_rfl) (by kernel_rfl) rfl hS39 (hf1 _ ⟨(hZ _ hS39.subw),(hS39.frzSub 1 rfl)⟩) rfl (Nat.mul_le_of_le_div _ _ _ (by have h0:(hds1++[(⟨e1.Kind,e1.N,e1.E.Kind,e1.E.N,⟨An1,e1.E.A.length,cn1⟩,e1.If.Kind,e1.If.A.Kind,e1.If.A.N,⟨An2,e1.If.A.A.length,cn2⟩,e1.If.B.Kind,e1.If.B.N,⟨An3,e1.If.B.A.length,cn3⟩,⟨An4,e1.Body.length,cn4⟩,⟨An5,e1.Else.length,cn5⟩,x1,⟨A2,l2.length,c2⟩⟩:Hstatement)]).length=(m1++[(⟨e1,x1,l2⟩:Sstatement)]).length:=DRows.len (hd3.up (ZLe.up ((hRz2.trans hsb6).trans hsb7))); have h1:hds4.length=r1.length:=DRows.len hd5; omega)) fun v7 w11 hS40=>?_
     have hS41:St w0 w11 [Own.of v7 101 ((hds1++[(⟨e1.Kind,e1.N,e1.E.Kind,e1.E.N,⟨An1,e1.E.A.length,cn1⟩,e1.If.Kind,e1.If.A.Kind,e1.If.A.N,⟨An2,e1.If.A.A.length,cn2⟩,e1.If.B.Kind,e1.If.B.N,⟨An3,e1.If.B.A.length,cn3⟩,⟨An4,e1.Body.length,cn4⟩,⟨An5,e1.Else.length,cn5⟩,x1,⟨A2,l2.length,c2⟩⟩:Hstatement)])++hds4),Own.frz ft9 wf9,bk b1 #[vI e1.Kind,vI e1.N,vI e1.E.Kind,vI e1.E.N,.slice An1 e1.E.A.length cn1,vI e1.If.Kind,vI e1.If.A.Kind,vI e1.If.A.N,.slice An2 e1.If.A.A.length cn2,vI e1.If.B.Kind,vI e1.If.B.N,.slice An3 e1.If.B.A.length cn3,.slice An4 e1.Body.length cn4,.slice An5 e1.Else.length cn5] 70]:=hS40
     refine gb0 [9] [(9,v7)]<|gn hK16<|wr [(0,0),(1,0),(2,0),(3,0),(4,0),(5,0),(6,0),(7,1),(8,2),(9,0)] ?_
     rcases hq3:rec_pr_Flat e1.Else (IntKind.i64.wrap (x1+1)) m4 x3 with _ | r2
     ·rw [hq3] at h; cases h
     rw [hq3] at h
     simp only [] at h
     refine gb [0,1,2,3,4,5,6] [(57,vI x3),(56,.slice Z4 m4.length cz4),(55,vI (IntKind.i64.wrap (x1+1))),(54,vI x1),(53,.slice An5 e1.Else.length cn5),(52,pP b1 13),(51,v7)] [ld b1 13 (.slice An5 e1.Else.length cn5)] ⟨hS41.c 2,trivial⟩<|ge_call (d:=some 58) (f:=44) (args:=#[.slice An5 e1.Else.length cn5,vI (IntKind.i64.wrap (x1+1)),.slice Z4 m4.length cz4,vI x3]) (by kernel_rfl) (hr_pr_Flat (Zand Z wf9) e1.Else An5 cn5 (IntKind.i64.wrap (x1+1)) m4 Z4 cz4 x3 _ (fun w' k=>⟨(hZ w' (hS41.subw.trans k)),(hS41.frzSub 1 rfl).trans k⟩) (hRn5.up (ZLe.in _ _)) hLn5 (hRz3.up (ZLe.up (hsb6.trans hsb7))) hRz4 _ hq3) ?_
     rintro _ w12 ⟨v8,hds5,ft10,wf10,rfl,hd7,hS42⟩
     refine ⟨_,rfl,hS42.below,?_⟩
     have hS45:=((hS41.call hS42).b 3).b 2
     obtain ⟨ft11,wf11,hsb8,hsb9,hS46⟩:=hS45.frzMerge
     replace hd7:DRows (Zand Z wf11) hds5 r2:=hd7.up (ZLe.both hsb9 hsb8)
     obtain ⟨Z6,cz6,rfl⟩:=hS46.dopen 1 rfl hd7
     have hS47:=hS46.b 1
     obtain ⟨ft12,wf12,hsb10,-,hRd3,hLd3,hS48⟩:=hS47.dfrz (Z:=Z) hd7
     obtain ⟨hds6,hd8,hf2⟩:=hRd3.ex
     have hS49:=hS48.b 1
     by_cases hc8:((m1++[(⟨e1,x1,l2⟩:Sstatement)])++r1).length+r2.length≤628292358729
     ·rw [if_pos hc8] at h
      have hd9:DRows (Zand Z wf12) (((hds1++[(⟨e1.Kind,e1.N,e1.E.Kind,e1.E.N,⟨An1,e1.E.A.length,cn1⟩,e1.If.Kind,e1.If.A.Kind,e1.If.A.N,⟨An2,e1.If.A.A.length,cn2⟩,e1.If.B.Kind,e1.If.B.N,⟨An3,e1.If.B.A.length,cn3⟩,⟨An4,e1.Body.length,cn4⟩,⟨An5,e1.Else.length,cn5⟩,x1,⟨A2,l2.length,c2⟩⟩:Hstatement)])++hds4)++hds6) (((m1++[(⟨e1,x1,l2⟩:Sstatement)])++r1)++r2):=DRows.app (hd6.up (ZLe.up (hsb9.trans hsb10))) hd8
      refine ge_same (t:=58) (v:=.slice Z6 r2.length cz6) (v':=.slice Z6 hds6.length cz6) (by kernel_rfl) (congrArg (fun z=>Value.slice Z6 z cz6) (show r2.length=hds6.length from (DRows.len hd8).symm)) ?_
      refine ge_appendL (α:=Hstatement) (m:=0) (d:=59) (t:=98) (el:=101) (bytes:=224) (c1:=cz6) (A1:=Z6) (x:=(.tmp 51)) (y:=(.tmp 58)) (ty:=98) (v:=v7) (z:=.agg #[vI 0,vI 0,vI 0,vI 0,.slice none 0 0,vI 0,vI 0,vI 0,.slice none 0 0,vI 0,vI 0,.slice none 0 0,.slice none 0 0,.slice none 0 0,vI 0,.slice none 0 0]) (l:=((hds1++[(⟨e1.Kind,e1.N,e1.E.Kind,e1.E.N,⟨An1,e1.E.A.length,cn1⟩,e1.If.Kind,e1.If.A.Kind,e1.If.A.N,⟨An2,e1.If.A.A.length,cn2⟩,e1.If.B.Kind,e1.If.B.N,⟨An3,e1.If.B.A.length,cn3⟩,⟨An4,e1.Body.length,cn4⟩,⟨An5,e1.Else.length,cn5⟩,x1,⟨A2,l2.length,c2⟩⟩:Hstatement)])++hds4)) (us:=hds6) (by kernel_rfl) (by kernel_rfl) (by kernel_rfl) (by kernel_rfl) (by kernel_rfl) rfl hS49 (hf2 _ ⟨(hZ _ hS49.subw),(hS49.frzSub 1 rfl)⟩) rfl (Nat.mul_le_of_le_div _ _ _ (by have h0:((hds1++[(⟨e1.Kind,e1.N,e1.E.Kind,e1.E.N,⟨An1,e1.E.A.length,cn1⟩,e1.If.Kind,e1.If.A.Kind,e1.If.A.N,⟨An2,e1.If.A.A.length,cn2⟩,e1.If.B.Kind,e1.If.B.N,⟨An3,e1.If.B.A.length,cn3⟩,⟨An4,e1.Body.length,cn4⟩,⟨An5,e1.Else.length,cn5⟩,x1,⟨A2,l2.length,c2⟩⟩:Hstatement)])++hds4).length=((m1++[(⟨e1,x1,l2⟩:Sstatement)])++r1).length:=DRows.len (hd6.up (ZLe.up (hsb9.trans hsb10))); have h1:hds6.length=r2.length:=DRows.len hd8; omega)) fun v9 w13 hS50=>?_
      have hS51:St w0 w13 [Own.of v9 101 (((hds1++[(⟨e1.Kind,e1.N,e1.E.Kind,e1.E.N,⟨An1,e1.E.A.length,cn1⟩,e1.If.Kind,e1.If.A.Kind,e1.If.A.N,⟨An2,e1.If.A.A.length,cn2⟩,e1.If.B.Kind,e1.If.B.N,⟨An3,e1.If.B.A.length,cn3⟩,⟨An4,e1.Body.length,cn4⟩,⟨An5,e1.Else.length,cn5⟩,x1,⟨A2,l2.length,c2⟩⟩:Hstatement)])++hds4)++hds6),Own.frz ft12 wf12,bk b1 #[vI e1.Kind,vI e1.N,vI e1.E.Kind,vI e1.E.N,.slice An1 e1.E.A.length cn1,vI e1.If.Kind,vI e1.If.A.Kind,vI e1.If.A.N,.slice An2 e1.If.A.A.length cn2,vI e1.If.B.Kind,vI e1.If.B.N,.slice An3 e1.If.B.A.length cn3,.slice An4 e1.Body.length cn4,.slice An5 e1.Else.length cn5] 70]:=hS50
      refine gb0 [9] [(9,v9)]<|gn hK7<|wr [(0,0),(1,0)]<|ge_addn (d:=60) (ty:=3) (x:=(.tmp 15)) (y:=(.const (vI 1))) (t:=3) (t2:=3) (k:=.i64) (m:=i1) (by kernel_rfl) (by kernel_rfl) (by kernel_rfl) (by have h0:=RdZ.small hR0 (hZ _ hS51.subw); omega) ?_
      refine gb0 [1] [(15,vI ((i1+1:Nat):Int))] ?_
      have hS54:=hS51.p [0,1] rfl
      obtain rfl:=si h
      exact ge_nil fun a hF=>hQ _ _ _ (Outs.again ⟨ft12,wf12,v9,(((hds1++[(⟨e1.Kind,e1.N,e1.E.Kind,e1.E.N,⟨An1,e1.E.A.length,cn1⟩,e1.If.Kind,e1.If.A.Kind,e1.If.A.N,⟨An2,e1.If.A.A.length,cn2⟩,e1.If.B.Kind,e1.If.B.N,⟨An3,e1.If.B.A.length,cn3⟩,⟨An4,e1.Body.length,cn4⟩,⟨An5,e1.Else.length,cn5⟩,x1,⟨A2,l2.length,c2⟩⟩:Hstatement)])++hds4)++hds6),(((((hsb1.trans hRz2).trans hsb6).trans hsb7).trans hsb9).trans hsb10),hd9,hS54,hF.weaken ea⟩)
     rw [if_neg hc8] at h
     cases h
    rw [if_neg hc7] at h
    cases h
   rw [hq1] at h
   simp only [] at h
   refine kp (pr_Flat_p1 K w0 Z l0 A0 c0 x1 l2 A2 c2 x3 hZ hR0 hL0 hR2 hL2 rec_pr_Flat hr_pr_Flat ft1 wf1 ft2 wf2 m1 hds1 i1 hsb1 hd1 hc1 e1 hx1 An1 cn1 An2 cn2 An3 cn3 An4 cn4 An5 cn5 hCs1 hLn1 hRn1 hLn2 hRn2 hLn3 hRn3 hLn4 hRn4 hLn5 hRn5 b1 Z1 cz1 hc2 b2 hc3 v3 hd3 _ hq1 _ hS13 _ ?_)
   rintro _ a w1 ⟨_,rfl,hb⟩
   obtain rfl:=si h
   exact hQ _ _ _ (Outs.out nofun (Exits.on ⟨rfl,hb⟩))
  rw [if_neg hc3] at h
  cases h
 rw [if_neg hc1] at h
 refine wk 16 (decide ((i1:Int)<(l0.length:Int))) false (decide_eq_false hc1)<|wf ?_
 have hS56:=(hS.b 1).b 1
 obtain rfl:=si h
 exact we_exit fun a hF=>hQ _ _ _ (Outs.out nofun (Exits.here ⟨ft2,wf2,v1,hds1,hsb1,hd1,hS56,hF.weaken ea⟩))
theorem pr_Flat_step (K:Nat) (rec_pr_Flat:(List SStmt)→Int→(List Int)→Int→Option (List Sstatement)) (hr_pr_Flat:pr_Flat.Rec rec_pr_Flat) (Z:Zone) (l0:List SStmt) (A0:OA) (c0:Nat) (x1:Int) (l2:List Int) (A2:OA) (c2:Nat) (x3:Int) (w0:World) (hZ:∀ w,Sub w0 w→Z w) (hR0:RdZ Z A0 l0) (hL0:l0.length≤c0) (hR2:RdF Z A2 l2) (hL2:l2.length≤c2) (r:List Sstatement) (h:pr_Flat.b K rec_pr_Flat l0 x1 l2 x3=some r) :
  Calls Try.prog 44 #[.slice A0 l0.length c0,vI x1,.slice A2 l2.length c2,vI x3] w0 (pr_Flat.Post w0 Z r):=by
 have hS:=St.start w0
 unfold pr_Flat.b at h
 refine calls_enter (n:=62) (args:=[.slice A0 l0.length c0,vI x1,.slice A2 l2.length c2,vI x3]) (fn:=Try.f44) rfl rfl rfl rfl ?_
 show WE _ _ _ _ [(0,.slice A0 l0.length c0),(1,vI x1),(2,.slice A2 l2.length c2),(3,vI x3)] _
 obtain ⟨ft1,wf1,hS1⟩:=hS.frz0
 refine ws fun K1 hK1=>wr [(0,0)]<|gb0 [0] [(8,.slice none 0 0)]<|gn hK1<|ws fun K2 hK2=>wr [(0,0)]<|gb0 [0] [(9,.slice none 0 0)]<|gn hK2<|ws fun K3 hK3=>ws fun K4 hK4=>wr [(0,0),(1,0),(2,0)]<|gb0 [0,1,2] [(15,vI 0),(14,vI (l0.length:Int)),(13,.slice A0 l0.length c0)]<|gn hK4<|we_block ?_
 have hS4:=((hS1.nil (α:=Hstatement) 101).b 1).b 1
 rcases hq4:iter (pr_Flat.r0 l0 x1 l2 x3 rec_pr_Flat) K (([]:List Sstatement),0) with _ | (m5 | rr2)
 ·rw [hq4] at h; cases h
 ·rw [hq4] at h
  simp only [] at h
  refine we_iter (A:=pr_Flat.A0 w0 Z l0 A0 c0 x1 l2 A2 c2 x3 wf1) (B:=pr_Flat.B0 w0 Z wf1) hq4 (fun a hF=>⟨ft1,wf1,(.slice none 0 0),([]:List Hstatement),(Sub.refl _),(DRows.nil _),hS4,hF.weaken ea⟩) (fun s o hf a w hA Q hQ=>pr_Flat_r0 K w0 Z l0 A0 c0 x1 l2 A2 c2 x3 hZ hR0 hL0 hR2 hL2 rec_pr_Flat hr_pr_Flat ft1 wf1 s o hf a w hA Q hQ) ?_
  rintro _ a w14 _ ⟨rfl,ft13,wf13,v10,hds7,hRz5,hRz6,hS57,hF⟩
  replace hS57:St w0 w14 [Own.of v10 101 hds7,Own.frz ft13 wf13]:=hS57
  refine hK3 [(9,v10)] w14 ?_ a hF
  refine ws fun K17 hK17=>wr [(0,0),(1,0)]<|gb0 [0,1] [(8,v10),(61,v10)]<|gn hK17 ?_
  have hS59:=(hS57.b 1).b 1
  obtain rfl:=si h
  exact we_ret (pr0 [.tmp 8] [v10] ⟨v10,hds7,ft13,wf13,rfl,hRz6,hS59⟩)
 rw [hq4] at h
 simp only [] at h
 refine we_iter (A:=pr_Flat.A0 w0 Z l0 A0 c0 x1 l2 A2 c2 x3 wf1) (B:=pr_Flat.B0 w0 Z wf1) hq4 (fun a hF=>⟨ft1,wf1,(.slice none 0 0),([]:List Hstatement),(Sub.refl _),(DRows.nil _),hS4,hF.weaken ea⟩) (fun s o hf a w hA Q hQ=>pr_Flat_r0 K w0 Z l0 A0 c0 x1 l2 A2 c2 x3 hZ hR0 hL0 hR2 hL2 rec_pr_Flat hr_pr_Flat ft1 wf1 s o hf a w hA Q hQ) ?_
 rintro _ a w1 _ ⟨rfl,hb⟩
 obtain rfl:=si h
 exact hb
def pr_Flat.recs (K : Nat) : Nat → ((List SStmt) → Int → (List Int) → Int → Option (List Sstatement))
 | 0=>fun _ _ _ _=>none
 | n+1=>pr_Flat.b K (pr_Flat.recs K n)
theorem pr_Flat_all (K n:Nat):pr_Flat.Rec (pr_Flat.recs K n):=by
 induction n with
 | zero=>exact (by unfold pr_Flat.Rec; intros; rename_i h; cases (show none=some _ from h))
 | succ n ih=>exact pr_Flat_step K _ ih
def pr_Flat.f (K : Nat) (l0 : List SStmt) (x1 : Int) (l2 : List Int) (x3 : Int) : Option (List Sstatement) := (pr_Flat.recs K K) l0 x1 l2 x3
theorem pr_Flat_ok (K:Nat) (Z:Zone) (l0:List SStmt) (A0:OA) (c0:Nat) (x1:Int) (l2:List Int) (A2:OA) (c2:Nat) (x3:Int) (w0:World) (hZ:∀ w,Sub w0 w→Z w) (hR0:RdZ Z A0 l0) (hL0:l0.length≤c0) (hR2:RdF Z A2 l2) (hL2:l2.length≤c2) (r:List Sstatement) (h:pr_Flat.f K l0 x1 l2 x3=some r):Calls Try.prog 44 #[.slice A0 l0.length c0,vI x1,.slice A2 l2.length c2,vI x3] w0 (pr_Flat.Post w0 Z r):=(pr_Flat_all K K) Z l0 A0 c0 x1 l2 A2 c2 x3 w0 hZ hR0 hL0 hR2 hL2 r h

/-! punctual/punctualref.emptyExpr -/
abbrev pr_emptyExpr.Post (w0:World) (r:Bool) (e:Ending) (w:World):Prop:=e=.returned (.bool r)∧St w0 w []
def pr_emptyExpr.f (x0_0 : Int) (x0_1 : Int) (l0_2 : List SExpr) : Bool :=
 if x0_0=0 then
  if x0_1=0 then
   ((l0_2.length:Int)==0)
  else
   false
 else
  false
theorem pr_emptyExpr_ok (Z:Zone) (x0_0 x0_1:Int) (l0_2:List SExpr) (A0_2:OA) (c0_2:Nat) (w0:World) (hZ:∀ w,Sub w0 w→Z w) (hR0_2:RdZ Z A0_2 l0_2) (hL0_2:l0_2.length≤c0_2) (r:Bool) (h:pr_emptyExpr.f x0_0 x0_1 l0_2=r) :
  Calls Try.prog 60 #[.agg #[vI x0_0,vI x0_1,.slice A0_2 l0_2.length c0_2]] w0 (pr_emptyExpr.Post w0 r):=by
 have hS:=St.start w0
 unfold pr_emptyExpr.f at h
 refine calls_enter (n:=17) (args:=[.agg #[vI x0_0,vI x0_1,.slice A0_2 l0_2.length c0_2]]) (fn:=Try.f60) rfl rfl rfl rfl ?_
 show WE _ _ _ _ [(0,.agg #[vI x0_0,vI x0_1,.slice A0_2 l0_2.length c0_2])] _
 refine ws fun K1 hK1=>wr [(0,1),(1,0)]<|gw (some 1) (.cells #[vI x0_0,vI x0_1,.slice A0_2 l0_2.length c0_2] 66) (fun b=>pP b 0) hS fun b1 w1 hx1 hS1=>?_
 refine gb0 [1] [(2,.bool false)]<|gn hK1<|ws fun K2 hK2=>wr [(0,0),(1,0),(2,0),(3,0),(4,0),(5,0),(6,0),(7,0),(8,0),(9,0),(10,0),(11,0),(12,0),(13,0),(14,0)]<|gb [0,1,2,3] [(6,.bool (x0_0==0)),(5,.bool (x0_0==0)),(4,vI x0_0),(3,pP b1 0)] [ld b1 0 (vI x0_0)] ⟨hS1.c 0,trivial⟩ ?_
 by_cases hc1:x0_0=0
 ·rw [if_pos hc1] at h
  refine gk 6 (x0_0==0) true (beq_iff_eq.2 hc1)<|gb [4,5,6,7,8] [(11,.bool (x0_1==0)),(10,.bool (x0_1==0)),(9,.bool (x0_1==0)),(8,vI x0_1),(7,pP b1 1)] [ld b1 1 (vI x0_1)] ⟨hS1.c 0,trivial⟩ ?_
  by_cases hc2:x0_1=0
  ·rw [if_pos hc2] at h
   refine gk 11 (x0_1==0) true (beq_iff_eq.2 hc2)<|gb [9,10,11,12,13,14] [(2,.bool ((l0_2.length:Int)==0)),(16,.bool ((l0_2.length:Int)==0)),(15,.bool ((l0_2.length:Int)==0)),(14,vI (l0_2.length:Int)),(13,.slice A0_2 l0_2.length c0_2),(12,pP b1 2)] [ld b1 2 (.slice A0_2 l0_2.length c0_2)] ⟨hS1.c 0,trivial⟩<|gn hK2 ?_
   have hS2:=hS1.takeN 0
   subst h
   exact we_ret (pr0 [.tmp 2] [.bool ((l0_2.length:Int)==0)] ⟨rfl,hS2⟩)
  rw [if_neg hc2] at h
  refine gk 11 (x0_1==0) false (beq_eq_false_iff_ne.2 hc2)<|gb0 [9,10,11,12,13,14] [(2,.bool false),(16,.bool false),(15,undef),(14,undef),(13,undef),(12,undef)]<|gn hK2 ?_
  have hS3:=hS1.takeN 0
  subst h
  exact we_ret (pr0 [.tmp 2] [.bool false] ⟨rfl,hS3⟩)
 rw [if_neg hc1] at h
 refine gk 6 (x0_0==0) false (beq_eq_false_iff_ne.2 hc1)<|gb0 [4,5,6,7,8,9,10,11,12,13,14] [(2,.bool false),(16,.bool false),(15,undef),(14,undef),(13,undef),(12,undef),(11,.bool false),(10,.bool false),(9,undef),(8,undef),(7,undef)]<|gn hK2 ?_
 have hS4:=hS1.takeN 0
 subst h
 exact we_ret (pr0 [.tmp 2] [.bool false] ⟨rfl,hS4⟩)

/-! punctual/punctualref.nodes -/
abbrev pr_nodes.Post (w0:World) (Z:Zone) (r:List SExpr) (e:Ending) (w:World):Prop:=∃ (v1:Value) (hds1:List HExpr) (ft:List Nat) (wf:World),e=.returned (v1)∧DRows (Zand Z wf) hds1 r∧St w0 w [Own.of v1 66 hds1,Own.frz ft wf]
abbrev pr_nodes.Rec (rec_pr_nodes:Int→Int→(List SExpr)→Int→Option (List SExpr)):Prop:=∀ (Z:Zone) (x0_0:Int) (x0_1:Int) (l0_2:List SExpr) (A0_2:OA) (c0_2:Nat) (x1:Int) (w0:World) (hZ:∀ w,Sub w0 w→Z w) (hR0_2:RdZ Z A0_2 l0_2) (hL0_2:l0_2.length≤c0_2) (r:List SExpr) (h:rec_pr_nodes x0_0 x0_1 l0_2 x1=some r),Calls Try.prog 87 #[.agg #[vI x0_0,vI x0_1,.slice A0_2 l0_2.length c0_2],vI x1] w0 (pr_nodes.Post w0 Z r)
def pr_nodes.r0 (l0_2 : List SExpr) (x1 : Int) (rec_pr_nodes : Int → Int → (List SExpr) → Int → Option (List SExpr)) : (List SExpr) × Nat → Option (((List SExpr) × Nat) ⊕ ((List SExpr) ⊕ (List SExpr)))
 | (m1,i1) =>
  if (i1:Int)<(l0_2.length:Int) then
   match l0_2[i1]? with
   | none=>none
   | some e1 =>
    if (m1.length:Int) > x1 then
     some (.inr (.inr m1))
    else
     match rec_pr_nodes e1.Kind e1.N e1.A x1 with
     | none=>none
     | some r1 =>
      if m1.length+r1.length≤3518437208883 then
       some (.inl ((m1++r1),(i1+1)))
      else
       none
  else
   some (.inr (.inl m1))
def pr_nodes.b (K : Nat) (rec_pr_nodes : Int → Int → (List SExpr) → Int → Option (List SExpr)) (x0_0 : Int) (x0_1 : Int) (l0_2 : List SExpr) (x1 : Int) : Option (List SExpr) :=
 match iter (pr_nodes.r0 l0_2 x1 rec_pr_nodes) K (([(⟨x0_0,x0_1,l0_2⟩:SExpr)]:List SExpr),0) with
 | none=>none
 | some (.inl m3) =>
  some m3
 | some (.inr rr1) =>
  some rr1
abbrev pr_nodes.A0 (w0:World) (Z:Zone) (l0_2:List SExpr) (A0_2:OA) (c0_2:Nat) (x1:Int) (wf1:World):((List SExpr)×Nat)→Act→World→Prop:=fun (s:(List SExpr)×Nat) a w=>∃ (ft2:List Nat) (wf2:World) (v1:Value) (hds1:List HExpr),Sub wf1 wf2∧DRows (Zand Z wf2) hds1 s.1∧St w0 w [Own.of v1 66 hds1,Own.frz ft2 wf2]∧Frm 29 a [(1,vI x1),(5,v1),(11,.slice A0_2 l0_2.length c0_2),(12,vI (l0_2.length:Int)),(13,vI (s.2:Int))]
abbrev pr_nodes.B0 (w0:World) (Z:Zone) (wf1:World):((List SExpr) ⊕ (List SExpr))→Exit→Act→World→Prop:=Exits 0 (fun (s:(List SExpr)) a w=>∃ (ft3:List Nat) (wf3:World) (v2:Value) (hds2:List HExpr),Sub wf1 wf3∧DRows (Zand Z wf3) hds2 s∧St w0 w [Own.of v2 66 hds2,Own.frz ft3 wf3]∧Frm 29 a [(5,v2)]) (Rets Try.prog Try.f87 (pr_nodes.Post w0 Z))
theorem pr_nodes_r0 (K:Nat) (w0:World) (Z:Zone) (x0_0 x0_1:Int) (l0_2:List SExpr) (A0_2:OA) (c0_2:Nat) (x1:Int) (hZ:∀ w,Sub w0 w→Z w) (hR0_2:RdZ Z A0_2 l0_2) (hL0_2:l0_2.length≤c0_2) (rec_pr_nodes:Int→Int→(List SExpr)→Int→Option (List SExpr)) (hr_pr_nodes:pr_nodes.Rec rec_pr_nodes) (ft1:List Nat) (wf1:World) (b1 b2:Nat) (s:(List SExpr)×Nat) (o:((List SExpr)×Nat) ⊕ ((List SExpr) ⊕ (List SExpr))) (h:pr_nodes.r0 l0_2 x1 rec_pr_nodes s=some o) (a:Act) (w:World) (hA:pr_nodes.A0 w0 Z l0_2 A0_2 c0_2 x1 wf1 s a w) (Q:Exit→Act→World→Prop) (hQ:∀ x a w,Outs (pr_nodes.A0 w0 Z l0_2 A0_2 c0_2 x1 wf1) (pr_nodes.B0 w0 Z wf1) o x a w→Q x a w):(subF Try.f87 [1,1,0,1,0,0]).wp Try.prog Q a w:=by
 obtain ⟨m1,i1⟩:=s
 obtain ⟨ft2,wf2,v1,hds1,hsb1,hd1,hS,hF⟩:=hA
 replace hS:St w0 w [Own.of v1 66 hds1,Own.frz ft2 wf2]:=hS
 simp only [pr_nodes.r0] at h
 refine (?_:WE Try.prog 29 (subF Try.f87 [1,1,0,1,0,0]) Q [(1,vI x1),(5,v1),(11,.slice A0_2 l0_2.length c0_2),(12,vI (l0_2.length:Int)),(13,vI (i1:Int))] w) a hF
 clear hF a
 refine ws fun K5 hK5=>wr [(0,0)]<|gb0 [0] [(14,.bool (decide ((i1:Int)<(l0_2.length:Int))))]<|gn hK5<|ws fun K6 hK6=>?_
 by_cases hc1:(i1:Int)<(l0_2.length:Int)
 ·rw [if_pos hc1] at h
  refine wk 14 (decide ((i1:Int)<(l0_2.length:Int))) true (decide_eq_true hc1)<|wt<|we_skip fun a hF=>hK6 _ _ ?_ a hF
  refine ws fun K7 hK7=>we_block<|ws fun K8 hK8=>wr [(0,0),(1,0),(2,1),(3,2)] ?_
  rcases hx3:l0_2[i1]? with _ | e1
  ·rw [hx3] at h; cases h
  rw [hx3] at h
  simp only [] at h
  obtain ⟨An1,cn1,hCs1,hLn1,hRn1⟩:=SExpr.getZ hR0_2 hx3
  refine gi 15 0 64 66 3 l0_2.length c0_2 (.tmp 11) (.tmp 13) A0_2 .i64 (i1:Int) i1 (hR0_2.eqSome (hZ _ hS.subw) (pos_of_get hx3)) rfl (lt_of_get hx3) ?_
  refine gb [1] [(16,.agg #[vI e1.Kind,vI e1.N,.slice An1 e1.A.length cn1])] [.loaded ⟨blkOf A0_2,offOf A0_2+i1*3,none⟩ (vI e1.Kind),.loaded ⟨blkOf A0_2,offOf A0_2+i1*3+1,none⟩ (vI e1.N),.loaded ⟨blkOf A0_2,offOf A0_2+i1*3+2,none⟩ (.slice An1 e1.A.length cn1)] ⟨hCs1 _ (hZ _ hS.subw) 0 _ rfl,hCs1 _ (hZ _ hS.subw) 1 _ rfl,hCs1 _ (hZ _ hS.subw) 2 _ rfl,trivial⟩<|gw (some 7) (.cells #[vI 0,vI 0,.slice none 0 0] 66) (fun b=>pP b 0) hS fun b3 w3 hx4 hS8=>?_
  refine gs b3 0 #[vI 0,vI 0,.slice none 0 0] 66 [vI e1.Kind,vI e1.N,.slice An1 e1.A.length cn1] hS8 fun w4 hS9=>?_
  have hS10:=hS9.nc #[vI e1.Kind,vI e1.N,.slice An1 e1.A.length cn1] (by kernel_rfl)
  refine gn hK8<|ws fun K9 hK9=>ws fun K10 hK10=>wr [(0,0),(1,0),(2,0),(3,0)]<|gb0 [0] [(17,v1)] ?_
  obtain ⟨Z1,cz1,rfl⟩:=hS10.dopen 1 rfl hd1
  refine gb0 [1,2,3] [(20,.bool (decide ((m1.length:Int) > x1))),(19,vI x1),(18,vI (m1.length:Int))]<|gn hK10 ?_
  by_cases hc2:(m1.length:Int) > x1
  ·rw [if_pos hc2] at h
   refine wk 20 (decide ((m1.length:Int) > x1)) true (decide_eq_true hc2)<|wt<|ws fun K11 hK11=>wr [(0,0),(1,0)]<|gb0 [0,1] [(4,(.slice Z1 m1.length cz1)),(21,(.slice Z1 m1.length cz1))]<|gn hK11 ?_
   have hS13:=hS10.p [1,2] rfl
   obtain rfl:=si h
   exact we_ret fun a hF=>hQ _ _ _ (Outs.out nofun (Exits.on ⟨rfl,(pr0 [.tmp 4] [(.slice Z1 m1.length cz1)] ⟨(.slice Z1 m1.length cz1),hds1,ft2,wf2,rfl,hd1,hS13⟩) a hF⟩))
  rw [if_neg hc2] at h
  refine wk 20 (decide ((m1.length:Int) > x1)) false (decide_eq_false hc2)<|wf<|we_skip fun a hF=>hK9 _ _ ?_ a hF
  refine wr [(0,0),(1,0),(2,0),(3,1),(4,2),(5,0)] ?_
  rcases hq1:rec_pr_nodes e1.Kind e1.N e1.A x1 with _ | r1
  ·rw [hq1] at h; cases h
  rw [hq1] at h
  simp only [] at h
  refine gb [0,1,2] [(24,vI x1),(23,.agg #[vI e1.Kind,vI e1.N,.slice An1 e1.A.length cn1]),(22,(.slice Z1 m1.length cz1))] [ld b3 0 (vI e1.Kind),ld b3 1 (vI e1.N),ld b3 2 (.slice An1 e1.A.length cn1)] ⟨hS10.c 0,hS10.c 0,hS10.c 0,trivial⟩<|ge_call (d:=some 25) (f:=87) (args:=#[.agg #[vI e1.Kind,vI e1.N,.slice An1 e1.A.length cn1],vI x1]) (by kernel_rfl) (hr_pr_nodes (Zand Z wf2) e1.Kind e1.N e1.A An1 cn1 x1 _ (fun w' k=>⟨(hZ w' (hS10.subw.trans k)),(hS10.frzSub 2 rfl).trans k⟩) (hRn1.up (ZLe.in _ _)) hLn1 _ hq1) ?_
  rintro _ w5 ⟨v3,hds3,ft4,wf4,rfl,hd4,hS14⟩
  refine ⟨_,rfl,hS14.below,?_⟩
  have hS17:=((hS10.call hS14).b 4).b 2
  obtain ⟨ft5,wf5,hsb3,hsb4,hS18⟩:=hS17.frzMerge
  replace hd4:DRows (Zand Z wf5) hds3 r1:=hd4.up (ZLe.both hsb4 hsb3)
  obtain ⟨Z2,cz2,rfl⟩:=hS18.dopen 1 rfl hd4
  have hS19:=hS18.b 1
  obtain ⟨ft6,wf6,hsb5,-,hRd1,hLd1,hS20⟩:=hS19.dfrz (Z:=Z) hd4
  obtain ⟨hds4,hd5,hf1⟩:=hRd1.ex
  have hS21:=hS20.b 2
  by_cases hc3:m1.length+r1.length≤3518437208883
  ·rw [if_pos hc3] at h
   have hd6:DRows (Zand Z wf6) (hds1++hds4) (m1++r1):=DRows.app (hd1.up (ZLe.up (hsb4.trans hsb5))) hd5
   refine ge_same (t:=25) (v:=.slice Z2 r1.length cz2) (v':=.slice Z2 hds4.length cz2) (by kernel_rfl) (congrArg (fun z=>Value.slice Z2 z cz2) (show r1.length=hds4.length from (DRows.len hd5).symm)) ?_
   refine ge_appendL (α:=HExpr) (m:=0) (d:=26) (t:=64) (el:=66) (bytes:=40) (c1:=cz2) (A1:=Z2) (x:=(.tmp 22)) (y:=(.tmp 25)) (ty:=64) (v:=(.slice Z1 m1.length cz1)) (z:=.agg #[vI 0,vI 0,.slice none 0 0]) (l:=hds1) (us:=hds4) (by kernel_rfl) (by kernel_rfl) (by kernel_rfl) (by kernel_rfl) (by kernel_rfl) rfl hS21 (hf1 _ ⟨(hZ _ hS21.subw),(hS21.frzSub 1 rfl)⟩) rfl (Nat.mul_le_of_le_div _ _ _ (by have h0:hds1.length=m1.length:=DRows.len (hd1.up (ZLe.up (hsb4.trans hsb5))); have h1:hds4.length=r1.length:=DRows.len hd5; omega)) fun v4 w6 hS22=>?_
   have hS23:St w0 w6 [Own.of v4 66 (hds1++hds4),Own.frz ft6 wf6,bk b3 #[vI e1.Kind,vI e1.N,.slice An1 e1.A.length cn1] 66]:=hS22
   refine gb0 [5] [(5,v4)]<|gn hK7<|wr [(0,0),(1,0)]<|ge_addn (d:=27) (ty:=3) (x:=(.tmp 13)) (y:=(.const (vI 1))) (t:=3) (t2:=3) (k:=.i64) (m:=i1) (by kernel_rfl) (by kernel_rfl) (by kernel_rfl) (by have h0:=RdZ.small hR0_2 (hZ _ hS23.subw); omega) ?_
   refine gb0 [1] [(13,vI ((i1+1:Nat):Int))] ?_
   have hS26:=hS23.p [0,1] rfl
   obtain rfl:=si h
   exact ge_nil fun a hF=>hQ _ _ _ (Outs.again ⟨ft6,wf6,v4,(hds1++hds4),((hsb1.trans hsb4).trans hsb5),hd6,hS26,hF.weaken ea⟩)
  rw [if_neg hc3] at h
  cases h
 rw [if_neg hc1] at h
 refine wk 14 (decide ((i1:Int)<(l0_2.length:Int))) false (decide_eq_false hc1)<|wf ?_
 have hS28:=(hS.b 1).b 1
 obtain rfl:=si h
 exact we_exit fun a hF=>hQ _ _ _ (Outs.out nofun (Exits.here ⟨ft2,wf2,v1,hds1,hsb1,hd1,hS28,hF.weaken ea⟩))
theorem pr_nodes_step (K:Nat) (rec_pr_nodes:Int→Int→(List SExpr)→Int→Option (List SExpr)) (hr_pr_nodes:pr_nodes.Rec rec_pr_nodes) (Z:Zone) (x0_0 x0_1:Int) (l0_2:List SExpr) (A0_2:OA) (c0_2:Nat) (x1:Int) (w0:World) (hZ:∀ w,Sub w0 w→Z w) (hR0_2:RdZ Z A0_2 l0_2) (hL0_2:l0_2.length≤c0_2) (r:List SExpr) (h:pr_nodes.b K rec_pr_nodes x0_0 x0_1 l0_2 x1=some r) :
  Calls Try.prog 87 #[.agg #[vI x0_0,vI x0_1,.slice A0_2 l0_2.length c0_2],vI x1] w0 (pr_nodes.Post w0 Z r):=by
 have hS:=St.start w0
 unfold pr_nodes.b at h
 refine calls_enter (n:=29) (args:=[.agg #[vI x0_0,vI x0_1,.slice A0_2 l0_2.length c0_2],vI x1]) (fn:=Try.f87) rfl rfl rfl rfl ?_
 show WE _ _ _ _ [(0,.agg #[vI x0_0,vI x0_1,.slice A0_2 l0_2.length c0_2]),(1,vI x1)] _
 obtain ⟨ft1,wf1,hS1⟩:=hS.frz0
 refine ws fun K1 hK1=>wr [(0,1),(1,0)]<|gw (some 2) (.cells #[vI x0_0,vI x0_1,.slice A0_2 l0_2.length c0_2] 66) (fun b=>pP b 0) hS1 fun b1 w1 hx1 hS2=>?_
 refine gb0 [1] [(4,.slice none 0 0)]<|gn hK1<|ws fun K2 hK2=>wr [(0,0),(1,1),(2,0)]<|gb [0] [(8,.agg #[vI x0_0,vI x0_1,.slice A0_2 l0_2.length c0_2])] [ld b1 0 (vI x0_0),ld b1 1 (vI x0_1),ld b1 2 (.slice A0_2 l0_2.length c0_2)] ⟨hS2.c 0,hS2.c 0,hS2.c 0,trivial⟩<|gw (some 9) (.cells #[vI x0_0,vI x0_1,.slice A0_2 l0_2.length c0_2] 66) (fun b=>.slice (some ⟨b,0,none⟩) 1 1) hS2 fun b2 w2 hx2 hS3=>?_
 refine gb0 [2] [(5,.slice (some ⟨b2,0,none⟩) 1 1)]<|gn hK2<|ws fun K3 hK3=>ws fun K4 hK4=>wr [(0,0),(1,0),(2,0),(3,0)]<|gb [0,1,2,3] [(13,vI 0),(12,vI (l0_2.length:Int)),(11,.slice A0_2 l0_2.length c0_2),(10,pP b1 2)] [ld b1 2 (.slice A0_2 l0_2.length c0_2)] ⟨hS3.c 1,trivial⟩<|gn hK4<|we_block ?_
 have hS4:=hS3.asRow (α:=HExpr) (c:=1) ([(⟨x0_0,x0_1,⟨A0_2,l0_2.length,c0_2⟩⟩:HExpr)]:List HExpr) (Nat.le_refl _) (by decide) rfl rfl
 have hd3:DRows (Zand Z wf1) ([(⟨x0_0,x0_1,⟨A0_2,l0_2.length,c0_2⟩⟩:HExpr)]:List HExpr) ([(⟨x0_0,x0_1,l0_2⟩:SExpr)]:List SExpr):=(DRows.add (DRows.nil _) (SExpr.mkZ (⟨x0_0,x0_1,l0_2⟩:SExpr) hL0_2 (hR0_2.up (ZLe.in _ _))))
 have hS7:=hS4.p [0,2] rfl
 rcases hq2:iter (pr_nodes.r0 l0_2 x1 rec_pr_nodes) K (([(⟨x0_0,x0_1,l0_2⟩:SExpr)]:List SExpr),0) with _ | (m3 | rr1)
 ·rw [hq2] at h; cases h
 ·rw [hq2] at h
  simp only [] at h
  refine we_iter (A:=pr_nodes.A0 w0 Z l0_2 A0_2 c0_2 x1 wf1) (B:=pr_nodes.B0 w0 Z wf1) hq2 (fun a hF=>⟨ft1,wf1,(.slice (some ⟨b2,0,none⟩) ([(⟨x0_0,x0_1,l0_2⟩:SExpr)]:List SExpr).length 1),([(⟨x0_0,x0_1,⟨A0_2,l0_2.length,c0_2⟩⟩:HExpr)]:List HExpr),(Sub.refl _),hd3,hS7,hF.weaken ea⟩) (fun s o hf a w hA Q hQ=>pr_nodes_r0 K w0 Z x0_0 x0_1 l0_2 A0_2 c0_2 x1 hZ hR0_2 hL0_2 rec_pr_nodes hr_pr_nodes ft1 wf1 b1 b2 s o hf a w hA Q hQ) ?_
  rintro _ a w7 _ ⟨rfl,ft7,wf7,v5,hds5,hRz1,hRz2,hS29,hF⟩
  replace hS29:St w0 w7 [Own.of v5 66 hds5,Own.frz ft7 wf7]:=hS29
  refine hK3 [(5,v5)] w7 ?_ a hF
  refine ws fun K12 hK12=>wr [(0,0),(1,0)]<|gb0 [0,1] [(4,v5),(28,v5)]<|gn hK12 ?_
  have hS31:=(hS29.b 1).b 1
  obtain rfl:=si h
  exact we_ret (pr0 [.tmp 4] [v5] ⟨v5,hds5,ft7,wf7,rfl,hRz2,hS31⟩)
 rw [hq2] at h
 simp only [] at h
 refine we_iter (A:=pr_nodes.A0 w0 Z l0_2 A0_2 c0_2 x1 wf1) (B:=pr_nodes.B0 w0 Z wf1) hq2 (fun a hF=>⟨ft1,wf1,(.slice (some ⟨b2,0,none⟩) ([(⟨x0_0,x0_1,l0_2⟩:SExpr)]:List SExpr).length 1),([(⟨x0_0,x0_1,⟨A0_2,l0_2.length,c0_2⟩⟩:HExpr)]:List HExpr),(Sub.refl _),hd3,hS7,hF.weaken ea⟩) (fun s o hf a w hA Q hQ=>pr_nodes_r0 K w0 Z x0_0 x0_1 l0_2 A0_2 c0_2 x1 hZ hR0_2 hL0_2 rec_pr_nodes hr_pr_nodes ft1 wf1 b1 b2 s o hf a w hA Q hQ) ?_
 rintro _ a w1 _ ⟨rfl,hb⟩
 obtain rfl:=si h
 exact hb
def pr_nodes.recs (K : Nat) : Nat → (Int → Int → (List SExpr) → Int → Option (List SExpr))
 | 0=>fun _ _ _ _=>none
 | n+1=>pr_nodes.b K (pr_nodes.recs K n)
theorem pr_nodes_all (K n:Nat):pr_nodes.Rec (pr_nodes.recs K n):=by
 induction n with
 | zero=>exact (by unfold pr_nodes.Rec; intros; rename_i h; cases (show none=some _ from h))
 | succ n ih=>exact pr_nodes_step K _ ih
def pr_nodes.f (K : Nat) (x0_0 : Int) (x0_1 : Int) (l0_2 : List SExpr) (x1 : Int) : Option (List SExpr) := (pr_nodes.recs K K) x0_0 x0_1 l0_2 x1
theorem pr_nodes_ok (K:Nat) (Z:Zone) (x0_0 x0_1:Int) (l0_2:List SExpr) (A0_2:OA) (c0_2:Nat) (x1:Int) (w0:World) (hZ:∀ w,Sub w0 w→Z w) (hR0_2:RdZ Z A0_2 l0_2) (hL0_2:l0_2.length≤c0_2) (r:List SExpr) (h:pr_nodes.f K x0_0 x0_1 l0_2 x1=some r):Calls Try.prog 87 #[.agg #[vI x0_0,vI x0_1,.slice A0_2 l0_2.length c0_2],vI x1] w0 (pr_nodes.Post w0 Z r):=(pr_nodes_all K K) Z x0_0 x0_1 l0_2 A0_2 c0_2 x1 w0 hZ hR0_2 hL0_2 r h

/-! punctual/punctualref.wrongExpr -/
abbrev pr_wrongExpr.Post (w0:World) (r:Int) (e:Ending) (w:World):Prop:=e=.returned (vI r)∧St w0 w []
def pr_wrongExpr.r0 (r1 : List SExpr) : Nat → Option (Nat ⊕ (Unit ⊕ Int))
 | i1 =>
  if (i1:Int)<(r1.length:Int) then
   match r1[i1]? with
   | none=>none
   | some e1 =>
    if (i1:Int)=30 then
     some (.inr (.inr 2))
    else
     if ((mget (mset (mset (mset (mset (mset (mset (mset ([]:List (Int×Int)) 1 0) 2 0) 3 0) 4 1) 5 2) 6 2) 7 2) e1.Kind).isSome)=true then
      if (e1.A.length:Int)=((mget (mset (mset (mset (mset (mset (mset (mset ([]:List (Int×Int)) 1 0) 2 0) 3 0) 4 1) 5 2) 6 2) 7 2) e1.Kind).getD 0) then
       if e1.N<0 then
        some (.inr (.inr 3))
       else
        if e1.N > ((mget (mset (mset (mset ([]:List (Int×Int)) 1 999999999) 2 7) 3 3) e1.Kind).getD 0) then
         some (.inr (.inr 3))
        else
         some (.inl (i1+1))
      else
       some (.inr (.inr 6))
     else
      some (.inr (.inr 6))
  else
   some (.inr (.inl ()))
def pr_wrongExpr.f (K : Nat) (x0_0 : Int) (x0_1 : Int) (l0_2 : List SExpr) : Option Int :=
 match pr_nodes.f K x0_0 x0_1 l0_2 31 with
 | none=>none
 | some r1 =>
  match iter (pr_wrongExpr.r0 r1) K 0 with
  | none=>none
  | some (.inl _) =>
   some 0
  | some (.inr rr1) =>
   some rr1
abbrev pr_wrongExpr.A0 (w0:World) (r1:List SExpr) (Z1:OA) (cz1:Nat) (wf4:World):Nat→Act→World→Prop:=fun (s:Nat) a w=>∃ (ft5:List Nat) (wf5:World),Sub wf4 wf5∧St w0 w [Own.frz ft5 wf5]∧Frm 50 a [(9,.slice Z1 r1.length cz1),(10,vI (r1.length:Int)),(11,vI (s:Int))]
abbrev pr_wrongExpr.B0 (w0 wf4:World):(Unit ⊕ Int)→Exit→Act→World→Prop:=Exits 0 (fun (s:Unit) a w=>∃ (ft6:List Nat) (wf6:World),Sub wf4 wf6∧St w0 w [Own.frz ft6 wf6]∧Frm 50 a []) (Rets Try.prog Try.f61 (pr_wrongExpr.Post w0))
theorem pr_wrongExpr_r0 (K:Nat) (w0:World) (Z:Zone) (x0_0 x0_1:Int) (l0_2:List SExpr) (A0_2:OA) (c0_2:Nat) (hZ:∀ w,Sub w0 w→Z w) (hR0_2:RdZ Z A0_2 l0_2) (hL0_2:l0_2.length≤c0_2) (ft1:List Nat) (wf1:World) (b1:Nat) (r1:List SExpr) (hds1:List HExpr) (ft2:List Nat) (wf2:World) (ft3:List Nat) (wf3:World) (hsb1:Sub wf2 wf3) (hsb2:Sub wf1 wf3) (hd1:DRows (Zand Z wf3) hds1 r1) (Z1:OA) (cz1:Nat) (ft4:List Nat) (wf4:World) (hsb3:Sub wf3 wf4) (hRd1:RdZ (Zand Z wf4) Z1 r1) (hLd1:r1.length≤cz1) (s:Nat) (o:Nat ⊕ (Unit ⊕ Int)) (h:pr_wrongExpr.r0 r1 s=some o) (a:Act) (w:World) (hA:pr_wrongExpr.A0 w0 r1 Z1 cz1 wf4 s a w) (Q:Exit→Act→World→Prop) (hQ:∀ x a w,Outs (pr_wrongExpr.A0 w0 r1 Z1 cz1 wf4) (pr_wrongExpr.B0 w0 wf4) o x a w→Q x a w):(subF Try.f61 [1,0,1,0,0]).wp Try.prog Q a w:=by
 obtain ⟨i1,hs⟩:∃ z,z=s:=⟨s,rfl⟩
 subst hs
 obtain ⟨ft5,wf5,hsb4,hS,hF⟩:=hA
 replace hS:St w0 w [Own.frz ft5 wf5]:=hS
 simp only [pr_wrongExpr.r0] at h
 refine (?_:WE Try.prog 50 (subF Try.f61 [1,0,1,0,0]) Q [(9,.slice Z1 r1.length cz1),(10,vI (r1.length:Int)),(11,vI (i1:Int))] w) a hF
 clear hF a
 refine ws fun K4 hK4=>wr [(0,0)]<|gb0 [0] [(12,.bool (decide ((i1:Int)<(r1.length:Int))))]<|gn hK4<|ws fun K5 hK5=>?_
 by_cases hc1:(i1:Int)<(r1.length:Int)
 ·rw [if_pos hc1] at h
  refine wk 12 (decide ((i1:Int)<(r1.length:Int))) true (decide_eq_true hc1)<|wt<|we_skip fun a hF=>hK5 _ _ ?_ a hF
  refine ws fun K6 hK6=>we_block<|ws fun K7 hK7=>wr [(0,0),(1,0),(2,0),(3,1),(4,0),(5,2)]<|gb0 [0] [(13,vI (i1:Int))] ?_
  rcases hx2:r1[i1]? with _ | e1
  ·rw [hx2] at h; cases h
  rw [hx2] at h
  simp only [] at h
  obtain ⟨An1,cn1,hCs1,hLn1,hRn1⟩:=SExpr.getZ hRd1 hx2
  refine gi 14 0 64 66 3 r1.length cz1 (.tmp 9) (.tmp 11) Z1 .i64 (i1:Int) i1 (hRd1.eqSome ⟨(hZ _ hS.subw),(hsb4.trans (hS.frzSub 0 rfl))⟩ (pos_of_get hx2)) rfl (lt_of_get hx2) ?_
  refine gb [2] [(15,.agg #[vI e1.Kind,vI e1.N,.slice An1 e1.A.length cn1])] [.loaded ⟨blkOf Z1,offOf Z1+i1*3,none⟩ (vI e1.Kind),.loaded ⟨blkOf Z1,offOf Z1+i1*3+1,none⟩ (vI e1.N),.loaded ⟨blkOf Z1,offOf Z1+i1*3+2,none⟩ (.slice An1 e1.A.length cn1)] ⟨hCs1 _ ⟨(hZ _ hS.subw),(hsb4.trans (hS.frzSub 0 rfl))⟩ 0 _ rfl,hCs1 _ ⟨(hZ _ hS.subw),(hsb4.trans (hS.frzSub 0 rfl))⟩ 1 _ rfl,hCs1 _ ⟨(hZ _ hS.subw),(hsb4.trans (hS.frzSub 0 rfl))⟩ 2 _ rfl,trivial⟩<|gw (some 4) (.cells #[vI 0,vI 0,.slice none 0 0] 66) (fun b=>pP b 0) hS fun b2 w3 hx3 hS11=>?_
  refine gb0 [4] [(3,vI (i1:Int))]<|gs b2 0 #[vI 0,vI 0,.slice none 0 0] 66 [vI e1.Kind,vI e1.N,.slice An1 e1.A.length cn1] hS11 fun w4 hS12=>?_
  have hS13:=hS12.nc #[vI e1.Kind,vI e1.N,.slice An1 e1.A.length cn1] (by kernel_rfl)
  refine gn hK7<|ws fun K8 hK8=>ws fun K9 hK9=>wr [(0,0),(1,0)]<|gb0 [0,1] [(17,.bool ((i1:Int)==30)),(16,vI (i1:Int))]<|gn hK9 ?_
  by_cases hc2:(i1:Int)=30
  ·rw [if_pos hc2] at h
   refine wk 17 ((i1:Int)==30) true (beq_iff_eq.2 hc2)<|wt<|ws fun K10 hK10=>wr [(0,0)]<|gb0 [0] [(2,vI 2)]<|gn hK10 ?_
   have hS14:=hS13.takeN 0
   obtain rfl:=si h
   exact we_ret fun a hF=>hQ _ _ _ (Outs.out nofun (Exits.on ⟨rfl,(pr0 [.tmp 2] [vI 2] ⟨rfl,hS14⟩) a hF⟩))
  rw [if_neg hc2] at h
  refine wk 17 ((i1:Int)==30) false (beq_eq_false_iff_ne.2 hc2)<|wf<|we_skip fun a hF=>hK8 _ _ ?_ a hF
  refine ws fun K11 hK11=>wr [(0,1),(1,2),(2,2),(3,2),(4,2),(5,2),(6,2),(7,2),(8,0),(9,0),(10,0),(11,0),(12,0),(13,0),(14,0),(15,0),(16,0)]<|gw (some 19) (.map #[] 0) (fun b=>.map (some b)) hS13 fun b3 w5 hx4 hS15=>?_
  have hS16:=hS15.newMap (κ:=Int) (ν:=Int)
  refine ge_mapSet (κ:=Int) (ν:=Int) (b:=b3) (ins:=true) (mm:=0) (t:=84) (kt:=3) (et:=3) (x:=(.tmp 19)) (y:=(.const (vI 1))) (u:=(.const (vI 0))) (ty:=0) (m:=([]:List (Int×Int))) (k:=1) (v:=0) (vv:=vI 0) (by kernel_rfl) (by kernel_rfl) (by kernel_rfl) (by kernel_rfl) rfl (by kernel_rfl) (by kernel_rfl) hS16 fun w6 hS17=>?_
  refine ge_mapSet (κ:=Int) (ν:=Int) (b:=b3) (ins:=true) (mm:=0) (t:=84) (kt:=3) (et:=3) (x:=(.tmp 19)) (y:=(.const (vI 2))) (u:=(.const (vI 0))) (ty:=0) (m:=(mset ([]:List (Int×Int)) 1 0)) (k:=2) (v:=0) (vv:=vI 0) (by kernel_rfl) (by kernel_rfl) (by kernel_rfl) (by kernel_rfl) rfl (by kernel_rfl) (by kernel_rfl) hS17 fun w7 hS18=>?_
  refine ge_mapSet (κ:=Int) (ν:=Int) (b:=b3) (ins:=true) (mm:=0) (t:=84) (kt:=3) (et:=3) (x:=(.tmp 19)) (y:=(.const (vI 3))) (u:=(.const (vI 0))) (ty:=0) (m:=(mset (mset ([]:List (Int×Int)) 1 0) 2 0)) (k:=3) (v:=0) (vv:=vI 0) (by kernel_rfl) (by kernel_rfl) (by kernel_rfl) (by kernel_rfl) rfl (by kernel_rfl) (by kernel_rfl) hS18 fun w8 hS19=>?_
  refine ge_mapSet (κ:=Int) (ν:=Int) (b:=b3) (ins:=true) (mm:=0) (t:=84) (kt:=3) (et:=3) (x:=(.tmp 19)) (y:=(.const (vI 4))) (u:=(.const (vI 1))) (ty:=0) (m:=(mset (mset (mset ([]:List (Int×Int)) 1 0) 2 0) 3 0)) (k:=4) (v:=1) (vv:=vI 1) (by kernel_rfl) (by kernel_rfl) (by kernel_rfl) (by kernel_rfl) rfl (by kernel_rfl) (by kernel_rfl) hS19 fun w9 hS20=>?_
  refine ge_mapSet (κ:=Int) (ν:=Int) (b:=b3) (ins:=true) (mm:=0) (t:=84) (kt:=3) (et:=3) (x:=(.tmp 19)) (y:=(.const (vI 5))) (u:=(.const (vI 2))) (ty:=0) (m:=(mset (mset (mset (mset ([]:List (Int×Int)) 1 0) 2 0) 3 0) 4 1)) (k:=5) (v:=2) (vv:=vI 2) (by kernel_rfl) (by kernel_rfl) (by kernel_rfl) (by kernel_rfl) rfl (by kernel_rfl) (by kernel_rfl) hS20 fun w10 hS21=>?_
  refine ge_mapSet (κ:=Int) (ν:=Int) (b:=b3) (ins:=true) (mm:=0) (t:=84) (kt:=3) (et:=3) (x:=(.tmp 19)) (y:=(.const (vI 6))) (u:=(.const (vI 2))) (ty:=0) (m:=(mset (mset (mset (mset (mset ([]:List (Int×Int)) 1 0) 2 0) 3 0) 4 1) 5 2)) (k:=6) (v:=2) (vv:=vI 2) (by kernel_rfl) (by kernel_rfl) (by kernel_rfl) (by kernel_rfl) rfl (by kernel_rfl) (by kernel_rfl) hS21 fun w11 hS22=>?_
  refine ge_mapSet (κ:=Int) (ν:=Int) (b:=b3) (ins:=true) (mm:=0) (t:=84) (kt:=3) (et:=3) (x:=(.tmp 19)) (y:=(.const (vI 7))) (u:=(.const (vI 2))) (ty:=0) (m:=(mset (mset (mset (mset (mset (mset ([]:List (Int×Int)) 1 0) 2 0) 3 0) 4 1) 5 2) 6 2)) (k:=7) (v:=2) (vv:=vI 2) (by kernel_rfl) (by kernel_rfl) (by kernel_rfl) (by kernel_rfl) rfl (by kernel_rfl) (by kernel_rfl) hS22 fun w12 hS23=>?_
  refine gb [8,9,10] [(22,vI e1.Kind),(21,pP b2 0),(20,.map (some b3))] [ld b2 0 (vI e1.Kind)] ⟨hS23.c 1,trivial⟩<|ge_lookup2 (κ:=Int) (ν:=Int) (d:=23) (b:=b3) (q:=0) (t:=84) (kt:=3) (et:=3) (x:=(.tmp 20)) (y:=(.tmp 22)) (ty:=136) (m:=(mset (mset (mset (mset (mset (mset (mset ([]:List (Int×Int)) 1 0) 2 0) 3 0) 4 1) 5 2) 6 2) 7 2)) (k:=e1.Kind) (z:=0) (v:=((mget (mset (mset (mset (mset (mset (mset (mset ([]:List (Int×Int)) 1 0) 2 0) 3 0) 4 1) 5 2) 6 2) 7 2) e1.Kind).getD 0)) (zv:=vI 0) (vv:=vI ((mget (mset (mset (mset (mset (mset (mset (mset ([]:List (Int×Int)) 1 0) 2 0) 3 0) 4 1) 5 2) 6 2) 7 2) e1.Kind).getD 0)) (by kernel_rfl) (by kernel_rfl) (by kernel_rfl) (by kernel_rfl) (by kernel_rfl) (fun w'=>by kernel_rfl) rfl hS23 rfl rfl rfl ?_
  refine gb0 [12,13,14,15,16] [(6,.bool ((mget (mset (mset (mset (mset (mset (mset (mset ([]:List (Int×Int)) 1 0) 2 0) 3 0) 4 1) 5 2) 6 2) 7 2) e1.Kind).isSome)),(5,vI ((mget (mset (mset (mset (mset (mset (mset (mset ([]:List (Int×Int)) 1 0) 2 0) 3 0) 4 1) 5 2) 6 2) 7 2) e1.Kind).getD 0)),(25,.bool ((mget (mset (mset (mset (mset (mset (mset (mset ([]:List (Int×Int)) 1 0) 2 0) 3 0) 4 1) 5 2) 6 2) 7 2) e1.Kind).isSome)),(24,vI ((mget (mset (mset (mset (mset (mset (mset (mset ([]:List (Int×Int)) 1 0) 2 0) 3 0) 4 1) 5 2) 6 2) 7 2) e1.Kind).getD 0)),(18,.tuple #[vI ((mget (mset (mset (mset (mset (mset (mset (mset ([]:List (Int×Int)) 1 0) 2 0) 3 0) 4 1) 5 2) 6 2) 7 2) e1.Kind).getD 0),.bool ((mget (mset (mset (mset (mset (mset (mset (mset ([]:List (Int×Int)) 1 0) 2 0) 3 0) 4 1) 5 2) 6 2) 7 2) e1.Kind).isSome)])]<|gn hK11<|ws fun K12 hK12=>ws fun K13 hK13=>wr [(0,0),(1,0),(2,0),(3,0),(4,0),(5,0),(6,0),(7,0),(8,0)]<|gb0 [0,1,2] [(28,.bool (!((mget (mset (mset (mset (mset (mset (mset (mset ([]:List (Int×Int)) 1 0) 2 0) 3 0) 4 1) 5 2) 6 2) 7 2) e1.Kind).isSome))),(27,.bool (!((mget (mset (mset (mset (mset (mset (mset (mset ([]:List (Int×Int)) 1 0) 2 0) 3 0) 4 1) 5 2) 6 2) 7 2) e1.Kind).isSome))),(26,.bool ((mget (mset (mset (mset (mset (mset (mset (mset ([]:List (Int×Int)) 1 0) 2 0) 3 0) 4 1) 5 2) 6 2) 7 2) e1.Kind).isSome))] ?_
  by_cases hc3:((mget (mset (mset (mset (mset (mset (mset (mset ([]:List (Int×Int)) 1 0) 2 0) 3 0) 4 1) 5 2) 6 2) 7 2) e1.Kind).isSome)=true
  ·rw [if_pos hc3] at h
   refine gk 28 (!((mget (mset (mset (mset (mset (mset (mset (mset ([]:List (Int×Int)) 1 0) 2 0) 3 0) 4 1) 5 2) 6 2) 7 2) e1.Kind).isSome)) false (congrArg (fun z=>!z) hc3)<|gb [3,4,5,6,7,8] [(34,.bool ((e1.A.length:Int) != ((mget (mset (mset (mset (mset (mset (mset (mset ([]:List (Int×Int)) 1 0) 2 0) 3 0) 4 1) 5 2) 6 2) 7 2) e1.Kind).getD 0))),(33,.bool ((e1.A.length:Int) != ((mget (mset (mset (mset (mset (mset (mset (mset ([]:List (Int×Int)) 1 0) 2 0) 3 0) 4 1) 5 2) 6 2) 7 2) e1.Kind).getD 0))),(32,vI ((mget (mset (mset (mset (mset (mset (mset (mset ([]:List (Int×Int)) 1 0) 2 0) 3 0) 4 1) 5 2) 6 2) 7 2) e1.Kind).getD 0)),(31,vI (e1.A.length:Int)),(30,.slice An1 e1.A.length cn1),(29,pP b2 2)] [ld b2 2 (.slice An1 e1.A.length cn1)] ⟨hS23.c 1,trivial⟩<|gn hK13 ?_
   by_cases hc4:(e1.A.length:Int)=((mget (mset (mset (mset (mset (mset (mset (mset ([]:List (Int×Int)) 1 0) 2 0) 3 0) 4 1) 5 2) 6 2) 7 2) e1.Kind).getD 0)
   ·rw [if_pos hc4] at h
    refine wk 34 ((e1.A.length:Int) != ((mget (mset (mset (mset (mset (mset (mset (mset ([]:List (Int×Int)) 1 0) 2 0) 3 0) 4 1) 5 2) 6 2) 7 2) e1.Kind).getD 0)) false (bne_eq_false_iff_eq.2 hc4)<|wf<|we_skip fun a hF=>hK12 _ _ ?_ a hF
    refine ws fun K14 hK14=>wr [(0,1),(1,2),(2,2),(3,2),(4,0),(5,0),(6,0),(7,0),(8,0)]<|gw (some 35) (.map #[] 0) (fun b=>.map (some b)) hS23 fun b4 w13 hx5 hS24=>?_
    have hS25:=hS24.newMap (κ:=Int) (ν:=Int)
    refine ge_mapSet (κ:=Int) (ν:=Int) (b:=b4) (ins:=true) (mm:=0) (t:=84) (kt:=3) (et:=3) (x:=(.tmp 35)) (y:=(.const (vI 1))) (u:=(.const (vI 999999999))) (ty:=0) (m:=([]:List (Int×Int))) (k:=1) (v:=999999999) (vv:=vI 999999999) (by kernel_rfl) (by kernel_rfl) (by kernel_rfl) (by kernel_rfl) rfl (by kernel_rfl) (by kernel_rfl) hS25 fun w14 hS26=>?_
    refine ge_mapSet (κ:=Int) (ν:=Int) (b:=b4) (ins:=true) (mm:=0) (t:=84) (kt:=3) (et:=3) (x:=(.tmp 35)) (y:=(.const (vI 2))) (u:=(.const (vI 7))) (ty:=0) (m:=(mset ([]:List (Int×Int)) 1 999999999)) (k:=2) (v:=7) (vv:=vI 7) (by kernel_rfl) (by kernel_rfl) (by kernel_rfl) (by kernel_rfl) rfl (by kernel_rfl) (by kernel_rfl) hS26 fun w15 hS27=>?_
    refine ge_mapSet (κ:=Int) (ν:=Int) (b:=b4) (ins:=true) (mm:=0) (t:=84) (kt:=3) (et:=3) (x:=(.tmp 35)) (y:=(.const (vI 3))) (u:=(.const (vI 3))) (ty:=0) (m:=(mset (mset ([]:List (Int×Int)) 1 999999999) 2 7)) (k:=3) (v:=3) (vv:=vI 3) (by kernel_rfl) (by kernel_rfl) (by kernel_rfl) (by kernel_rfl) rfl (by kernel_rfl) (by kernel_rfl) hS27 fun w16 hS28=>?_
    refine gb [4,5,6] [(38,vI e1.Kind),(37,pP b2 0),(36,.map (some b4))] [ld b2 0 (vI e1.Kind)] ⟨hS28.c 2,trivial⟩<|ge_lookup (κ:=Int) (ν:=Int) (d:=39) (b:=b4) (q:=0) (t:=84) (kt:=3) (et:=3) (x:=(.tmp 36)) (y:=(.tmp 38)) (ty:=3) (m:=(mset (mset (mset ([]:List (Int×Int)) 1 999999999) 2 7) 3 3)) (k:=e1.Kind) (z:=0) (v:=((mget (mset (mset (mset ([]:List (Int×Int)) 1 999999999) 2 7) 3 3) e1.Kind).getD 0)) (zv:=vI 0) (vv:=vI ((mget (mset (mset (mset ([]:List (Int×Int)) 1 999999999) 2 7) 3 3) e1.Kind).getD 0)) (by kernel_rfl) (by kernel_rfl) (by kernel_rfl) (by kernel_rfl) (by kernel_rfl) (fun w'=>by kernel_rfl) rfl hS28 rfl rfl rfl ?_
    refine gb0 [8] [(7,vI ((mget (mset (mset (mset ([]:List (Int×Int)) 1 999999999) 2 7) 3 3) e1.Kind).getD 0))]<|gn hK14<|ws fun K15 hK15=>wr [(0,0),(1,0),(2,0),(3,0),(4,0),(5,0),(6,0),(7,0),(8,0)]<|gb [0,1,2,3] [(43,.bool (decide (e1.N<0))),(42,.bool (decide (e1.N<0))),(41,vI e1.N),(40,pP b2 1)] [ld b2 1 (vI e1.N)] ⟨hS28.c 2,trivial⟩ ?_
    by_cases hc5:e1.N<0
    ·rw [if_pos hc5] at h
     refine gk 43 (decide (e1.N<0)) true (decide_eq_true hc5)<|gb0 [4,5,6,7,8] [(48,.bool true),(47,undef),(46,undef),(45,undef),(44,undef)]<|gn hK15<|wt<|ws fun K16 hK16=>wr [(0,0)]<|gb0 [0] [(2,vI 3)]<|gn hK16 ?_
     have hS29:=hS28.takeN 0
     obtain rfl:=si h
     exact we_ret fun a hF=>hQ _ _ _ (Outs.out nofun (Exits.on ⟨rfl,(pr0 [.tmp 2] [vI 3] ⟨rfl,hS29⟩) a hF⟩))
    rw [if_neg hc5] at h
    refine gk 43 (decide (e1.N<0)) false (decide_eq_false hc5)<|gb [4,5,6,7,8] [(48,.bool (decide (e1.N > ((mget (mset (mset (mset ([]:List (Int×Int)) 1 999999999) 2 7) 3 3) e1.Kind).getD 0)))),(47,.bool (decide (e1.N > ((mget (mset (mset (mset ([]:List (Int×Int)) 1 999999999) 2 7) 3 3) e1.Kind).getD 0)))),(46,vI ((mget (mset (mset (mset ([]:List (Int×Int)) 1 999999999) 2 7) 3 3) e1.Kind).getD 0)),(45,vI e1.N),(44,pP b2 1)] [ld b2 1 (vI e1.N)] ⟨hS28.c 2,trivial⟩<|gn hK15 ?_
    by_cases hc6:e1.N > ((mget (mset (mset (mset ([]:List (Int×Int)) 1 999999999) 2 7) 3 3) e1.Kind).getD 0)
    ·rw [if_pos hc6] at h
     refine wk 48 (decide (e1.N > ((mget (mset (mset (mset ([]:List (Int×Int)) 1 999999999) 2 7) 3 3) e1.Kind).getD 0))) true (decide_eq_true hc6)<|wt<|ws fun K17 hK17=>wr [(0,0)]<|gb0 [0] [(2,vI 3)]<|gn hK17 ?_
     have hS30:=hS28.takeN 0
     obtain rfl:=si h
     exact we_ret fun a hF=>hQ _ _ _ (Outs.out nofun (Exits.on ⟨rfl,(pr0 [.tmp 2] [vI 3] ⟨rfl,hS30⟩) a hF⟩))
    rw [if_neg hc6] at h
    refine wk 48 (decide (e1.N > ((mget (mset (mset (mset ([]:List (Int×Int)) 1 999999999) 2 7) 3 3) e1.Kind).getD 0))) false (decide_eq_false hc6)<|wf<|we_skip fun a hF=>hK6 _ _ ?_ a hF
    refine wr [(0,0),(1,0)]<|ge_addn (d:=49) (ty:=3) (x:=(.tmp 11)) (y:=(.const (vI 1))) (t:=3) (t2:=3) (k:=.i64) (m:=i1) (by kernel_rfl) (by kernel_rfl) (by kernel_rfl) (by have h0:=RdZ.small hRd1 ⟨(hZ _ hS28.subw),(hsb4.trans (hS28.frzSub 3 rfl))⟩; omega) ?_
    refine gb0 [1] [(11,vI ((i1+1:Nat):Int))] ?_
    have hS32:=hS28.p [3] rfl
    obtain rfl:=si h
    exact ge_nil fun a hF=>hQ _ _ _ (Outs.again ⟨ft5,wf5,hsb4,hS32,hF.weaken ea⟩)
   rw [if_neg hc4] at h
   refine wk 34 ((e1.A.length:Int) != ((mget (mset (mset (mset (mset (mset (mset (mset ([]:List (Int×Int)) 1 0) 2 0) 3 0) 4 1) 5 2) 6 2) 7 2) e1.Kind).getD 0)) true (bne_iff_ne.2 hc4)<|wt<|ws fun K18 hK18=>wr [(0,0)]<|gb0 [0] [(2,vI 6)]<|gn hK18 ?_
   have hS33:=hS23.takeN 0
   obtain rfl:=si h
   exact we_ret fun a hF=>hQ _ _ _ (Outs.out nofun (Exits.on ⟨rfl,(pr0 [.tmp 2] [vI 6] ⟨rfl,hS33⟩) a hF⟩))
  rw [if_neg hc3] at h
  refine gk 28 (!((mget (mset (mset (mset (mset (mset (mset (mset ([]:List (Int×Int)) 1 0) 2 0) 3 0) 4 1) 5 2) 6 2) 7 2) e1.Kind).isSome)) true (congrArg (fun z=>!z) (Bool.eq_false_iff.2 hc3))<|gb0 [3,4,5,6,7,8] [(34,.bool true),(33,undef),(32,undef),(31,undef),(30,undef),(29,undef)]<|gn hK13<|wt<|ws fun K19 hK19=>wr [(0,0)]<|gb0 [0] [(2,vI 6)]<|gn hK19 ?_
  have hS34:=hS23.takeN 0
  obtain rfl:=si h
  exact we_ret fun a hF=>hQ _ _ _ (Outs.out nofun (Exits.on ⟨rfl,(pr0 [.tmp 2] [vI 6] ⟨rfl,hS34⟩) a hF⟩))
 rw [if_neg hc1] at h
 refine wk 12 (decide ((i1:Int)<(r1.length:Int))) false (decide_eq_false hc1)<|wf ?_
 obtain rfl:=si h
 exact we_exit fun a hF=>hQ _ _ _ (Outs.out nofun (Exits.here ⟨ft5,wf5,hsb4,hS,hF.weaken trivial⟩))
theorem pr_wrongExpr_ok (K:Nat) (Z:Zone) (x0_0 x0_1:Int) (l0_2:List SExpr) (A0_2:OA) (c0_2:Nat) (w0:World) (hZ:∀ w,Sub w0 w→Z w) (hR0_2:RdZ Z A0_2 l0_2) (hL0_2:l0_2.length≤c0_2) (r:Int) (h:pr_wrongExpr.f K x0_0 x0_1 l0_2=some r) :
  Calls Try.prog 61 #[.agg #[vI x0_0,vI x0_1,.slice A0_2 l0_2.length c0_2]] w0 (pr_wrongExpr.Post w0 r):=by
 have hS:=St.start w0
 unfold pr_wrongExpr.f at h
 refine calls_enter (n:=50) (args:=[.agg #[vI x0_0,vI x0_1,.slice A0_2 l0_2.length c0_2]]) (fn:=Try.f61) rfl rfl rfl rfl ?_
 show WE _ _ _ _ [(0,.agg #[vI x0_0,vI x0_1,.slice A0_2 l0_2.length c0_2])] _
 obtain ⟨ft1,wf1,hS1⟩:=hS.frz0
 refine ws fun K1 hK1=>wr [(0,1),(1,0)]<|gw (some 1) (.cells #[vI x0_0,vI x0_1,.slice A0_2 l0_2.length c0_2] 66) (fun b=>pP b 0) hS1 fun b1 w1 hx1 hS2=>?_
 refine gb0 [1] [(2,vI 0)]<|gn hK1<|ws fun K2 hK2=>ws fun K3 hK3=>wr [(0,0),(1,1),(2,0),(3,0)] ?_
 rcases hq1:pr_nodes.f K x0_0 x0_1 l0_2 31 with _ | r1
 ·rw [hq1] at h; cases h
 rw [hq1] at h
 simp only [] at h
 refine gb [0] [(8,.agg #[vI x0_0,vI x0_1,.slice A0_2 l0_2.length c0_2])] [ld b1 0 (vI x0_0),ld b1 1 (vI x0_1),ld b1 2 (.slice A0_2 l0_2.length c0_2)] ⟨hS2.c 0,hS2.c 0,hS2.c 0,trivial⟩<|ge_call (d:=some 9) (f:=87) (args:=#[.agg #[vI x0_0,vI x0_1,.slice A0_2 l0_2.length c0_2],vI 31]) (by kernel_rfl) (pr_nodes_ok K (Zand Z wf1) x0_0 x0_1 l0_2 A0_2 c0_2 31 _ (fun w' k=>⟨(hZ w' (hS2.subw.trans k)),(hS2.frzSub 1 rfl).trans k⟩) (hR0_2.up (ZLe.in _ _)) hL0_2 _ hq1) ?_
 rintro _ w2 ⟨v1,hds1,ft2,wf2,rfl,hd1,hS3⟩
 refine ⟨_,rfl,hS3.below,?_⟩
 have hS6:=((hS2.call hS3).b 3).b 2
 obtain ⟨ft3,wf3,hsb1,hsb2,hS7⟩:=hS6.frzMerge
 replace hd1:DRows (Zand Z wf3) hds1 r1:=hd1.up (ZLe.both hsb2 hsb1)
 obtain ⟨Z1,cz1,rfl⟩:=hS7.dopen 1 rfl hd1
 refine gb0 [2,3] [(11,vI 0),(10,vI (r1.length:Int))]<|gn hK3<|we_block ?_
 have hS8:=hS7.b 1
 obtain ⟨ft4,wf4,hsb3,-,hRd1,hLd1,hS9⟩:=hS8.dfrz (Z:=Z) hd1
 have hS10:=hS9.takeN 1
 rcases hq2:iter (pr_wrongExpr.r0 r1) K 0 with _ | (_ | rr1)
 ·rw [hq2] at h; cases h
 ·rw [hq2] at h
  simp only [] at h
  refine we_iter (A:=pr_wrongExpr.A0 w0 r1 Z1 cz1 wf4) (B:=pr_wrongExpr.B0 w0 wf4) hq2 (fun a hF=>⟨ft4,wf4,(Sub.refl _),hS10,hF.weaken ea⟩) (fun s o hf a w hA Q hQ=>pr_wrongExpr_r0 K w0 Z x0_0 x0_1 l0_2 A0_2 c0_2 hZ hR0_2 hL0_2 ft1 wf1 b1 r1 hds1 ft2 wf2 ft3 wf3 hsb1 hsb2 hd1 Z1 cz1 ft4 wf4 hsb3 hRd1 hLd1 s o hf a w hA Q hQ) ?_
  rintro _ a w17 _ ⟨rfl,ft7,wf7,hRz1,hS35,hF⟩
  replace hS35:St w0 w17 [Own.frz ft7 wf7]:=hS35
  refine hK2 [] w17 ?_ a hF
  refine ws fun K20 hK20=>wr [(0,0)]<|gb0 [0] [(2,vI 0)]<|gn hK20 ?_
  have hS36:=hS35.takeN 0
  obtain rfl:=si h
  exact we_ret (pr0 [.tmp 2] [vI 0] ⟨rfl,hS36⟩)
 rw [hq2] at h
 simp only [] at h
 refine we_iter (A:=pr_wrongExpr.A0 w0 r1 Z1 cz1 wf4) (B:=pr_wrongExpr.B0 w0 wf4) hq2 (fun a hF=>⟨ft4,wf4,(Sub.refl _),hS10,hF.weaken ea⟩) (fun s o hf a w hA Q hQ=>pr_wrongExpr_r0 K w0 Z x0_0 x0_1 l0_2 A0_2 c0_2 hZ hR0_2 hL0_2 ft1 wf1 b1 r1 hds1 ft2 wf2 ft3 wf3 hsb1 hsb2 hd1 Z1 cz1 ft4 wf4 hsb3 hRd1 hLd1 s o hf a w hA Q hQ) ?_
 rintro _ a w1 _ ⟨rfl,hb⟩
 obtain rfl:=si h
 exact hb

/-! punctual/punctualref.wrongStatement -/
abbrev pr_wrongStatement.Post (w0:World) (r:Int) (e:Ending) (w:World):Prop:=e=.returned (vI r)∧St w0 w []
def pr_wrongStatement.p0 (x0_0_0 : Int) : Option (Unit ⊕ Int) :=
  if x0_0_0<1 then
   some (.inr 6)
  else
   if x0_0_0 > 7 then
    some (.inr 6)
   else
    some (.inl ())
def pr_wrongStatement.p1 (x0_0_1 : Int) (e1 : Int) (e2 : Int) : Option (Unit ⊕ Int) :=
  if x0_0_1<e1 then
   some (.inr 3)
  else
   if x0_0_1 > e2 then
    some (.inr 3)
   else
    some (.inl ())
def pr_wrongStatement.p2 (x0_0_0 : Int) : Option (Bool ⊕ Int) :=
  if x0_0_0=1 then
   some (.inl true)
  else
   some (.inl (x0_0_0==2))
def pr_wrongStatement.p3 (x0_0_0 : Int) : Option (Bool ⊕ Int) :=
  if x0_0_0=3 then
   some (.inl true)
  else
   some (.inl (x0_0_0==5))
def pr_wrongStatement.p4 (x0_0_0 : Int) : Option (Bool ⊕ Int) :=
  if x0_0_0 ≥ 3 then
   some (.inl (decide (x0_0_0≤6)))
  else
   some (.inl false)
def pr_wrongStatement.p5 (x0_0_2_0 : Int) (x0_0_2_1 : Int) (l0_0_2_2 : List SExpr) (q2 : Bool) : Option (Unit ⊕ Int) :=
  if q2=true then
   some (.inl ())
  else
   if (pr_emptyExpr.f x0_0_2_0 x0_0_2_1 l0_0_2_2)=true then
    some (.inl ())
   else
    some (.inr 6)
def pr_wrongStatement.p6 (x0_0_3_0 : Int) (x0_0_3_1_0 : Int) (x0_0_3_1_1 : Int) (l0_0_3_1_2 : List SExpr) (x0_0_3_2_0 : Int) (x0_0_3_2_1 : Int) (l0_0_3_2_2 : List SExpr) (q4 : Bool) : Option (Unit ⊕ Int) :=
  if q4=true then
   some (.inl ())
  else
   if x0_0_3_0=0 then
    if (pr_emptyExpr.f x0_0_3_1_0 x0_0_3_1_1 l0_0_3_1_2)=true then
     if (pr_emptyExpr.f x0_0_3_2_0 x0_0_3_2_1 l0_0_3_2_2)=true then
      some (.inl ())
     else
      some (.inr 6)
    else
     some (.inr 6)
   else
    some (.inr 6)
def pr_wrongStatement.p7 (x0_0_0 : Int) (l0_0_4 : List SStmt) (l0_0_5 : List SStmt) (q6 : Bool) : Option (Unit ⊕ Int) :=
  if q6=true then
   if x0_0_0=3 then
    some (.inl ())
   else
    if (l0_0_5.length:Int) > 0 then
     some (.inr 6)
    else
     some (.inl ())
  else
   if (l0_0_4.length:Int) > 0 then
    some (.inr 6)
   else
    if x0_0_0=3 then
     some (.inl ())
    else
     if (l0_0_5.length:Int) > 0 then
      some (.inr 6)
     else
      some (.inl ())
def pr_wrongStatement.p8 (K : Nat) (x0_0_2_0 : Int) (x0_0_2_1 : Int) (l0_0_2_2 : List SExpr) (q2 : Bool) : Option (Unit ⊕ Int) :=
  if q2=true then
   match pr_wrongExpr.f K x0_0_2_0 x0_0_2_1 l0_0_2_2 with
   | none=>none
   | some r1 =>
    if r1=0 then
     some (.inl ())
    else
     some (.inr r1)
  else
   some (.inl ())
def pr_wrongStatement.p9 (K : Nat) (x0_0_3_0 : Int) (x0_0_3_1_0 : Int) (x0_0_3_1_1 : Int) (l0_0_3_1_2 : List SExpr) (x0_0_3_2_0 : Int) (x0_0_3_2_1 : Int) (l0_0_3_2_2 : List SExpr) (q4 : Bool) : Option (Unit ⊕ Int) :=
  if q4=true then
   if x0_0_3_0<1 then
    some (.inr 6)
   else
    if x0_0_3_0 > 4 then
     some (.inr 6)
    else
     match pr_wrongExpr.f K x0_0_3_1_0 x0_0_3_1_1 l0_0_3_1_2 with
     | none=>none
     | some r2 =>
      if r2=0 then
       match pr_wrongExpr.f K x0_0_3_2_0 x0_0_3_2_1 l0_0_3_2_2 with
       | none=>none
       | some r3 =>
        if r3=0 then
         some (.inl ())
        else
         some (.inr r3)
      else
       some (.inr r2)
  else
   some (.inl ())
def pr_wrongStatement.r10 (x0_0_1 : Int) (l0_2 : List Int) : Nat → Option (Nat ⊕ (Unit ⊕ Int))
 | i1 =>
  if (i1:Int)<(l0_2.length:Int) then
   match l0_2[i1]? with
   | none=>none
   | some e3 =>
    if e3=x0_0_1 then
     some (.inr (.inr 10))
    else
     some (.inl (i1+1))
  else
   some (.inr (.inl ()))
def pr_wrongStatement.r11 (x0_0_1 : Int) (l0_2 : List Int) : Nat → Option (Nat ⊕ (Unit ⊕ Int))
 | i2 =>
  if (i2:Int)<(l0_2.length:Int) then
   match l0_2[i2]? with
   | none=>none
   | some e4 =>
    if e4=x0_0_1 then
     some (.inr (.inr 10))
    else
     some (.inl (i2+1))
  else
   some (.inr (.inl ()))
def pr_wrongStatement.f (K : Nat) (x0_0_0 : Int) (x0_0_1 : Int) (x0_0_2_0 : Int) (x0_0_2_1 : Int) (l0_0_2_2 : List SExpr) (x0_0_3_0 : Int) (x0_0_3_1_0 : Int) (x0_0_3_1_1 : Int) (l0_0_3_1_2 : List SExpr) (x0_0_3_2_0 : Int) (x0_0_3_2_1 : Int) (l0_0_3_2_2 : List SExpr) (l0_0_4 : List SStmt) (l0_0_5 : List SStmt) (x0_1 : Int) (l0_2 : List Int) : Option Int :=
 match pr_wrongStatement.p0 x0_0_0 with
 | none=>none
 | some (.inl _) =>
  if 0≤x0_0_0 then
   match ([0,0,0,0,0,0,0,1]:List Int)[(x0_0_0).toNat]? with
   | none=>none
   | some e1 =>
    match ([0,7,3,0,1000,1000,3,1000]:List Int)[(x0_0_0).toNat]? with
    | none=>none
    | some e2 =>
     match pr_wrongStatement.p1 x0_0_1 e1 e2 with
     | none=>none
     | some (.inl _) =>
      match pr_wrongStatement.p2 x0_0_0 with
      | none=>none
      | some (.inl q2) =>
       match pr_wrongStatement.p3 x0_0_0 with
       | none=>none
       | some (.inl q4) =>
        match pr_wrongStatement.p4 x0_0_0 with
        | none=>none
        | some (.inl q6) =>
         match pr_wrongStatement.p5 x0_0_2_0 x0_0_2_1 l0_0_2_2 q2 with
         | none=>none
         | some (.inl _) =>
          match pr_wrongStatement.p6 x0_0_3_0 x0_0_3_1_0 x0_0_3_1_1 l0_0_3_1_2 x0_0_3_2_0 x0_0_3_2_1 l0_0_3_2_2 q4 with
          | none=>none
          | some (.inl _) =>
           match pr_wrongStatement.p7 x0_0_0 l0_0_4 l0_0_5 q6 with
           | none=>none
           | some (.inl _) =>
            match pr_wrongStatement.p8 K x0_0_2_0 x0_0_2_1 l0_0_2_2 q2 with
            | none=>none
            | some (.inl _) =>
             match pr_wrongStatement.p9 K x0_0_3_0 x0_0_3_1_0 x0_0_3_1_1 l0_0_3_1_2 x0_0_3_2_0 x0_0_3_2_1 l0_0_3_2_2 q4 with
             | none=>none
             | some (.inl _) =>
              if q6=true then
               if x0_1 ≥ 6 then
                some 2
               else
                if x0_0_0=6 then
                 match iter (pr_wrongStatement.r10 x0_0_1 l0_2) K 0 with
                 | none=>none
                 | some (.inl _) =>
                  some 0
                 | some (.inr rr1) =>
                  some rr1
                else
                 some 0
              else
               if x0_0_0=6 then
                match iter (pr_wrongStatement.r11 x0_0_1 l0_2) K 0 with
                | none=>none
                | some (.inl _) =>
                 some 0
                | some (.inr rr2) =>
                 some rr2
               else
                some 0
             | some (.inr rr3) =>
              some rr3
            | some (.inr rr4) =>
             some rr4
           | some (.inr rr5) =>
            some rr5
          | some (.inr rr6) =>
           some rr6
         | some (.inr rr7) =>
          some rr7
        | some (.inr rr8) =>
         some rr8
       | some (.inr rr9) =>
        some rr9
      | some (.inr rr10) =>
       some rr10
     | some (.inr rr11) =>
      some rr11
  else
   none
 | some (.inr rr12) =>
  some rr12
abbrev pr_wrongStatement.A0 (w0:World) (x0_0_0 x0_0_1 x0_0_2_0 x0_0_2_1:Int) (l0_0_2_2:List SExpr) (A0_0_2_2:OA) (c0_0_2_2:Nat) (x0_0_3_0 x0_0_3_1_0 x0_0_3_1_1:Int) (l0_0_3_1_2:List SExpr) (A0_0_3_1_2:OA) (c0_0_3_1_2:Nat) (x0_0_3_2_0 x0_0_3_2_1:Int) (l0_0_3_2_2:List SExpr) (A0_0_3_2_2:OA) (c0_0_3_2_2:Nat) (l0_0_4:List SStmt) (A0_0_4:OA) (c0_0_4:Nat) (l0_0_5:List SStmt) (A0_0_5:OA) (c0_0_5:Nat) (x0_1:Int) (l0_2:List Int) (A0_2:OA) (c0_2 b1 b2:Nat):Unit→Act→World→Prop:=fun (s:Unit) a w=>St w0 w [bk b2 #[vI x0_0_0,vI x0_0_1,vI x0_0_2_0,vI x0_0_2_1,.slice A0_0_2_2 l0_0_2_2.length c0_0_2_2,vI x0_0_3_0,vI x0_0_3_1_0,vI x0_0_3_1_1,.slice A0_0_3_1_2 l0_0_3_1_2.length c0_0_3_1_2,vI x0_0_3_2_0,vI x0_0_3_2_1,.slice A0_0_3_2_2 l0_0_3_2_2.length c0_0_3_2_2,.slice A0_0_4 l0_0_4.length c0_0_4,.slice A0_0_5 l0_0_5.length c0_0_5] 70,bk b1 #[vI x0_0_0,vI x0_0_1,vI x0_0_2_0,vI x0_0_2_1,.slice A0_0_2_2 l0_0_2_2.length c0_0_2_2,vI x0_0_3_0,vI x0_0_3_1_0,vI x0_0_3_1_1,.slice A0_0_3_1_2 l0_0_3_1_2.length c0_0_3_1_2,vI x0_0_3_2_0,vI x0_0_3_2_1,.slice A0_0_3_2_2 l0_0_3_2_2.length c0_0_3_2_2,.slice A0_0_4 l0_0_4.length c0_0_4,.slice A0_0_5 l0_0_5.length c0_0_5,vI x0_1,.slice A0_2 l0_2.length c0_2] 101]∧Frm 170 a [(1,pP b1 0),(3,pP b2 0)]
abbrev pr_wrongStatement.B0 (w0:World):Int→Exit→Act→World→Prop:=Rets Try.prog Try.f45 (pr_wrongStatement.Post w0)
theorem pr_wrongStatement_p0 (K:Nat) (w0:World) (Z:Zone) (x0_0_0 x0_0_1 x0_0_2_0 x0_0_2_1:Int) (l0_0_2_2:List SExpr) (A0_0_2_2:OA) (c0_0_2_2:Nat) (x0_0_3_0 x0_0_3_1_0 x0_0_3_1_1:Int) (l0_0_3_1_2:List SExpr) (A0_0_3_1_2:OA) (c0_0_3_1_2:Nat) (x0_0_3_2_0 x0_0_3_2_1:Int) (l0_0_3_2_2:List SExpr) (A0_0_3_2_2:OA) (c0_0_3_2_2:Nat) (l0_0_4:List SStmt) (A0_0_4:OA) (c0_0_4:Nat) (l0_0_5:List SStmt) (A0_0_5:OA) (c0_0_5:Nat) (x0_1:Int) (l0_2:List Int) (A0_2:OA) (c0_2:Nat) (hZ:∀ w,Sub w0 w→Z w) (hR0_0_2_2:RdZ Z A0_0_2_2 l0_0_2_2) (hL0_0_2_2:l0_0_2_2.length≤c0_0_2_2) (hR0_0_3_1_2:RdZ Z A0_0_3_1_2 l0_0_3_1_2) (hL0_0_3_1_2:l0_0_3_1_2.length≤c0_0_3_1_2) (hR0_0_3_2_2:RdZ Z A0_0_3_2_2 l0_0_3_2_2) (hL0_0_3_2_2:l0_0_3_2_2.length≤c0_0_3_2_2) (hR0_0_4:RdZ Z A0_0_4 l0_0_4) (hL0_0_4:l0_0_4.length≤c0_0_4) (hR0_0_5:RdZ Z A0_0_5 l0_0_5) (hL0_0_5:l0_0_5.length≤c0_0_5) (hR0_2:RdL w0 A0_2 l0_2) (hL0_2:l0_2.length≤c0_2) (b1 b2:Nat) (o:Unit ⊕ Int) (h:pr_wrongStatement.p0 x0_0_0=some o) (w:World) (hS:St w0 w [bk b2 #[vI x0_0_0,vI x0_0_1,vI x0_0_2_0,vI x0_0_2_1,.slice A0_0_2_2 l0_0_2_2.length c0_0_2_2,vI x0_0_3_0,vI x0_0_3_1_0,vI x0_0_3_1_1,.slice A0_0_3_1_2 l0_0_3_1_2.length c0_0_3_1_2,vI x0_0_3_2_0,vI x0_0_3_2_1,.slice A0_0_3_2_2 l0_0_3_2_2.length c0_0_3_2_2,.slice A0_0_4 l0_0_4.length c0_0_4,.slice A0_0_5 l0_0_5.length c0_0_5] 70,bk b1 #[vI x0_0_0,vI x0_0_1,vI x0_0_2_0,vI x0_0_2_1,.slice A0_0_2_2 l0_0_2_2.length c0_0_2_2,vI x0_0_3_0,vI x0_0_3_1_0,vI x0_0_3_1_1,.slice A0_0_3_1_2 l0_0_3_1_2.length c0_0_3_1_2,vI x0_0_3_2_0,vI x0_0_3_2_1,.slice A0_0_3_2_2 l0_0_3_2_2.length c0_0_3_2_2,.slice A0_0_4 l0_0_4.length c0_0_4,.slice A0_0_5 l0_0_5.length c0_0_5,vI x0_1,.slice A0_2 l0_2.length c0_2] 101]) (Q:Exit→Act→World→Prop) (hQ:∀ x a w,Outs (pr_wrongStatement.A0 w0 x0_0_0 x0_0_1 x0_0_2_0 x0_0_2_1 l0_0_2_2 A0_0_2_2 c0_0_2_2 x0_0_3_0 x0_0_3_1_0 x0_0_3_1_1 l0_0_3_1_2 A0_0_3_1_2 c0_0_3_1_2 x0_0_3_2_0 x0_0_3_2_1 l0_0_3_2_2 A0_0_3_2_2 c0_0_3_2_2 l0_0_4 A0_0_4 c0_0_4 l0_0_5 A0_0_5 c0_0_5 x0_1 l0_2 A0_2 c0_2 b1 b2) (pr_wrongStatement.B0 w0) o x a w→Q x a w):WE Try.prog 170 (subF Try.f45 [1,1,0]) Q [(0,.agg #[vI x0_0_0,vI x0_0_1,vI x0_0_2_0,vI x0_0_2_1,.slice A0_0_2_2 l0_0_2_2.length c0_0_2_2,vI x0_0_3_0,vI x0_0_3_1_0,vI x0_0_3_1_1,.slice A0_0_3_1_2 l0_0_3_1_2.length c0_0_3_1_2,vI x0_0_3_2_0,vI x0_0_3_2_1,.slice A0_0_3_2_2 l0_0_3_2_2.length c0_0_3_2_2,.slice A0_0_4 l0_0_4.length c0_0_4,.slice A0_0_5 l0_0_5.length c0_0_5,vI x0_1,.slice A0_2 l0_2.length c0_2]),(1,pP b1 0),(2,vI 0),(3,pP b2 0),(14,pP b1 0),(15,.agg #[vI x0_0_0,vI x0_0_1,vI x0_0_2_0,vI x0_0_2_1,.slice A0_0_2_2 l0_0_2_2.length c0_0_2_2,vI x0_0_3_0,vI x0_0_3_1_0,vI x0_0_3_1_1,.slice A0_0_3_1_2 l0_0_3_1_2.length c0_0_3_1_2,vI x0_0_3_2_0,vI x0_0_3_2_1,.slice A0_0_3_2_2 l0_0_3_2_2.length c0_0_3_2_2,.slice A0_0_4 l0_0_4.length c0_0_4,.slice A0_0_5 l0_0_5.length c0_0_5])] w:=by
 simp only [pr_wrongStatement.p0] at h
 refine ws fun K4 hK4=>wr [(0,0),(1,0),(2,0),(3,0),(4,0),(5,0),(6,0),(7,0)]<|gb [0,1,2,3] [(19,.bool (decide (x0_0_0<1))),(18,.bool (decide (x0_0_0<1))),(17,vI x0_0_0),(16,pP b2 0)] [ld b2 0 (vI x0_0_0)] ⟨hS.c 0,trivial⟩ ?_
 by_cases hc1:x0_0_0<1
 ·rw [if_pos hc1] at h
  refine gk 19 (decide (x0_0_0<1)) true (decide_eq_true hc1)<|gb0 [4,5,6,7] [(23,.bool true),(22,undef),(21,undef),(20,undef)]<|gn hK4<|wt<|ws fun K5 hK5=>wr [(0,0)]<|gb0 [0] [(2,vI 6)]<|gn hK5 ?_
  have hS5:=hS.takeN 0
  obtain rfl:=si h
  exact rq hQ fun a hF=>⟨rfl,(pr0 [.tmp 2] [vI 6] ⟨rfl,hS5⟩) a hF⟩
 rw [if_neg hc1] at h
 refine gk 19 (decide (x0_0_0<1)) false (decide_eq_false hc1)<|gb [4,5,6,7] [(23,.bool (decide (x0_0_0 > 7))),(22,.bool (decide (x0_0_0 > 7))),(21,vI x0_0_0),(20,pP b2 0)] [ld b2 0 (vI x0_0_0)] ⟨hS.c 0,trivial⟩<|gn hK4 ?_
 by_cases hc2:x0_0_0 > 7
 ·rw [if_pos hc2] at h
  refine wk 23 (decide (x0_0_0 > 7)) true (decide_eq_true hc2)<|wt<|ws fun K6 hK6=>wr [(0,0)]<|gb0 [0] [(2,vI 6)]<|gn hK6 ?_
  have hS6:=hS.takeN 0
  obtain rfl:=si h
  exact rq hQ fun a hF=>⟨rfl,(pr0 [.tmp 2] [vI 6] ⟨rfl,hS6⟩) a hF⟩
 rw [if_neg hc2] at h
 refine wk 23 (decide (x0_0_0 > 7)) false (decide_eq_false hc2)<|wf ?_
 have hS8:=(hS.b 1).b 1
 obtain rfl:=si h
 exact we_skip fun a hF=>hQ _ _ _ (Outs.again ⟨hS8,hF.weaken ea⟩)
abbrev pr_wrongStatement.A1 (w0:World) (x0_0_0 x0_0_1 x0_0_2_0 x0_0_2_1:Int) (l0_0_2_2:List SExpr) (A0_0_2_2:OA) (c0_0_2_2:Nat) (x0_0_3_0 x0_0_3_1_0 x0_0_3_1_1:Int) (l0_0_3_1_2:List SExpr) (A0_0_3_1_2:OA) (c0_0_3_1_2:Nat) (x0_0_3_2_0 x0_0_3_2_1:Int) (l0_0_3_2_2:List SExpr) (A0_0_3_2_2:OA) (c0_0_3_2_2:Nat) (l0_0_4:List SStmt) (A0_0_4:OA) (c0_0_4:Nat) (l0_0_5:List SStmt) (A0_0_5:OA) (c0_0_5:Nat) (x0_1:Int) (l0_2:List Int) (A0_2:OA) (c0_2 b1 b2:Nat):Unit→Act→World→Prop:=fun (s:Unit) a w=>St w0 w [bk b2 #[vI x0_0_0,vI x0_0_1,vI x0_0_2_0,vI x0_0_2_1,.slice A0_0_2_2 l0_0_2_2.length c0_0_2_2,vI x0_0_3_0,vI x0_0_3_1_0,vI x0_0_3_1_1,.slice A0_0_3_1_2 l0_0_3_1_2.length c0_0_3_1_2,vI x0_0_3_2_0,vI x0_0_3_2_1,.slice A0_0_3_2_2 l0_0_3_2_2.length c0_0_3_2_2,.slice A0_0_4 l0_0_4.length c0_0_4,.slice A0_0_5 l0_0_5.length c0_0_5] 70,bk b1 #[vI x0_0_0,vI x0_0_1,vI x0_0_2_0,vI x0_0_2_1,.slice A0_0_2_2 l0_0_2_2.length c0_0_2_2,vI x0_0_3_0,vI x0_0_3_1_0,vI x0_0_3_1_1,.slice A0_0_3_1_2 l0_0_3_1_2.length c0_0_3_1_2,vI x0_0_3_2_0,vI x0_0_3_2_1,.slice A0_0_3_2_2 l0_0_3_2_2.length c0_0_3_2_2,.slice A0_0_4 l0_0_4.length c0_0_4,.slice A0_0_5 l0_0_5.length c0_0_5,vI x0_1,.slice A0_2 l0_2.length c0_2] 101]∧Frm 170 a [(1,pP b1 0),(3,pP b2 0)]
abbrev pr_wrongStatement.B1 (w0:World):Int→Exit→Act→World→Prop:=Rets Try.prog Try.f45 (pr_wrongStatement.Post w0)
theorem pr_wrongStatement_p1 (K:Nat) (w0:World) (Z:Zone) (x0_0_0 x0_0_1 x0_0_2_0 x0_0_2_1:Int) (l0_0_2_2:List SExpr) (A0_0_2_2:OA) (c0_0_2_2:Nat) (x0_0_3_0 x0_0_3_1_0 x0_0_3_1_1:Int) (l0_0_3_1_2:List SExpr) (A0_0_3_1_2:OA) (c0_0_3_1_2:Nat) (x0_0_3_2_0 x0_0_3_2_1:Int) (l0_0_3_2_2:List SExpr) (A0_0_3_2_2:OA) (c0_0_3_2_2:Nat) (l0_0_4:List SStmt) (A0_0_4:OA) (c0_0_4:Nat) (l0_0_5:List SStmt) (A0_0_5:OA) (c0_0_5:Nat) (x0_1:Int) (l0_2:List Int) (A0_2:OA) (c0_2:Nat) (hZ:∀ w,Sub w0 w→Z w) (hR0_0_2_2:RdZ Z A0_0_2_2 l0_0_2_2) (hL0_0_2_2:l0_0_2_2.length≤c0_0_2_2) (hR0_0_3_1_2:RdZ Z A0_0_3_1_2 l0_0_3_1_2) (hL0_0_3_1_2:l0_0_3_1_2.length≤c0_0_3_1_2) (hR0_0_3_2_2:RdZ Z A0_0_3_2_2 l0_0_3_2_2) (hL0_0_3_2_2:l0_0_3_2_2.length≤c0_0_3_2_2) (hR0_0_4:RdZ Z A0_0_4 l0_0_4) (hL0_0_4:l0_0_4.length≤c0_0_4) (hR0_0_5:RdZ Z A0_0_5 l0_0_5) (hL0_0_5:l0_0_5.length≤c0_0_5) (hR0_2:RdL w0 A0_2 l0_2) (hL0_2:l0_2.length≤c0_2) (b1 b2 b3:Nat) (hc3:0≤x0_0_0) (e1:Int) (hx4:([0,0,0,0,0,0,0,1]:List Int)[(x0_0_0).toNat]?=some e1) (b4:Nat) (e2:Int) (hx6:([0,7,3,0,1000,1000,3,1000]:List Int)[(x0_0_0).toNat]?=some e2) (o:Unit ⊕ Int) (h:pr_wrongStatement.p1 x0_0_1 e1 e2=some o) (w:World) (hS:St w0 w [bk b4 #[vI 0,vI 7,vI 3,vI 0,vI 1000,vI 1000,vI 3,vI 1000] 3,bk b3 #[vI 0,vI 0,vI 0,vI 0,vI 0,vI 0,vI 0,vI 1] 3,bk b2 #[vI x0_0_0,vI x0_0_1,vI x0_0_2_0,vI x0_0_2_1,.slice A0_0_2_2 l0_0_2_2.length c0_0_2_2,vI x0_0_3_0,vI x0_0_3_1_0,vI x0_0_3_1_1,.slice A0_0_3_1_2 l0_0_3_1_2.length c0_0_3_1_2,vI x0_0_3_2_0,vI x0_0_3_2_1,.slice A0_0_3_2_2 l0_0_3_2_2.length c0_0_3_2_2,.slice A0_0_4 l0_0_4.length c0_0_4,.slice A0_0_5 l0_0_5.length c0_0_5] 70,bk b1 #[vI x0_0_0,vI x0_0_1,vI x0_0_2_0,vI x0_0_2_1,.slice A0_0_2_2 l0_0_2_2.length c0_0_2_2,vI x0_0_3_0,vI x0_0_3_1_0,vI x0_0_3_1_1,.slice A0_0_3_1_2 l0_0_3_1_2.length c0_0_3_1_2,vI x0_0_3_2_0,vI x0_0_3_2_1,.slice A0_0_3_2_2 l0_0_3_2_2.length c0_0_3_2_2,.slice A0_0_4 l0_0_4.length c0_0_4,.slice A0_0_5 l0_0_5.length c0_0_5,vI x0_1,.slice A0_2 l0_2.length c0_2] 101]) (Q:Exit→Act→World→Prop) (hQ:∀ x a w,Outs (pr_wrongStatement.A1 w0 x0_0_0 x0_0_1 x0_0_2_0 x0_0_2_1 l0_0_2_2 A0_0_2_2 c0_0_2_2 x0_0_3_0 x0_0_3_1_0 x0_0_3_1_1 l0_0_3_1_2 A0_0_3_1_2 c0_0_3_1_2 x0_0_3_2_0 x0_0_3_2_1 l0_0_3_2_2 A0_0_3_2_2 c0_0_3_2_2 l0_0_4 A0_0_4 c0_0_4 l0_0_5 A0_0_5 c0_0_5 x0_1 l0_2 A0_2 c0_2 b1 b2) (pr_wrongStatement.B1 w0) o x a w→Q x a w):WE Try.prog 170 (subF Try.f45 [1,1,1,1,1,0]) Q [(1,pP b1 0),(3,pP b2 0),(4,vI e1),(5,vI e2),(24,.slice (some ⟨b3,0,none⟩) 8 8),(25,pP b2 0),(26,vI x0_0_0),(27,.pointer (some ⟨blkOf (some ⟨b3,0,none⟩),offOf (some ⟨b3,0,none⟩)+(x0_0_0).toNat*1,none⟩)),(28,vI e1),(29,.slice (some ⟨b4,0,none⟩) 8 8),(30,pP b2 0),(31,vI x0_0_0),(32,.pointer (some ⟨blkOf (some ⟨b4,0,none⟩),offOf (some ⟨b4,0,none⟩)+(x0_0_0).toNat*1,none⟩)),(33,vI e2)] w:=by
 simp only [pr_wrongStatement.p1] at h
 refine ws fun K10 hK10=>wr [(0,0),(1,0),(2,0),(3,0),(4,0),(5,0),(6,0),(7,0),(8,0),(9,0)]<|gb [0,1,2,3,4] [(38,.bool (decide (x0_0_1<e1))),(37,.bool (decide (x0_0_1<e1))),(36,vI e1),(35,vI x0_0_1),(34,pP b2 1)] [ld b2 1 (vI x0_0_1)] ⟨hS.c 2,trivial⟩ ?_
 by_cases hc4:x0_0_1<e1
 ·rw [if_pos hc4] at h
  refine gk 38 (decide (x0_0_1<e1)) true (decide_eq_true hc4)<|gb0 [5,6,7,8,9] [(43,.bool true),(42,undef),(41,undef),(40,undef),(39,undef)]<|gn hK10<|wt<|ws fun K11 hK11=>wr [(0,0)]<|gb0 [0] [(2,vI 3)]<|gn hK11 ?_
  have hS12:=hS.takeN 0
  obtain rfl:=si h
  exact rq hQ fun a hF=>⟨rfl,(pr0 [.tmp 2] [vI 3] ⟨rfl,hS12⟩) a hF⟩
 rw [if_neg hc4] at h
 refine gk 38 (decide (x0_0_1<e1)) false (decide_eq_false hc4)<|gb [5,6,7,8,9] [(43,.bool (decide (x0_0_1 > e2))),(42,.bool (decide (x0_0_1 > e2))),(41,vI e2),(40,vI x0_0_1),(39,pP b2 1)] [ld b2 1 (vI x0_0_1)] ⟨hS.c 2,trivial⟩<|gn hK10 ?_
 by_cases hc5:x0_0_1 > e2
 ·rw [if_pos hc5] at h
  refine wk 43 (decide (x0_0_1 > e2)) true (decide_eq_true hc5)<|wt<|ws fun K12 hK12=>wr [(0,0)]<|gb0 [0] [(2,vI 3)]<|gn hK12 ?_
  have hS13:=hS.takeN 0
  obtain rfl:=si h
  exact rq hQ fun a hF=>⟨rfl,(pr0 [.tmp 2] [vI 3] ⟨rfl,hS13⟩) a hF⟩
 rw [if_neg hc5] at h
 refine wk 43 (decide (x0_0_1 > e2)) false (decide_eq_false hc5)<|wf ?_
 have hS16:=hS.p [2,3] rfl
 obtain rfl:=si h
 exact we_skip fun a hF=>hQ _ _ _ (Outs.again ⟨hS16,hF.weaken ea⟩)
abbrev pr_wrongStatement.A2 (w0:World) (x0_0_0 x0_0_1 x0_0_2_0 x0_0_2_1:Int) (l0_0_2_2:List SExpr) (A0_0_2_2:OA) (c0_0_2_2:Nat) (x0_0_3_0 x0_0_3_1_0 x0_0_3_1_1:Int) (l0_0_3_1_2:List SExpr) (A0_0_3_1_2:OA) (c0_0_3_1_2:Nat) (x0_0_3_2_0 x0_0_3_2_1:Int) (l0_0_3_2_2:List SExpr) (A0_0_3_2_2:OA) (c0_0_3_2_2:Nat) (l0_0_4:List SStmt) (A0_0_4:OA) (c0_0_4:Nat) (l0_0_5:List SStmt) (A0_0_5:OA) (c0_0_5:Nat) (x0_1:Int) (l0_2:List Int) (A0_2:OA) (c0_2 b1 b2:Nat):Bool→Act→World→Prop:=fun (s:Bool) a w=>St w0 w [bk b2 #[vI x0_0_0,vI x0_0_1,vI x0_0_2_0,vI x0_0_2_1,.slice A0_0_2_2 l0_0_2_2.length c0_0_2_2,vI x0_0_3_0,vI x0_0_3_1_0,vI x0_0_3_1_1,.slice A0_0_3_1_2 l0_0_3_1_2.length c0_0_3_1_2,vI x0_0_3_2_0,vI x0_0_3_2_1,.slice A0_0_3_2_2 l0_0_3_2_2.length c0_0_3_2_2,.slice A0_0_4 l0_0_4.length c0_0_4,.slice A0_0_5 l0_0_5.length c0_0_5] 70,bk b1 #[vI x0_0_0,vI x0_0_1,vI x0_0_2_0,vI x0_0_2_1,.slice A0_0_2_2 l0_0_2_2.length c0_0_2_2,vI x0_0_3_0,vI x0_0_3_1_0,vI x0_0_3_1_1,.slice A0_0_3_1_2 l0_0_3_1_2.length c0_0_3_1_2,vI x0_0_3_2_0,vI x0_0_3_2_1,.slice A0_0_3_2_2 l0_0_3_2_2.length c0_0_3_2_2,.slice A0_0_4 l0_0_4.length c0_0_4,.slice A0_0_5 l0_0_5.length c0_0_5,vI x0_1,.slice A0_2 l0_2.length c0_2] 101]∧Frm 170 a [(1,pP b1 0),(3,pP b2 0),(6,.bool s)]
abbrev pr_wrongStatement.B2 (w0:World):Int→Exit→Act→World→Prop:=Rets Try.prog Try.f45 (pr_wrongStatement.Post w0)
theorem pr_wrongStatement_p2 (K:Nat) (w0:World) (Z:Zone) (x0_0_0 x0_0_1 x0_0_2_0 x0_0_2_1:Int) (l0_0_2_2:List SExpr) (A0_0_2_2:OA) (c0_0_2_2:Nat) (x0_0_3_0 x0_0_3_1_0 x0_0_3_1_1:Int) (l0_0_3_1_2:List SExpr) (A0_0_3_1_2:OA) (c0_0_3_1_2:Nat) (x0_0_3_2_0 x0_0_3_2_1:Int) (l0_0_3_2_2:List SExpr) (A0_0_3_2_2:OA) (c0_0_3_2_2:Nat) (l0_0_4:List SStmt) (A0_0_4:OA) (c0_0_4:Nat) (l0_0_5:List SStmt) (A0_0_5:OA) (c0_0_5:Nat) (x0_1:Int) (l0_2:List Int) (A0_2:OA) (c0_2:Nat) (hZ:∀ w,Sub w0 w→Z w) (hR0_0_2_2:RdZ Z A0_0_2_2 l0_0_2_2) (hL0_0_2_2:l0_0_2_2.length≤c0_0_2_2) (hR0_0_3_1_2:RdZ Z A0_0_3_1_2 l0_0_3_1_2) (hL0_0_3_1_2:l0_0_3_1_2.length≤c0_0_3_1_2) (hR0_0_3_2_2:RdZ Z A0_0_3_2_2 l0_0_3_2_2) (hL0_0_3_2_2:l0_0_3_2_2.length≤c0_0_3_2_2) (hR0_0_4:RdZ Z A0_0_4 l0_0_4) (hL0_0_4:l0_0_4.length≤c0_0_4) (hR0_0_5:RdZ Z A0_0_5 l0_0_5) (hL0_0_5:l0_0_5.length≤c0_0_5) (hR0_2:RdL w0 A0_2 l0_2) (hL0_2:l0_2.length≤c0_2) (b1 b2 b3:Nat) (hc3:0≤x0_0_0) (e1:Int) (hx4:([0,0,0,0,0,0,0,1]:List Int)[(x0_0_0).toNat]?=some e1) (b4:Nat) (e2:Int) (hx6:([0,7,3,0,1000,1000,3,1000]:List Int)[(x0_0_0).toNat]?=some e2) (o:Bool ⊕ Int) (h:pr_wrongStatement.p2 x0_0_0=some o) (w:World) (hS:St w0 w [bk b2 #[vI x0_0_0,vI x0_0_1,vI x0_0_2_0,vI x0_0_2_1,.slice A0_0_2_2 l0_0_2_2.length c0_0_2_2,vI x0_0_3_0,vI x0_0_3_1_0,vI x0_0_3_1_1,.slice A0_0_3_1_2 l0_0_3_1_2.length c0_0_3_1_2,vI x0_0_3_2_0,vI x0_0_3_2_1,.slice A0_0_3_2_2 l0_0_3_2_2.length c0_0_3_2_2,.slice A0_0_4 l0_0_4.length c0_0_4,.slice A0_0_5 l0_0_5.length c0_0_5] 70,bk b1 #[vI x0_0_0,vI x0_0_1,vI x0_0_2_0,vI x0_0_2_1,.slice A0_0_2_2 l0_0_2_2.length c0_0_2_2,vI x0_0_3_0,vI x0_0_3_1_0,vI x0_0_3_1_1,.slice A0_0_3_1_2 l0_0_3_1_2.length c0_0_3_1_2,vI x0_0_3_2_0,vI x0_0_3_2_1,.slice A0_0_3_2_2 l0_0_3_2_2.length c0_0_3_2_2,.slice A0_0_4 l0_0_4.length c0_0_4,.slice A0_0_5 l0_0_5.length c0_0_5,vI x0_1,.slice A0_2 l0_2.length c0_2] 101]) (Q:Exit→Act→World→Prop) (hQ:∀ x a w,Outs (pr_wrongStatement.A2 w0 x0_0_0 x0_0_1 x0_0_2_0 x0_0_2_1 l0_0_2_2 A0_0_2_2 c0_0_2_2 x0_0_3_0 x0_0_3_1_0 x0_0_3_1_1 l0_0_3_1_2 A0_0_3_1_2 c0_0_3_1_2 x0_0_3_2_0 x0_0_3_2_1 l0_0_3_2_2 A0_0_3_2_2 c0_0_3_2_2 l0_0_4 A0_0_4 c0_0_4 l0_0_5 A0_0_5 c0_0_5 x0_1 l0_2 A0_2 c0_2 b1 b2) (pr_wrongStatement.B2 w0) o x a w→Q x a w):WE Try.prog 170 (subF Try.f45 [1,1,1,1,1,1,0]) Q [(1,pP b1 0),(3,pP b2 0)] w:=by
 simp only [pr_wrongStatement.p2] at h
 refine wr [(0,0),(1,0),(2,0),(3,0),(4,0),(5,0),(6,0),(7,0),(8,0)]<|gb [0,1,2,3] [(47,.bool (x0_0_0==1)),(46,.bool (x0_0_0==1)),(45,vI x0_0_0),(44,pP b2 0)] [ld b2 0 (vI x0_0_0)] ⟨hS.c 0,trivial⟩ ?_
 by_cases hc6:x0_0_0=1
 ·rw [if_pos hc6] at h
  refine gk 47 (x0_0_0==1) true (beq_iff_eq.2 hc6)<|gb0 [4,5,6,7,8] [(6,.bool true),(51,.bool true),(50,undef),(49,undef),(48,undef)] ?_
  have hS19:=(hS.b 1).b 1
  obtain rfl:=si h
  exact ge_nil fun a hF=>hQ _ _ _ (Outs.again ⟨hS19,hF.weaken ea⟩)
 rw [if_neg hc6] at h
 refine gk 47 (x0_0_0==1) false (beq_eq_false_iff_ne.2 hc6)<|gb [4,5,6,7,8] [(6,.bool (x0_0_0==2)),(51,.bool (x0_0_0==2)),(50,.bool (x0_0_0==2)),(49,vI x0_0_0),(48,pP b2 0)] [ld b2 0 (vI x0_0_0)] ⟨hS.c 0,trivial⟩ ?_
 have hS21:=(hS.b 1).b 1
 obtain rfl:=si h
 exact ge_nil fun a hF=>hQ _ _ _ (Outs.again ⟨hS21,hF.weaken ea⟩)
abbrev pr_wrongStatement.A3 (w0:World) (x0_0_0 x0_0_1 x0_0_2_0 x0_0_2_1:Int) (l0_0_2_2:List SExpr) (A0_0_2_2:OA) (c0_0_2_2:Nat) (x0_0_3_0 x0_0_3_1_0 x0_0_3_1_1:Int) (l0_0_3_1_2:List SExpr) (A0_0_3_1_2:OA) (c0_0_3_1_2:Nat) (x0_0_3_2_0 x0_0_3_2_1:Int) (l0_0_3_2_2:List SExpr) (A0_0_3_2_2:OA) (c0_0_3_2_2:Nat) (l0_0_4:List SStmt) (A0_0_4:OA) (c0_0_4:Nat) (l0_0_5:List SStmt) (A0_0_5:OA) (c0_0_5:Nat) (x0_1:Int) (l0_2:List Int) (A0_2:OA) (c0_2 b1 b2:Nat) (q2:Bool):Bool→Act→World→Prop:=fun (s:Bool) a w=>St w0 w [bk b2 #[vI x0_0_0,vI x0_0_1,vI x0_0_2_0,vI x0_0_2_1,.slice A0_0_2_2 l0_0_2_2.length c0_0_2_2,vI x0_0_3_0,vI x0_0_3_1_0,vI x0_0_3_1_1,.slice A0_0_3_1_2 l0_0_3_1_2.length c0_0_3_1_2,vI x0_0_3_2_0,vI x0_0_3_2_1,.slice A0_0_3_2_2 l0_0_3_2_2.length c0_0_3_2_2,.slice A0_0_4 l0_0_4.length c0_0_4,.slice A0_0_5 l0_0_5.length c0_0_5] 70,bk b1 #[vI x0_0_0,vI x0_0_1,vI x0_0_2_0,vI x0_0_2_1,.slice A0_0_2_2 l0_0_2_2.length c0_0_2_2,vI x0_0_3_0,vI x0_0_3_1_0,vI x0_0_3_1_1,.slice A0_0_3_1_2 l0_0_3_1_2.length c0_0_3_1_2,vI x0_0_3_2_0,vI x0_0_3_2_1,.slice A0_0_3_2_2 l0_0_3_2_2.length c0_0_3_2_2,.slice A0_0_4 l0_0_4.length c0_0_4,.slice A0_0_5 l0_0_5.length c0_0_5,vI x0_1,.slice A0_2 l0_2.length c0_2] 101]∧Frm 170 a [(1,pP b1 0),(3,pP b2 0),(6,.bool q2),(7,.bool s)]
abbrev pr_wrongStatement.B3 (w0:World):Int→Exit→Act→World→Prop:=Rets Try.prog Try.f45 (pr_wrongStatement.Post w0)
theorem pr_wrongStatement_p3 (K:Nat) (w0:World) (Z:Zone) (x0_0_0 x0_0_1 x0_0_2_0 x0_0_2_1:Int) (l0_0_2_2:List SExpr) (A0_0_2_2:OA) (c0_0_2_2:Nat) (x0_0_3_0 x0_0_3_1_0 x0_0_3_1_1:Int) (l0_0_3_1_2:List SExpr) (A0_0_3_1_2:OA) (c0_0_3_1_2:Nat) (x0_0_3_2_0 x0_0_3_2_1:Int) (l0_0_3_2_2:List SExpr) (A0_0_3_2_2:OA) (c0_0_3_2_2:Nat) (l0_0_4:List SStmt) (A0_0_4:OA) (c0_0_4:Nat) (l0_0_5:List SStmt) (A0_0_5:OA) (c0_0_5:Nat) (x0_1:Int) (l0_2:List Int) (A0_2:OA) (c0_2:Nat) (hZ:∀ w,Sub w0 w→Z w) (hR0_0_2_2:RdZ Z A0_0_2_2 l0_0_2_2) (hL0_0_2_2:l0_0_2_2.length≤c0_0_2_2) (hR0_0_3_1_2:RdZ Z A0_0_3_1_2 l0_0_3_1_2) (hL0_0_3_1_2:l0_0_3_1_2.length≤c0_0_3_1_2) (hR0_0_3_2_2:RdZ Z A0_0_3_2_2 l0_0_3_2_2) (hL0_0_3_2_2:l0_0_3_2_2.length≤c0_0_3_2_2) (hR0_0_4:RdZ Z A0_0_4 l0_0_4) (hL0_0_4:l0_0_4.length≤c0_0_4) (hR0_0_5:RdZ Z A0_0_5 l0_0_5) (hL0_0_5:l0_0_5.length≤c0_0_5) (hR0_2:RdL w0 A0_2 l0_2) (hL0_2:l0_2.length≤c0_2) (b1 b2 b3:Nat) (hc3:0≤x0_0_0) (e1:Int) (hx4:([0,0,0,0,0,0,0,1]:List Int)[(x0_0_0).toNat]?=some e1) (b4:Nat) (e2:Int) (hx6:([0,7,3,0,1000,1000,3,1000]:List Int)[(x0_0_0).toNat]?=some e2) (q2:Bool) (o:Bool ⊕ Int) (h:pr_wrongStatement.p3 x0_0_0=some o) (w:World) (hS:St w0 w [bk b2 #[vI x0_0_0,vI x0_0_1,vI x0_0_2_0,vI x0_0_2_1,.slice A0_0_2_2 l0_0_2_2.length c0_0_2_2,vI x0_0_3_0,vI x0_0_3_1_0,vI x0_0_3_1_1,.slice A0_0_3_1_2 l0_0_3_1_2.length c0_0_3_1_2,vI x0_0_3_2_0,vI x0_0_3_2_1,.slice A0_0_3_2_2 l0_0_3_2_2.length c0_0_3_2_2,.slice A0_0_4 l0_0_4.length c0_0_4,.slice A0_0_5 l0_0_5.length c0_0_5] 70,bk b1 #[vI x0_0_0,vI x0_0_1,vI x0_0_2_0,vI x0_0_2_1,.slice A0_0_2_2 l0_0_2_2.length c0_0_2_2,vI x0_0_3_0,vI x0_0_3_1_0,vI x0_0_3_1_1,.slice A0_0_3_1_2 l0_0_3_1_2.length c0_0_3_1_2,vI x0_0_3_2_0,vI x0_0_3_2_1,.slice A0_0_3_2_2 l0_0_3_2_2.length c0_0_3_2_2,.slice A0_0_4 l0_0_4.length c0_0_4,.slice A0_0_5 l0_0_5.length c0_0_5,vI x0_1,.slice A0_2 l0_2.length c0_2] 101]) (Q:Exit→Act→World→Prop) (hQ:∀ x a w,Outs (pr_wrongStatement.A3 w0 x0_0_0 x0_0_1 x0_0_2_0 x0_0_2_1 l0_0_2_2 A0_0_2_2 c0_0_2_2 x0_0_3_0 x0_0_3_1_0 x0_0_3_1_1 l0_0_3_1_2 A0_0_3_1_2 c0_0_3_1_2 x0_0_3_2_0 x0_0_3_2_1 l0_0_3_2_2 A0_0_3_2_2 c0_0_3_2_2 l0_0_4 A0_0_4 c0_0_4 l0_0_5 A0_0_5 c0_0_5 x0_1 l0_2 A0_2 c0_2 b1 b2 q2) (pr_wrongStatement.B3 w0) o x a w→Q x a w):WE Try.prog 170 (subF Try.f45 [1,1,1,1,1,1,1,0]) Q [(1,pP b1 0),(3,pP b2 0),(6,.bool q2)] w:=by
 simp only [pr_wrongStatement.p3] at h
 refine wr [(0,0),(1,0),(2,0),(3,0),(4,0),(5,0),(6,0),(7,0),(8,0)]<|gb [0,1,2,3] [(55,.bool (x0_0_0==3)),(54,.bool (x0_0_0==3)),(53,vI x0_0_0),(52,pP b2 0)] [ld b2 0 (vI x0_0_0)] ⟨hS.c 0,trivial⟩ ?_
 by_cases hc7:x0_0_0=3
 ·rw [if_pos hc7] at h
  refine gk 55 (x0_0_0==3) true (beq_iff_eq.2 hc7)<|gb0 [4,5,6,7,8] [(7,.bool true),(59,.bool true),(58,undef),(57,undef),(56,undef)] ?_
  have hS24:=(hS.b 1).b 1
  obtain rfl:=si h
  exact ge_nil fun a hF=>hQ _ _ _ (Outs.again ⟨hS24,hF.weaken ea⟩)
 rw [if_neg hc7] at h
 refine gk 55 (x0_0_0==3) false (beq_eq_false_iff_ne.2 hc7)<|gb [4,5,6,7,8] [(7,.bool (x0_0_0==5)),(59,.bool (x0_0_0==5)),(58,.bool (x0_0_0==5)),(57,vI x0_0_0),(56,pP b2 0)] [ld b2 0 (vI x0_0_0)] ⟨hS.c 0,trivial⟩ ?_
 have hS26:=(hS.b 1).b 1
 obtain rfl:=si h
 exact ge_nil fun a hF=>hQ _ _ _ (Outs.again ⟨hS26,hF.weaken ea⟩)
abbrev pr_wrongStatement.A4 (w0:World) (x0_0_0 x0_0_1 x0_0_2_0 x0_0_2_1:Int) (l0_0_2_2:List SExpr) (A0_0_2_2:OA) (c0_0_2_2:Nat) (x0_0_3_0 x0_0_3_1_0 x0_0_3_1_1:Int) (l0_0_3_1_2:List SExpr) (A0_0_3_1_2:OA) (c0_0_3_1_2:Nat) (x0_0_3_2_0 x0_0_3_2_1:Int) (l0_0_3_2_2:List SExpr) (A0_0_3_2_2:OA) (c0_0_3_2_2:Nat) (l0_0_4:List SStmt) (A0_0_4:OA) (c0_0_4:Nat) (l0_0_5:List SStmt) (A0_0_5:OA) (c0_0_5:Nat) (x0_1:Int) (l0_2:List Int) (A0_2:OA) (c0_2 b1 b2:Nat) (q2 q4:Bool):Bool→Act→World→Prop:=fun (s:Bool) a w=>St w0 w [bk b2 #[vI x0_0_0,vI x0_0_1,vI x0_0_2_0,vI x0_0_2_1,.slice A0_0_2_2 l0_0_2_2.length c0_0_2_2,vI x0_0_3_0,vI x0_0_3_1_0,vI x0_0_3_1_1,.slice A0_0_3_1_2 l0_0_3_1_2.length c0_0_3_1_2,vI x0_0_3_2_0,vI x0_0_3_2_1,.slice A0_0_3_2_2 l0_0_3_2_2.length c0_0_3_2_2,.slice A0_0_4 l0_0_4.length c0_0_4,.slice A0_0_5 l0_0_5.length c0_0_5] 70,bk b1 #[vI x0_0_0,vI x0_0_1,vI x0_0_2_0,vI x0_0_2_1,.slice A0_0_2_2 l0_0_2_2.length c0_0_2_2,vI x0_0_3_0,vI x0_0_3_1_0,vI x0_0_3_1_1,.slice A0_0_3_1_2 l0_0_3_1_2.length c0_0_3_1_2,vI x0_0_3_2_0,vI x0_0_3_2_1,.slice A0_0_3_2_2 l0_0_3_2_2.length c0_0_3_2_2,.slice A0_0_4 l0_0_4.length c0_0_4,.slice A0_0_5 l0_0_5.length c0_0_5,vI x0_1,.slice A0_2 l0_2.length c0_2] 101]∧Frm 170 a [(1,pP b1 0),(3,pP b2 0),(6,.bool q2),(7,.bool q4),(8,.bool s)]
abbrev pr_wrongStatement.B4 (w0:World):Int→Exit→Act→World→Prop:=Rets Try.prog Try.f45 (pr_wrongStatement.Post w0)
theorem pr_wrongStatement_p4 (K:Nat) (w0:World) (Z:Zone) (x0_0_0 x0_0_1 x0_0_2_0 x0_0_2_1:Int) (l0_0_2_2:List SExpr) (A0_0_2_2:OA) (c0_0_2_2:Nat) (x0_0_3_0 x0_0_3_1_0 x0_0_3_1_1:Int) (l0_0_3_1_2:List SExpr) (A0_0_3_1_2:OA) (c0_0_3_1_2:Nat) (x0_0_3_2_0 x0_0_3_2_1:Int) (l0_0_3_2_2:List SExpr) (A0_0_3_2_2:OA) (c0_0_3_2_2:Nat) (l0_0_4:List SStmt) (A0_0_4:OA) (c0_0_4:Nat) (l0_0_5:List SStmt) (A0_0_5:OA) (c0_0_5:Nat) (x0_1:Int) (l0_2:List Int) (A0_2:OA) (c0_2:Nat) (hZ:∀ w,Sub w0 w→Z w) (hR0_0_2_2:RdZ Z A0_0_2_2 l0_0_2_2) (hL0_0_2_2:l0_0_2_2.length≤c0_0_2_2) (hR0_0_3_1_2:RdZ Z A0_0_3_1_2 l0_0_3_1_2) (hL0_0_3_1_2:l0_0_3_1_2.length≤c0_0_3_1_2) (hR0_0_3_2_2:RdZ Z A0_0_3_2_2 l0_0_3_2_2) (hL0_0_3_2_2:l0_0_3_2_2.length≤c0_0_3_2_2) (hR0_0_4:RdZ Z A0_0_4 l0_0_4) (hL0_0_4:l0_0_4.length≤c0_0_4) (hR0_0_5:RdZ Z A0_0_5 l0_0_5) (hL0_0_5:l0_0_5.length≤c0_0_5) (hR0_2:RdL w0 A0_2 l0_2) (hL0_2:l0_2.length≤c0_2) (b1 b2 b3:Nat) (hc3:0≤x0_0_0) (e1:Int) (hx4:([0,0,0,0,0,0,0,1]:List Int)[(x0_0_0).toNat]?=some e1) (b4:Nat) (e2:Int) (hx6:([0,7,3,0,1000,1000,3,1000]:List Int)[(x0_0_0).toNat]?=some e2) (q2 q4:Bool) (o:Bool ⊕ Int) (h:pr_wrongStatement.p4 x0_0_0=some o) (w:World) (hS:St w0 w [bk b2 #[vI x0_0_0,vI x0_0_1,vI x0_0_2_0,vI x0_0_2_1,.slice A0_0_2_2 l0_0_2_2.length c0_0_2_2,vI x0_0_3_0,vI x0_0_3_1_0,vI x0_0_3_1_1,.slice A0_0_3_1_2 l0_0_3_1_2.length c0_0_3_1_2,vI x0_0_3_2_0,vI x0_0_3_2_1,.slice A0_0_3_2_2 l0_0_3_2_2.length c0_0_3_2_2,.slice A0_0_4 l0_0_4.length c0_0_4,.slice A0_0_5 l0_0_5.length c0_0_5] 70,bk b1 #[vI x0_0_0,vI x0_0_1,vI x0_0_2_0,vI x0_0_2_1,.slice A0_0_2_2 l0_0_2_2.length c0_0_2_2,vI x0_0_3_0,vI x0_0_3_1_0,vI x0_0_3_1_1,.slice A0_0_3_1_2 l0_0_3_1_2.length c0_0_3_1_2,vI x0_0_3_2_0,vI x0_0_3_2_1,.slice A0_0_3_2_2 l0_0_3_2_2.length c0_0_3_2_2,.slice A0_0_4 l0_0_4.length c0_0_4,.slice A0_0_5 l0_0_5.length c0_0_5,vI x0_1,.slice A0_2 l0_2.length c0_2] 101]) (Q:Exit→Act→World→Prop) (hQ:∀ x a w,Outs (pr_wrongStatement.A4 w0 x0_0_0 x0_0_1 x0_0_2_0 x0_0_2_1 l0_0_2_2 A0_0_2_2 c0_0_2_2 x0_0_3_0 x0_0_3_1_0 x0_0_3_1_1 l0_0_3_1_2 A0_0_3_1_2 c0_0_3_1_2 x0_0_3_2_0 x0_0_3_2_1 l0_0_3_2_2 A0_0_3_2_2 c0_0_3_2_2 l0_0_4 A0_0_4 c0_0_4 l0_0_5 A0_0_5 c0_0_5 x0_1 l0_2 A0_2 c0_2 b1 b2 q2 q4) (pr_wrongStatement.B4 w0) o x a w→Q x a w):WE Try.prog 170 (subF Try.f45 [1,1,1,1,1,1,1,1,0]) Q [(1,pP b1 0),(3,pP b2 0),(6,.bool q2),(7,.bool q4)] w:=by
 simp only [pr_wrongStatement.p4] at h
 refine wr [(0,0),(1,0),(2,0),(3,0),(4,0),(5,0),(6,0),(7,0),(8,0)]<|gb [0,1,2,3] [(63,.bool (decide (x0_0_0 ≥ 3))),(62,.bool (decide (x0_0_0 ≥ 3))),(61,vI x0_0_0),(60,pP b2 0)] [ld b2 0 (vI x0_0_0)] ⟨hS.c 0,trivial⟩ ?_
 by_cases hc8:x0_0_0 ≥ 3
 ·rw [if_pos hc8] at h
  refine gk 63 (decide (x0_0_0 ≥ 3)) true (decide_eq_true hc8)<|gb [4,5,6,7,8] [(8,.bool (decide (x0_0_0≤6))),(67,.bool (decide (x0_0_0≤6))),(66,.bool (decide (x0_0_0≤6))),(65,vI x0_0_0),(64,pP b2 0)] [ld b2 0 (vI x0_0_0)] ⟨hS.c 0,trivial⟩ ?_
  have hS29:=(hS.b 1).b 1
  obtain rfl:=si h
  exact ge_nil fun a hF=>hQ _ _ _ (Outs.again ⟨hS29,hF.weaken ea⟩)
 rw [if_neg hc8] at h
 refine gk 63 (decide (x0_0_0 ≥ 3)) false (decide_eq_false hc8)<|gb0 [4,5,6,7,8] [(8,.bool false),(67,.bool false),(66,undef),(65,undef),(64,undef)] ?_
 have hS31:=(hS.b 1).b 1
 obtain rfl:=si h
 exact ge_nil fun a hF=>hQ _ _ _ (Outs.again ⟨hS31,hF.weaken ea⟩)
abbrev pr_wrongStatement.A5 (w0:World) (x0_0_0 x0_0_1 x0_0_2_0 x0_0_2_1:Int) (l0_0_2_2:List SExpr) (A0_0_2_2:OA) (c0_0_2_2:Nat) (x0_0_3_0 x0_0_3_1_0 x0_0_3_1_1:Int) (l0_0_3_1_2:List SExpr) (A0_0_3_1_2:OA) (c0_0_3_1_2:Nat) (x0_0_3_2_0 x0_0_3_2_1:Int) (l0_0_3_2_2:List SExpr) (A0_0_3_2_2:OA) (c0_0_3_2_2:Nat) (l0_0_4:List SStmt) (A0_0_4:OA) (c0_0_4:Nat) (l0_0_5:List SStmt) (A0_0_5:OA) (c0_0_5:Nat) (x0_1:Int) (l0_2:List Int) (A0_2:OA) (c0_2 b1 b2:Nat) (q2 q4 q6:Bool):Unit→Act→World→Prop:=fun (s:Unit) a w=>St w0 w [bk b2 #[vI x0_0_0,vI x0_0_1,vI x0_0_2_0,vI x0_0_2_1,.slice A0_0_2_2 l0_0_2_2.length c0_0_2_2,vI x0_0_3_0,vI x0_0_3_1_0,vI x0_0_3_1_1,.slice A0_0_3_1_2 l0_0_3_1_2.length c0_0_3_1_2,vI x0_0_3_2_0,vI x0_0_3_2_1,.slice A0_0_3_2_2 l0_0_3_2_2.length c0_0_3_2_2,.slice A0_0_4 l0_0_4.length c0_0_4,.slice A0_0_5 l0_0_5.length c0_0_5] 70,bk b1 #[vI x0_0_0,vI x0_0_1,vI x0_0_2_0,vI x0_0_2_1,.slice A0_0_2_2 l0_0_2_2.length c0_0_2_2,vI x0_0_3_0,vI x0_0_3_1_0,vI x0_0_3_1_1,.slice A0_0_3_1_2 l0_0_3_1_2.length c0_0_3_1_2,vI x0_0_3_2_0,vI x0_0_3_2_1,.slice A0_0_3_2_2 l0_0_3_2_2.length c0_0_3_2_2,.slice A0_0_4 l0_0_4.length c0_0_4,.slice A0_0_5 l0_0_5.length c0_0_5,vI x0_1,.slice A0_2 l0_2.length c0_2] 101]∧Frm 170 a [(1,pP b1 0),(3,pP b2 0),(6,.bool q2),(7,.bool q4),(8,.bool q6)]
abbrev pr_wrongStatement.B5 (w0:World):Int→Exit→Act→World→Prop:=Rets Try.prog Try.f45 (pr_wrongStatement.Post w0)
theorem pr_wrongStatement_p5 (K:Nat) (w0:World) (Z:Zone) (x0_0_0 x0_0_1 x0_0_2_0 x0_0_2_1:Int) (l0_0_2_2:List SExpr) (A0_0_2_2:OA) (c0_0_2_2:Nat) (x0_0_3_0 x0_0_3_1_0 x0_0_3_1_1:Int) (l0_0_3_1_2:List SExpr) (A0_0_3_1_2:OA) (c0_0_3_1_2:Nat) (x0_0_3_2_0 x0_0_3_2_1:Int) (l0_0_3_2_2:List SExpr) (A0_0_3_2_2:OA) (c0_0_3_2_2:Nat) (l0_0_4:List SStmt) (A0_0_4:OA) (c0_0_4:Nat) (l0_0_5:List SStmt) (A0_0_5:OA) (c0_0_5:Nat) (x0_1:Int) (l0_2:List Int) (A0_2:OA) (c0_2:Nat) (hZ:∀ w,Sub w0 w→Z w) (hR0_0_2_2:RdZ Z A0_0_2_2 l0_0_2_2) (hL0_0_2_2:l0_0_2_2.length≤c0_0_2_2) (hR0_0_3_1_2:RdZ Z A0_0_3_1_2 l0_0_3_1_2) (hL0_0_3_1_2:l0_0_3_1_2.length≤c0_0_3_1_2) (hR0_0_3_2_2:RdZ Z A0_0_3_2_2 l0_0_3_2_2) (hL0_0_3_2_2:l0_0_3_2_2.length≤c0_0_3_2_2) (hR0_0_4:RdZ Z A0_0_4 l0_0_4) (hL0_0_4:l0_0_4.length≤c0_0_4) (hR0_0_5:RdZ Z A0_0_5 l0_0_5) (hL0_0_5:l0_0_5.length≤c0_0_5) (hR0_2:RdL w0 A0_2 l0_2) (hL0_2:l0_2.length≤c0_2) (b1 b2 b3:Nat) (hc3:0≤x0_0_0) (e1:Int) (hx4:([0,0,0,0,0,0,0,1]:List Int)[(x0_0_0).toNat]?=some e1) (b4:Nat) (e2:Int) (hx6:([0,7,3,0,1000,1000,3,1000]:List Int)[(x0_0_0).toNat]?=some e2) (q2 q4 q6:Bool) (o:Unit ⊕ Int) (h:pr_wrongStatement.p5 x0_0_2_0 x0_0_2_1 l0_0_2_2 q2=some o) (w:World) (hS:St w0 w [bk b2 #[vI x0_0_0,vI x0_0_1,vI x0_0_2_0,vI x0_0_2_1,.slice A0_0_2_2 l0_0_2_2.length c0_0_2_2,vI x0_0_3_0,vI x0_0_3_1_0,vI x0_0_3_1_1,.slice A0_0_3_1_2 l0_0_3_1_2.length c0_0_3_1_2,vI x0_0_3_2_0,vI x0_0_3_2_1,.slice A0_0_3_2_2 l0_0_3_2_2.length c0_0_3_2_2,.slice A0_0_4 l0_0_4.length c0_0_4,.slice A0_0_5 l0_0_5.length c0_0_5] 70,bk b1 #[vI x0_0_0,vI x0_0_1,vI x0_0_2_0,vI x0_0_2_1,.slice A0_0_2_2 l0_0_2_2.length c0_0_2_2,vI x0_0_3_0,vI x0_0_3_1_0,vI x0_0_3_1_1,.slice A0_0_3_1_2 l0_0_3_1_2.length c0_0_3_1_2,vI x0_0_3_2_0,vI x0_0_3_2_1,.slice A0_0_3_2_2 l0_0_3_2_2.length c0_0_3_2_2,.slice A0_0_4 l0_0_4.length c0_0_4,.slice A0_0_5 l0_0_5.length c0_0_5,vI x0_1,.slice A0_2 l0_2.length c0_2] 101]) (Q:Exit→Act→World→Prop) (hQ:∀ x a w,Outs (pr_wrongStatement.A5 w0 x0_0_0 x0_0_1 x0_0_2_0 x0_0_2_1 l0_0_2_2 A0_0_2_2 c0_0_2_2 x0_0_3_0 x0_0_3_1_0 x0_0_3_1_1 l0_0_3_1_2 A0_0_3_1_2 c0_0_3_1_2 x0_0_3_2_0 x0_0_3_2_1 l0_0_3_2_2 A0_0_3_2_2 c0_0_3_2_2 l0_0_4 A0_0_4 c0_0_4 l0_0_5 A0_0_5 c0_0_5 x0_1 l0_2 A0_2 c0_2 b1 b2 q2 q4 q6) (pr_wrongStatement.B5 w0) o x a w→Q x a w):WE Try.prog 170 (subF Try.f45 [1,1,1,1,1,1,1,1,1,0]) Q [(1,pP b1 0),(3,pP b2 0),(6,.bool q2),(7,.bool q4),(8,.bool q6)] w:=by
 simp only [pr_wrongStatement.p5] at h
 refine ws fun K17 hK17=>wr [(0,0),(1,0),(2,0),(3,0),(4,0),(5,1),(6,0),(7,0)]<|gb0 [0,1,2] [(70,.bool (!q2)),(69,.bool (!q2)),(68,.bool q2)] ?_
 by_cases hc9:q2=true
 ·rw [if_pos hc9] at h
  refine gk 70 (!q2) false (congrArg (fun z=>!z) hc9)<|gb0 [3,4] [(72,undef),(71,undef)]<|ge_off rfl rfl rfl (by kernel_rfl) ?_
  refine gb0 [6,7] [(75,.bool false),(74,undef)]<|gn hK17<|wf ?_
  have hS34:=(hS.b 1).b 1
  obtain rfl:=si h
  exact we_skip fun a hF=>hQ _ _ _ (Outs.again ⟨hS34,hF.weaken ea⟩)
 rw [if_neg hc9] at h
 refine gk 70 (!q2) true (congrArg (fun z=>!z) (Bool.eq_false_iff.2 hc9))<|gb [3,4] [(72,.agg #[vI x0_0_2_0,vI x0_0_2_1,.slice A0_0_2_2 l0_0_2_2.length c0_0_2_2]),(71,pP b2 2)] [ld b2 2 (vI x0_0_2_0),ld b2 3 (vI x0_0_2_1),ld b2 4 (.slice A0_0_2_2 l0_0_2_2.length c0_0_2_2)] ⟨hS.c 0,hS.c 0,hS.c 0,trivial⟩<|ge_call (d:=some 73) (f:=60) (args:=#[.agg #[vI x0_0_2_0,vI x0_0_2_1,.slice A0_0_2_2 l0_0_2_2.length c0_0_2_2]]) (by kernel_rfl) (pr_emptyExpr_ok Z x0_0_2_0 x0_0_2_1 l0_0_2_2 A0_0_2_2 c0_0_2_2 _ (fun w' k=>(hZ w' (hS.subw.trans k))) hR0_0_2_2 hL0_0_2_2 _ rfl) ?_
 rintro _ w11 ⟨rfl,hS35⟩
 refine ⟨_,rfl,hS35.below,?_⟩
 have hS36:=hS.call hS35
 refine gb0 [6,7] [(75,.bool (!(pr_emptyExpr.f x0_0_2_0 x0_0_2_1 l0_0_2_2))),(74,.bool (!(pr_emptyExpr.f x0_0_2_0 x0_0_2_1 l0_0_2_2)))]<|gn hK17 ?_
 by_cases hc10:(pr_emptyExpr.f x0_0_2_0 x0_0_2_1 l0_0_2_2)=true
 ·rw [if_pos hc10] at h
  refine wk 75 (!(pr_emptyExpr.f x0_0_2_0 x0_0_2_1 l0_0_2_2)) false (congrArg (fun z=>!z) hc10)<|wf ?_
  have hS38:=(hS36.b 1).b 1
  obtain rfl:=si h
  exact we_skip fun a hF=>hQ _ _ _ (Outs.again ⟨hS38,hF.weaken ea⟩)
 rw [if_neg hc10] at h
 refine wk 75 (!(pr_emptyExpr.f x0_0_2_0 x0_0_2_1 l0_0_2_2)) true (congrArg (fun z=>!z) (Bool.eq_false_iff.2 hc10))<|wt<|ws fun K18 hK18=>wr [(0,0)]<|gb0 [0] [(2,vI 6)]<|gn hK18 ?_
 have hS39:=hS36.takeN 0
 obtain rfl:=si h
 exact rq hQ fun a hF=>⟨rfl,(pr0 [.tmp 2] [vI 6] ⟨rfl,hS39⟩) a hF⟩
abbrev pr_wrongStatement.A6 (w0:World) (x0_0_0 x0_0_1 x0_0_2_0 x0_0_2_1:Int) (l0_0_2_2:List SExpr) (A0_0_2_2:OA) (c0_0_2_2:Nat) (x0_0_3_0 x0_0_3_1_0 x0_0_3_1_1:Int) (l0_0_3_1_2:List SExpr) (A0_0_3_1_2:OA) (c0_0_3_1_2:Nat) (x0_0_3_2_0 x0_0_3_2_1:Int) (l0_0_3_2_2:List SExpr) (A0_0_3_2_2:OA) (c0_0_3_2_2:Nat) (l0_0_4:List SStmt) (A0_0_4:OA) (c0_0_4:Nat) (l0_0_5:List SStmt) (A0_0_5:OA) (c0_0_5:Nat) (x0_1:Int) (l0_2:List Int) (A0_2:OA) (c0_2 b1 b2:Nat) (q2 q4 q6:Bool):Unit→Act→World→Prop:=fun (s:Unit) a w=>St w0 w [bk b2 #[vI x0_0_0,vI x0_0_1,vI x0_0_2_0,vI x0_0_2_1,.slice A0_0_2_2 l0_0_2_2.length c0_0_2_2,vI x0_0_3_0,vI x0_0_3_1_0,vI x0_0_3_1_1,.slice A0_0_3_1_2 l0_0_3_1_2.length c0_0_3_1_2,vI x0_0_3_2_0,vI x0_0_3_2_1,.slice A0_0_3_2_2 l0_0_3_2_2.length c0_0_3_2_2,.slice A0_0_4 l0_0_4.length c0_0_4,.slice A0_0_5 l0_0_5.length c0_0_5] 70,bk b1 #[vI x0_0_0,vI x0_0_1,vI x0_0_2_0,vI x0_0_2_1,.slice A0_0_2_2 l0_0_2_2.length c0_0_2_2,vI x0_0_3_0,vI x0_0_3_1_0,vI x0_0_3_1_1,.slice A0_0_3_1_2 l0_0_3_1_2.length c0_0_3_1_2,vI x0_0_3_2_0,vI x0_0_3_2_1,.slice A0_0_3_2_2 l0_0_3_2_2.length c0_0_3_2_2,.slice A0_0_4 l0_0_4.length c0_0_4,.slice A0_0_5 l0_0_5.length c0_0_5,vI x0_1,.slice A0_2 l0_2.length c0_2] 101]∧Frm 170 a [(1,pP b1 0),(3,pP b2 0),(6,.bool q2),(7,.bool q4),(8,.bool q6)]
abbrev pr_wrongStatement.B6 (w0:World):Int→Exit→Act→World→Prop:=Rets Try.prog Try.f45 (pr_wrongStatement.Post w0)
theorem pr_wrongStatement_p6 (K:Nat) (w0:World) (Z:Zone) (x0_0_0 x0_0_1 x0_0_2_0 x0_0_2_1:Int) (l0_0_2_2:List SExpr) (A0_0_2_2:OA) (c0_0_2_2:Nat) (x0_0_3_0 x0_0_3_1_0 x0_0_3_1_1:Int) (l0_0_3_1_2:List SExpr) (A0_0_3_1_2:OA) (c0_0_3_1_2:Nat) (x0_0_3_2_0 x0_0_3_2_1:Int) (l0_0_3_2_2:List SExpr) (A0_0_3_2_2:OA) (c0_0_3_2_2:Nat) (l0_0_4:List SStmt) (A0_0_4:OA) (c0_0_4:Nat) (l0_0_5:List SStmt) (A0_0_5:OA) (c0_0_5:Nat) (x0_1:Int) (l0_2:List Int) (A0_2:OA) (c0_2:Nat) (hZ:∀ w,Sub w0 w→Z w) (hR0_0_2_2:RdZ Z A0_0_2_2 l0_0_2_2) (hL0_0_2_2:l0_0_2_2.length≤c0_0_2_2) (hR0_0_3_1_2:RdZ Z A0_0_3_1_2 l0_0_3_1_2) (hL0_0_3_1_2:l0_0_3_1_2.length≤c0_0_3_1_2) (hR0_0_3_2_2:RdZ Z A0_0_3_2_2 l0_0_3_2_2) (hL0_0_3_2_2:l0_0_3_2_2.length≤c0_0_3_2_2) (hR0_0_4:RdZ Z A0_0_4 l0_0_4) (hL0_0_4:l0_0_4.length≤c0_0_4) (hR0_0_5:RdZ Z A0_0_5 l0_0_5) (hL0_0_5:l0_0_5.length≤c0_0_5) (hR0_2:RdL w0 A0_2 l0_2) (hL0_2:l0_2.length≤c0_2) (b1 b2 b3:Nat) (hc3:0≤x0_0_0) (e1:Int) (hx4:([0,0,0,0,0,0,0,1]:List Int)[(x0_0_0).toNat]?=some e1) (b4:Nat) (e2:Int) (hx6:([0,7,3,0,1000,1000,3,1000]:List Int)[(x0_0_0).toNat]?=some e2) (q2 q4 q6:Bool) (o:Unit ⊕ Int) (h:pr_wrongStatement.p6 x0_0_3_0 x0_0_3_1_0 x0_0_3_1_1 l0_0_3_1_2 x0_0_3_2_0 x0_0_3_2_1 l0_0_3_2_2 q4=some o) (w:World) (hS:St w0 w [bk b2 #[vI x0_0_0,vI x0_0_1,vI x0_0_2_0,vI x0_0_2_1,.slice A0_0_2_2 l0_0_2_2.length c0_0_2_2,vI x0_0_3_0,vI x0_0_3_1_0,vI x0_0_3_1_1,.slice A0_0_3_1_2 l0_0_3_1_2.length c0_0_3_1_2,vI x0_0_3_2_0,vI x0_0_3_2_1,.slice A0_0_3_2_2 l0_0_3_2_2.length c0_0_3_2_2,.slice A0_0_4 l0_0_4.length c0_0_4,.slice A0_0_5 l0_0_5.length c0_0_5] 70,bk b1 #[vI x0_0_0,vI x0_0_1,vI x0_0_2_0,vI x0_0_2_1,.slice A0_0_2_2 l0_0_2_2.length c0_0_2_2,vI x0_0_3_0,vI x0_0_3_1_0,vI x0_0_3_1_1,.slice A0_0_3_1_2 l0_0_3_1_2.length c0_0_3_1_2,vI x0_0_3_2_0,vI x0_0_3_2_1,.slice A0_0_3_2_2 l0_0_3_2_2.length c0_0_3_2_2,.slice A0_0_4 l0_0_4.length c0_0_4,.slice A0_0_5 l0_0_5.length c0_0_5,vI x0_1,.slice A0_2 l0_2.length c0_2] 101]) (Q:Exit→Act→World→Prop) (hQ:∀ x a w,Outs (pr_wrongStatement.A6 w0 x0_0_0 x0_0_1 x0_0_2_0 x0_0_2_1 l0_0_2_2 A0_0_2_2 c0_0_2_2 x0_0_3_0 x0_0_3_1_0 x0_0_3_1_1 l0_0_3_1_2 A0_0_3_1_2 c0_0_3_1_2 x0_0_3_2_0 x0_0_3_2_1 l0_0_3_2_2 A0_0_3_2_2 c0_0_3_2_2 l0_0_4 A0_0_4 c0_0_4 l0_0_5 A0_0_5 c0_0_5 x0_1 l0_2 A0_2 c0_2 b1 b2 q2 q4 q6) (pr_wrongStatement.B6 w0) o x a w→Q x a w):WE Try.prog 170 (subF Try.f45 [1,1,1,1,1,1,1,1,1,1,0]) Q [(1,pP b1 0),(3,pP b2 0),(6,.bool q2),(7,.bool q4),(8,.bool q6)] w:=by
 simp only [pr_wrongStatement.p6] at h
 refine ws fun K20 hK20=>wr [(0,0),(1,0),(2,0),(3,0),(4,0),(5,0),(6,0),(7,0),(8,0),(9,0),(10,0),(11,1),(12,0),(13,0),(14,0),(15,0),(16,0),(17,0),(18,1),(19,0),(20,0),(21,0)]<|gb0 [0,1,2] [(78,.bool (!q4)),(77,.bool (!q4)),(76,.bool q4)] ?_
 by_cases hc11:q4=true
 ·rw [if_pos hc11] at h
  refine gk 78 (!q4) false (congrArg (fun z=>!z) hc11)<|gb0 [3,4,5,6,7,8,9,10] [(86,undef),(85,undef),(84,undef),(83,undef),(82,undef),(81,undef),(80,undef),(79,undef)]<|ge_off rfl rfl rfl (by kernel_rfl) ?_
  refine gb0 [12,13,14,15,16,17] [(93,undef),(92,undef),(91,undef),(90,undef),(89,undef),(88,undef)]<|ge_off rfl rfl rfl (by kernel_rfl) ?_
  refine gb0 [19,20,21] [(97,.bool false),(96,undef),(95,undef)]<|gn hK20<|wf ?_
  have hS42:=(hS.b 1).b 1
  obtain rfl:=si h
  exact we_skip fun a hF=>hQ _ _ _ (Outs.again ⟨hS42,hF.weaken ea⟩)
 rw [if_neg hc11] at h
 refine gk 78 (!q4) true (congrArg (fun z=>!z) (Bool.eq_false_iff.2 hc11))<|gb [3,4,5,6,7] [(83,.bool (x0_0_3_0 != 0)),(82,.bool (x0_0_3_0 != 0)),(81,vI x0_0_3_0),(80,pP b2 5),(79,pP b2 5)] [ld b2 5 (vI x0_0_3_0)] ⟨hS.c 0,trivial⟩ ?_
 by_cases hc12:x0_0_3_0=0
 ·rw [if_pos hc12] at h
  refine gk 83 (x0_0_3_0 != 0) false (bne_eq_false_iff_eq.2 hc12)<|gb [8,9,10] [(86,.agg #[vI x0_0_3_1_0,vI x0_0_3_1_1,.slice A0_0_3_1_2 l0_0_3_1_2.length c0_0_3_1_2]),(85,pP b2 6),(84,pP b2 5)] [ld b2 6 (vI x0_0_3_1_0),ld b2 7 (vI x0_0_3_1_1),ld b2 8 (.slice A0_0_3_1_2 l0_0_3_1_2.length c0_0_3_1_2)] ⟨hS.c 0,hS.c 0,hS.c 0,trivial⟩<|ge_call (d:=some 87) (f:=60) (args:=#[.agg #[vI x0_0_3_1_0,vI x0_0_3_1_1,.slice A0_0_3_1_2 l0_0_3_1_2.length c0_0_3_1_2]]) (by kernel_rfl) (pr_emptyExpr_ok Z x0_0_3_1_0 x0_0_3_1_1 l0_0_3_1_2 A0_0_3_1_2 c0_0_3_1_2 _ (fun w' k=>(hZ w' (hS.subw.trans k))) hR0_0_3_1_2 hL0_0_3_1_2 _ rfl) ?_
  rintro _ w13 ⟨rfl,hS43⟩
  refine ⟨_,rfl,hS43.below,?_⟩
  have hS44:=hS.call hS43
  refine gb0 [12,13,14] [(90,.bool (!(pr_emptyExpr.f x0_0_3_1_0 x0_0_3_1_1 l0_0_3_1_2))),(89,.bool (!(pr_emptyExpr.f x0_0_3_1_0 x0_0_3_1_1 l0_0_3_1_2))),(88,.bool (!(pr_emptyExpr.f x0_0_3_1_0 x0_0_3_1_1 l0_0_3_1_2)))] ?_
  by_cases hc13:(pr_emptyExpr.f x0_0_3_1_0 x0_0_3_1_1 l0_0_3_1_2)=true
  ·rw [if_pos hc13] at h
   refine gk 90 (!(pr_emptyExpr.f x0_0_3_1_0 x0_0_3_1_1 l0_0_3_1_2)) false (congrArg (fun z=>!z) hc13)<|gb [15,16,17] [(93,.agg #[vI x0_0_3_2_0,vI x0_0_3_2_1,.slice A0_0_3_2_2 l0_0_3_2_2.length c0_0_3_2_2]),(92,pP b2 9),(91,pP b2 5)] [ld b2 9 (vI x0_0_3_2_0),ld b2 10 (vI x0_0_3_2_1),ld b2 11 (.slice A0_0_3_2_2 l0_0_3_2_2.length c0_0_3_2_2)] ⟨hS44.c 0,hS44.c 0,hS44.c 0,trivial⟩<|ge_call (d:=some 94) (f:=60) (args:=#[.agg #[vI x0_0_3_2_0,vI x0_0_3_2_1,.slice A0_0_3_2_2 l0_0_3_2_2.length c0_0_3_2_2]]) (by kernel_rfl) (pr_emptyExpr_ok Z x0_0_3_2_0 x0_0_3_2_1 l0_0_3_2_2 A0_0_3_2_2 c0_0_3_2_2 _ (fun w' k=>(hZ w' (hS44.subw.trans k))) hR0_0_3_2_2 hL0_0_3_2_2 _ rfl) ?_
   rintro _ w14 ⟨rfl,hS45⟩
   refine ⟨_,rfl,hS45.below,?_⟩
   have hS46:=hS44.call hS45
   refine gb0 [19,20,21] [(97,.bool (!(pr_emptyExpr.f x0_0_3_2_0 x0_0_3_2_1 l0_0_3_2_2))),(96,.bool (!(pr_emptyExpr.f x0_0_3_2_0 x0_0_3_2_1 l0_0_3_2_2))),(95,.bool (!(pr_emptyExpr.f x0_0_3_2_0 x0_0_3_2_1 l0_0_3_2_2)))]<|gn hK20 ?_
   by_cases hc14:(pr_emptyExpr.f x0_0_3_2_0 x0_0_3_2_1 l0_0_3_2_2)=true
   ·rw [if_pos hc14] at h
    refine wk 97 (!(pr_emptyExpr.f x0_0_3_2_0 x0_0_3_2_1 l0_0_3_2_2)) false (congrArg (fun z=>!z) hc14)<|wf ?_
    have hS48:=(hS46.b 1).b 1
    obtain rfl:=si h
    exact we_skip fun a hF=>hQ _ _ _ (Outs.again ⟨hS48,hF.weaken ea⟩)
   rw [if_neg hc14] at h
   refine wk 97 (!(pr_emptyExpr.f x0_0_3_2_0 x0_0_3_2_1 l0_0_3_2_2)) true (congrArg (fun z=>!z) (Bool.eq_false_iff.2 hc14))<|wt<|ws fun K21 hK21=>wr [(0,0)]<|gb0 [0] [(2,vI 6)]<|gn hK21 ?_
   have hS49:=hS46.takeN 0
   obtain rfl:=si h
   exact rq hQ fun a hF=>⟨rfl,(pr0 [.tmp 2] [vI 6] ⟨rfl,hS49⟩) a hF⟩
  rw [if_neg hc13] at h
  refine gk 90 (!(pr_emptyExpr.f x0_0_3_1_0 x0_0_3_1_1 l0_0_3_1_2)) true (congrArg (fun z=>!z) (Bool.eq_false_iff.2 hc13))<|gb0 [15,16,17] [(93,undef),(92,undef),(91,undef)]<|ge_off rfl rfl rfl (by kernel_rfl) ?_
  refine gb0 [19,20,21] [(97,.bool true),(96,.bool true),(95,undef)]<|gn hK20<|wt<|ws fun K22 hK22=>wr [(0,0)]<|gb0 [0] [(2,vI 6)]<|gn hK22 ?_
  have hS50:=hS44.takeN 0
  obtain rfl:=si h
  exact rq hQ fun a hF=>⟨rfl,(pr0 [.tmp 2] [vI 6] ⟨rfl,hS50⟩) a hF⟩
 rw [if_neg hc12] at h
 refine gk 83 (x0_0_3_0 != 0) true (bne_iff_ne.2 hc12)<|gb0 [8,9,10] [(86,undef),(85,undef),(84,undef)]<|ge_off rfl rfl rfl (by kernel_rfl) ?_
 refine gb0 [12,13,14,15,16,17] [(93,undef),(92,undef),(91,undef),(90,.bool true),(89,.bool true),(88,undef)]<|ge_off rfl rfl rfl (by kernel_rfl) ?_
 refine gb0 [19,20,21] [(97,.bool true),(96,.bool true),(95,undef)]<|gn hK20<|wt<|ws fun K23 hK23=>wr [(0,0)]<|gb0 [0] [(2,vI 6)]<|gn hK23 ?_
 have hS51:=hS.takeN 0
 obtain rfl:=si h
 exact rq hQ fun a hF=>⟨rfl,(pr0 [.tmp 2] [vI 6] ⟨rfl,hS51⟩) a hF⟩
abbrev pr_wrongStatement.A7 (w0:World) (x0_0_0 x0_0_1 x0_0_2_0 x0_0_2_1:Int) (l0_0_2_2:List SExpr) (A0_0_2_2:OA) (c0_0_2_2:Nat) (x0_0_3_0 x0_0_3_1_0 x0_0_3_1_1:Int) (l0_0_3_1_2:List SExpr) (A0_0_3_1_2:OA) (c0_0_3_1_2:Nat) (x0_0_3_2_0 x0_0_3_2_1:Int) (l0_0_3_2_2:List SExpr) (A0_0_3_2_2:OA) (c0_0_3_2_2:Nat) (l0_0_4:List SStmt) (A0_0_4:OA) (c0_0_4:Nat) (l0_0_5:List SStmt) (A0_0_5:OA) (c0_0_5:Nat) (x0_1:Int) (l0_2:List Int) (A0_2:OA) (c0_2 b1 b2:Nat) (q2 q4 q6:Bool):Unit→Act→World→Prop:=fun (s:Unit) a w=>St w0 w [bk b2 #[vI x0_0_0,vI x0_0_1,vI x0_0_2_0,vI x0_0_2_1,.slice A0_0_2_2 l0_0_2_2.length c0_0_2_2,vI x0_0_3_0,vI x0_0_3_1_0,vI x0_0_3_1_1,.slice A0_0_3_1_2 l0_0_3_1_2.length c0_0_3_1_2,vI x0_0_3_2_0,vI x0_0_3_2_1,.slice A0_0_3_2_2 l0_0_3_2_2.length c0_0_3_2_2,.slice A0_0_4 l0_0_4.length c0_0_4,.slice A0_0_5 l0_0_5.length c0_0_5] 70,bk b1 #[vI x0_0_0,vI x0_0_1,vI x0_0_2_0,vI x0_0_2_1,.slice A0_0_2_2 l0_0_2_2.length c0_0_2_2,vI x0_0_3_0,vI x0_0_3_1_0,vI x0_0_3_1_1,.slice A0_0_3_1_2 l0_0_3_1_2.length c0_0_3_1_2,vI x0_0_3_2_0,vI x0_0_3_2_1,.slice A0_0_3_2_2 l0_0_3_2_2.length c0_0_3_2_2,.slice A0_0_4 l0_0_4.length c0_0_4,.slice A0_0_5 l0_0_5.length c0_0_5,vI x0_1,.slice A0_2 l0_2.length c0_2] 101]∧Frm 170 a [(1,pP b1 0),(3,pP b2 0),(6,.bool q2),(7,.bool q4),(8,.bool q6)]
abbrev pr_wrongStatement.B7 (w0:World):Int→Exit→Act→World→Prop:=Rets Try.prog Try.f45 (pr_wrongStatement.Post w0)
theorem pr_wrongStatement_p7 (K:Nat) (w0:World) (Z:Zone) (x0_0_0 x0_0_1 x0_0_2_0 x0_0_2_1:Int) (l0_0_2_2:List SExpr) (A0_0_2_2:OA) (c0_0_2_2:Nat) (x0_0_3_0 x0_0_3_1_0 x0_0_3_1_1:Int) (l0_0_3_1_2:List SExpr) (A0_0_3_1_2:OA) (c0_0_3_1_2:Nat) (x0_0_3_2_0 x0_0_3_2_1:Int) (l0_0_3_2_2:List SExpr) (A0_0_3_2_2:OA) (c0_0_3_2_2:Nat) (l0_0_4:List SStmt) (A0_0_4:OA) (c0_0_4:Nat) (l0_0_5:List SStmt) (A0_0_5:OA) (c0_0_5:Nat) (x0_1:Int) (l0_2:List Int) (A0_2:OA) (c0_2:Nat) (hZ:∀ w,Sub w0 w→Z w) (hR0_0_2_2:RdZ Z A0_0_2_2 l0_0_2_2) (hL0_0_2_2:l0_0_2_2.length≤c0_0_2_2) (hR0_0_3_1_2:RdZ Z A0_0_3_1_2 l0_0_3_1_2) (hL0_0_3_1_2:l0_0_3_1_2.length≤c0_0_3_1_2) (hR0_0_3_2_2:RdZ Z A0_0_3_2_2 l0_0_3_2_2) (hL0_0_3_2_2:l0_0_3_2_2.length≤c0_0_3_2_2) (hR0_0_4:RdZ Z A0_0_4 l0_0_4) (hL0_0_4:l0_0_4.length≤c0_0_4) (hR0_0_5:RdZ Z A0_0_5 l0_0_5) (hL0_0_5:l0_0_5.length≤c0_0_5) (hR0_2:RdL w0 A0_2 l0_2) (hL0_2:l0_2.length≤c0_2) (b1 b2 b3:Nat) (hc3:0≤x0_0_0) (e1:Int) (hx4:([0,0,0,0,0,0,0,1]:List Int)[(x0_0_0).toNat]?=some e1) (b4:Nat) (e2:Int) (hx6:([0,7,3,0,1000,1000,3,1000]:List Int)[(x0_0_0).toNat]?=some e2) (q2 q4 q6:Bool) (o:Unit ⊕ Int) (h:pr_wrongStatement.p7 x0_0_0 l0_0_4 l0_0_5 q6=some o) (w:World) (hS:St w0 w [bk b2 #[vI x0_0_0,vI x0_0_1,vI x0_0_2_0,vI x0_0_2_1,.slice A0_0_2_2 l0_0_2_2.length c0_0_2_2,vI x0_0_3_0,vI x0_0_3_1_0,vI x0_0_3_1_1,.slice A0_0_3_1_2 l0_0_3_1_2.length c0_0_3_1_2,vI x0_0_3_2_0,vI x0_0_3_2_1,.slice A0_0_3_2_2 l0_0_3_2_2.length c0_0_3_2_2,.slice A0_0_4 l0_0_4.length c0_0_4,.slice A0_0_5 l0_0_5.length c0_0_5] 70,bk b1 #[vI x0_0_0,vI x0_0_1,vI x0_0_2_0,vI x0_0_2_1,.slice A0_0_2_2 l0_0_2_2.length c0_0_2_2,vI x0_0_3_0,vI x0_0_3_1_0,vI x0_0_3_1_1,.slice A0_0_3_1_2 l0_0_3_1_2.length c0_0_3_1_2,vI x0_0_3_2_0,vI x0_0_3_2_1,.slice A0_0_3_2_2 l0_0_3_2_2.length c0_0_3_2_2,.slice A0_0_4 l0_0_4.length c0_0_4,.slice A0_0_5 l0_0_5.length c0_0_5,vI x0_1,.slice A0_2 l0_2.length c0_2] 101]) (Q:Exit→Act→World→Prop) (hQ:∀ x a w,Outs (pr_wrongStatement.A7 w0 x0_0_0 x0_0_1 x0_0_2_0 x0_0_2_1 l0_0_2_2 A0_0_2_2 c0_0_2_2 x0_0_3_0 x0_0_3_1_0 x0_0_3_1_1 l0_0_3_1_2 A0_0_3_1_2 c0_0_3_1_2 x0_0_3_2_0 x0_0_3_2_1 l0_0_3_2_2 A0_0_3_2_2 c0_0_3_2_2 l0_0_4 A0_0_4 c0_0_4 l0_0_5 A0_0_5 c0_0_5 x0_1 l0_2 A0_2 c0_2 b1 b2 q2 q4 q6) (pr_wrongStatement.B7 w0) o x a w→Q x a w):WE Try.prog 170 (subF Try.f45 [1,1,1,1,1,1,1,1,1,1,1,0]) Q [(1,pP b1 0),(3,pP b2 0),(6,.bool q2),(7,.bool q4),(8,.bool q6)] w:=by
 simp only [pr_wrongStatement.p7] at h
 refine ws fun K25 hK25=>wr [(0,0),(1,0),(2,0),(3,0),(4,0),(5,0),(6,0),(7,0),(8,0),(9,0),(10,0),(11,0),(12,0),(13,0),(14,0),(15,0),(16,0),(17,0),(18,0)]<|gb0 [0,1,2] [(100,.bool (!q6)),(99,.bool (!q6)),(98,.bool q6)] ?_
 by_cases hc15:q6=true
 ·rw [if_pos hc15] at h
  refine gk 100 (!q6) false (congrArg (fun z=>!z) hc15)<|gb [3,4,5,6,7,8,9,10,11,12] [(110,.bool (x0_0_0 != 3)),(109,.bool (x0_0_0 != 3)),(108,vI x0_0_0),(107,pP b2 0),(106,.bool false),(105,.bool false),(104,undef),(103,undef),(102,undef),(101,undef)] [ld b2 0 (vI x0_0_0)] ⟨hS.c 0,trivial⟩ ?_
  by_cases hc16:x0_0_0=3
  ·rw [if_pos hc16] at h
   refine gk 110 (x0_0_0 != 3) false (bne_eq_false_iff_eq.2 hc16)<|gb0 [13,14,15,16,17,18] [(116,.bool false),(115,.bool false),(114,undef),(113,undef),(112,undef),(111,undef)]<|gn hK25<|wf ?_
   have hS54:=(hS.b 1).b 1
   obtain rfl:=si h
   exact we_skip fun a hF=>hQ _ _ _ (Outs.again ⟨hS54,hF.weaken ea⟩)
  rw [if_neg hc16] at h
  refine gk 110 (x0_0_0 != 3) true (bne_iff_ne.2 hc16)<|gb [13,14,15,16,17,18] [(116,.bool (decide ((l0_0_5.length:Int) > 0))),(115,.bool (decide ((l0_0_5.length:Int) > 0))),(114,.bool (decide ((l0_0_5.length:Int) > 0))),(113,vI (l0_0_5.length:Int)),(112,.slice A0_0_5 l0_0_5.length c0_0_5),(111,pP b2 13)] [ld b2 13 (.slice A0_0_5 l0_0_5.length c0_0_5)] ⟨hS.c 0,trivial⟩<|gn hK25 ?_
  by_cases hc17:(l0_0_5.length:Int) > 0
  ·rw [if_pos hc17] at h
   refine wk 116 (decide ((l0_0_5.length:Int) > 0)) true (decide_eq_true hc17)<|wt<|ws fun K26 hK26=>wr [(0,0)]<|gb0 [0] [(2,vI 6)]<|gn hK26 ?_
   have hS55:=hS.takeN 0
   obtain rfl:=si h
   exact rq hQ fun a hF=>⟨rfl,(pr0 [.tmp 2] [vI 6] ⟨rfl,hS55⟩) a hF⟩
  rw [if_neg hc17] at h
  refine wk 116 (decide ((l0_0_5.length:Int) > 0)) false (decide_eq_false hc17)<|wf ?_
  have hS57:=(hS.b 1).b 1
  obtain rfl:=si h
  exact we_skip fun a hF=>hQ _ _ _ (Outs.again ⟨hS57,hF.weaken ea⟩)
 rw [if_neg hc15] at h
 refine gk 100 (!q6) true (congrArg (fun z=>!z) (Bool.eq_false_iff.2 hc15))<|gb [3,4,5,6,7,8] [(106,.bool (decide ((l0_0_4.length:Int) > 0))),(105,.bool (decide ((l0_0_4.length:Int) > 0))),(104,.bool (decide ((l0_0_4.length:Int) > 0))),(103,vI (l0_0_4.length:Int)),(102,.slice A0_0_4 l0_0_4.length c0_0_4),(101,pP b2 12)] [ld b2 12 (.slice A0_0_4 l0_0_4.length c0_0_4)] ⟨hS.c 0,trivial⟩ ?_
 by_cases hc18:(l0_0_4.length:Int) > 0
 ·rw [if_pos hc18] at h
  refine gk 106 (decide ((l0_0_4.length:Int) > 0)) true (decide_eq_true hc18)<|gb0 [9,10,11,12,13,14,15,16,17,18] [(116,.bool true),(115,undef),(114,undef),(113,undef),(112,undef),(111,undef),(110,undef),(109,undef),(108,undef),(107,undef)]<|gn hK25<|wt<|ws fun K27 hK27=>wr [(0,0)]<|gb0 [0] [(2,vI 6)]<|gn hK27 ?_
  have hS58:=hS.takeN 0
  obtain rfl:=si h
  exact rq hQ fun a hF=>⟨rfl,(pr0 [.tmp 2] [vI 6] ⟨rfl,hS58⟩) a hF⟩
 rw [if_neg hc18] at h
 refine gk 106 (decide ((l0_0_4.length:Int) > 0)) false (decide_eq_false hc18)<|gb [9,10,11,12] [(110,.bool (x0_0_0 != 3)),(109,.bool (x0_0_0 != 3)),(108,vI x0_0_0),(107,pP b2 0)] [ld b2 0 (vI x0_0_0)] ⟨hS.c 0,trivial⟩ ?_
 by_cases hc19:x0_0_0=3
 ·rw [if_pos hc19] at h
  refine gk 110 (x0_0_0 != 3) false (bne_eq_false_iff_eq.2 hc19)<|gb0 [13,14,15,16,17,18] [(116,.bool false),(115,.bool false),(114,undef),(113,undef),(112,undef),(111,undef)]<|gn hK25<|wf ?_
  have hS60:=(hS.b 1).b 1
  obtain rfl:=si h
  exact we_skip fun a hF=>hQ _ _ _ (Outs.again ⟨hS60,hF.weaken ea⟩)
 rw [if_neg hc19] at h
 refine gk 110 (x0_0_0 != 3) true (bne_iff_ne.2 hc19)<|gb [13,14,15,16,17,18] [(116,.bool (decide ((l0_0_5.length:Int) > 0))),(115,.bool (decide ((l0_0_5.length:Int) > 0))),(114,.bool (decide ((l0_0_5.length:Int) > 0))),(113,vI (l0_0_5.length:Int)),(112,.slice A0_0_5 l0_0_5.length c0_0_5),(111,pP b2 13)] [ld b2 13 (.slice A0_0_5 l0_0_5.length c0_0_5)] ⟨hS.c 0,trivial⟩<|gn hK25 ?_
 by_cases hc20:(l0_0_5.length:Int) > 0
 ·rw [if_pos hc20] at h
  refine wk 116 (decide ((l0_0_5.length:Int) > 0)) true (decide_eq_true hc20)<|wt<|ws fun K28 hK28=>wr [(0,0)]<|gb0 [0] [(2,vI 6)]<|gn hK28 ?_
  have hS61:=hS.takeN 0
  obtain rfl:=si h
  exact rq hQ fun a hF=>⟨rfl,(pr0 [.tmp 2] [vI 6] ⟨rfl,hS61⟩) a hF⟩
 rw [if_neg hc20] at h
 refine wk 116 (decide ((l0_0_5.length:Int) > 0)) false (decide_eq_false hc20)<|wf ?_
 have hS63:=(hS.b 1).b 1
 obtain rfl:=si h
 exact we_skip fun a hF=>hQ _ _ _ (Outs.again ⟨hS63,hF.weaken ea⟩)
abbrev pr_wrongStatement.A8 (w0:World) (x0_0_0 x0_0_1 x0_0_2_0 x0_0_2_1:Int) (l0_0_2_2:List SExpr) (A0_0_2_2:OA) (c0_0_2_2:Nat) (x0_0_3_0 x0_0_3_1_0 x0_0_3_1_1:Int) (l0_0_3_1_2:List SExpr) (A0_0_3_1_2:OA) (c0_0_3_1_2:Nat) (x0_0_3_2_0 x0_0_3_2_1:Int) (l0_0_3_2_2:List SExpr) (A0_0_3_2_2:OA) (c0_0_3_2_2:Nat) (l0_0_4:List SStmt) (A0_0_4:OA) (c0_0_4:Nat) (l0_0_5:List SStmt) (A0_0_5:OA) (c0_0_5:Nat) (x0_1:Int) (l0_2:List Int) (A0_2:OA) (c0_2 b1 b2:Nat) (q4 q6:Bool):Unit→Act→World→Prop:=fun (s:Unit) a w=>St w0 w [bk b2 #[vI x0_0_0,vI x0_0_1,vI x0_0_2_0,vI x0_0_2_1,.slice A0_0_2_2 l0_0_2_2.length c0_0_2_2,vI x0_0_3_0,vI x0_0_3_1_0,vI x0_0_3_1_1,.slice A0_0_3_1_2 l0_0_3_1_2.length c0_0_3_1_2,vI x0_0_3_2_0,vI x0_0_3_2_1,.slice A0_0_3_2_2 l0_0_3_2_2.length c0_0_3_2_2,.slice A0_0_4 l0_0_4.length c0_0_4,.slice A0_0_5 l0_0_5.length c0_0_5] 70,bk b1 #[vI x0_0_0,vI x0_0_1,vI x0_0_2_0,vI x0_0_2_1,.slice A0_0_2_2 l0_0_2_2.length c0_0_2_2,vI x0_0_3_0,vI x0_0_3_1_0,vI x0_0_3_1_1,.slice A0_0_3_1_2 l0_0_3_1_2.length c0_0_3_1_2,vI x0_0_3_2_0,vI x0_0_3_2_1,.slice A0_0_3_2_2 l0_0_3_2_2.length c0_0_3_2_2,.slice A0_0_4 l0_0_4.length c0_0_4,.slice A0_0_5 l0_0_5.length c0_0_5,vI x0_1,.slice A0_2 l0_2.length c0_2] 101]∧Frm 170 a [(1,pP b1 0),(3,pP b2 0),(7,.bool q4),(8,.bool q6)]
abbrev pr_wrongStatement.B8 (w0:World):Int→Exit→Act→World→Prop:=Rets Try.prog Try.f45 (pr_wrongStatement.Post w0)
theorem pr_wrongStatement_p8 (K:Nat) (w0:World) (Z:Zone) (x0_0_0 x0_0_1 x0_0_2_0 x0_0_2_1:Int) (l0_0_2_2:List SExpr) (A0_0_2_2:OA) (c0_0_2_2:Nat) (x0_0_3_0 x0_0_3_1_0 x0_0_3_1_1:Int) (l0_0_3_1_2:List SExpr) (A0_0_3_1_2:OA) (c0_0_3_1_2:Nat) (x0_0_3_2_0 x0_0_3_2_1:Int) (l0_0_3_2_2:List SExpr) (A0_0_3_2_2:OA) (c0_0_3_2_2:Nat) (l0_0_4:List SStmt) (A0_0_4:OA) (c0_0_4:Nat) (l0_0_5:List SStmt) (A0_0_5:OA) (c0_0_5:Nat) (x0_1:Int) (l0_2:List Int) (A0_2:OA) (c0_2:Nat) (hZ:∀ w,Sub w0 w→Z w) (hR0_0_2_2:RdZ Z A0_0_2_2 l0_0_2_2) (hL0_0_2_2:l0_0_2_2.length≤c0_0_2_2) (hR0_0_3_1_2:RdZ Z A0_0_3_1_2 l0_0_3_1_2) (hL0_0_3_1_2:l0_0_3_1_2.length≤c0_0_3_1_2) (hR0_0_3_2_2:RdZ Z A0_0_3_2_2 l0_0_3_2_2) (hL0_0_3_2_2:l0_0_3_2_2.length≤c0_0_3_2_2) (hR0_0_4:RdZ Z A0_0_4 l0_0_4) (hL0_0_4:l0_0_4.length≤c0_0_4) (hR0_0_5:RdZ Z A0_0_5 l0_0_5) (hL0_0_5:l0_0_5.length≤c0_0_5) (hR0_2:RdL w0 A0_2 l0_2) (hL0_2:l0_2.length≤c0_2) (b1 b2 b3:Nat) (hc3:0≤x0_0_0) (e1:Int) (hx4:([0,0,0,0,0,0,0,1]:List Int)[(x0_0_0).toNat]?=some e1) (b4:Nat) (e2:Int) (hx6:([0,7,3,0,1000,1000,3,1000]:List Int)[(x0_0_0).toNat]?=some e2) (q2 q4 q6:Bool) (o:Unit ⊕ Int) (h:pr_wrongStatement.p8 K x0_0_2_0 x0_0_2_1 l0_0_2_2 q2=some o) (w:World) (hS:St w0 w [bk b2 #[vI x0_0_0,vI x0_0_1,vI x0_0_2_0,vI x0_0_2_1,.slice A0_0_2_2 l0_0_2_2.length c0_0_2_2,vI x0_0_3_0,vI x0_0_3_1_0,vI x0_0_3_1_1,.slice A0_0_3_1_2 l0_0_3_1_2.length c0_0_3_1_2,vI x0_0_3_2_0,vI x0_0_3_2_1,.slice A0_0_3_2_2 l0_0_3_2_2.length c0_0_3_2_2,.slice A0_0_4 l0_0_4.length c0_0_4,.slice A0_0_5 l0_0_5.length c0_0_5] 70,bk b1 #[vI x0_0_0,vI x0_0_1,vI x0_0_2_0,vI x0_0_2_1,.slice A0_0_2_2 l0_0_2_2.length c0_0_2_2,vI x0_0_3_0,vI x0_0_3_1_0,vI x0_0_3_1_1,.slice A0_0_3_1_2 l0_0_3_1_2.length c0_0_3_1_2,vI x0_0_3_2_0,vI x0_0_3_2_1,.slice A0_0_3_2_2 l0_0_3_2_2.length c0_0_3_2_2,.slice A0_0_4 l0_0_4.length c0_0_4,.slice A0_0_5 l0_0_5.length c0_0_5,vI x0_1,.slice A0_2 l0_2.length c0_2] 101]) (Q:Exit→Act→World→Prop) (hQ:∀ x a w,Outs (pr_wrongStatement.A8 w0 x0_0_0 x0_0_1 x0_0_2_0 x0_0_2_1 l0_0_2_2 A0_0_2_2 c0_0_2_2 x0_0_3_0 x0_0_3_1_0 x0_0_3_1_1 l0_0_3_1_2 A0_0_3_1_2 c0_0_3_1_2 x0_0_3_2_0 x0_0_3_2_1 l0_0_3_2_2 A0_0_3_2_2 c0_0_3_2_2 l0_0_4 A0_0_4 c0_0_4 l0_0_5 A0_0_5 c0_0_5 x0_1 l0_2 A0_2 c0_2 b1 b2 q4 q6) (pr_wrongStatement.B8 w0) o x a w→Q x a w):WE Try.prog 170 (subF Try.f45 [1,1,1,1,1,1,1,1,1,1,1,1,0]) Q [(1,pP b1 0),(3,pP b2 0),(6,.bool q2),(7,.bool q4),(8,.bool q6)] w:=by
 simp only [pr_wrongStatement.p8] at h
 refine ws fun K30 hK30=>wr [(0,0)]<|gb0 [0] [(117,.bool q2)]<|gn hK30 ?_
 by_cases hc21:q2=true
 ·rw [if_pos hc21] at h
  refine wk 117 q2 true hc21<|wt<|ws fun K31 hK31=>wr [(0,0),(1,0),(2,1),(3,0)] ?_
  rcases hq12:pr_wrongExpr.f K x0_0_2_0 x0_0_2_1 l0_0_2_2 with _ | r1
  ·rw [hq12] at h; cases h
  rw [hq12] at h
  simp only [] at h
  refine gb [0,1] [(119,.agg #[vI x0_0_2_0,vI x0_0_2_1,.slice A0_0_2_2 l0_0_2_2.length c0_0_2_2]),(118,pP b2 2)] [ld b2 2 (vI x0_0_2_0),ld b2 3 (vI x0_0_2_1),ld b2 4 (.slice A0_0_2_2 l0_0_2_2.length c0_0_2_2)] ⟨hS.c 0,hS.c 0,hS.c 0,trivial⟩<|ge_call (d:=some 120) (f:=61) (args:=#[.agg #[vI x0_0_2_0,vI x0_0_2_1,.slice A0_0_2_2 l0_0_2_2.length c0_0_2_2]]) (by kernel_rfl) (pr_wrongExpr_ok K Z x0_0_2_0 x0_0_2_1 l0_0_2_2 A0_0_2_2 c0_0_2_2 _ (fun w' k=>(hZ w' (hS.subw.trans k))) hR0_0_2_2 hL0_0_2_2 _ hq12) ?_
  rintro _ w17 ⟨rfl,hS65⟩
  refine ⟨_,rfl,hS65.below,?_⟩
  have hS66:=hS.call hS65
  refine gb0 [3] [(9,vI r1)]<|gn hK31<|ws fun K32 hK32=>wr [(0,0),(1,0)]<|gb0 [0,1] [(122,.bool (r1 != 0)),(121,vI r1)]<|gn hK32 ?_
  by_cases hc22:r1=0
  ·rw [if_pos hc22] at h
   refine wk 122 (r1 != 0) false (bne_eq_false_iff_eq.2 hc22)<|wf ?_
   have hS68:=(hS66.b 1).b 1
   obtain rfl:=si h
   exact we_skip fun a hF=>hQ _ _ _ (Outs.again ⟨hS68,hF.weaken ea⟩)
  rw [if_neg hc22] at h
  refine wk 122 (r1 != 0) true (bne_iff_ne.2 hc22)<|wt<|ws fun K33 hK33=>wr [(0,0),(1,0)]<|gb0 [0,1] [(2,vI r1),(123,vI r1)]<|gn hK33 ?_
  have hS69:=hS66.takeN 0
  obtain rfl:=si h
  exact rq hQ fun a hF=>⟨rfl,(pr0 [.tmp 2] [vI r1] ⟨rfl,hS69⟩) a hF⟩
 rw [if_neg hc21] at h
 refine wk 117 q2 false (Bool.eq_false_iff.2 hc21)<|wf ?_
 have hS71:=(hS.b 1).b 1
 obtain rfl:=si h
 exact we_skip fun a hF=>hQ _ _ _ (Outs.again ⟨hS71,hF.weaken ea⟩)
abbrev pr_wrongStatement.A9 (w0:World) (x0_0_0 x0_0_1 x0_0_2_0 x0_0_2_1:Int) (l0_0_2_2:List SExpr) (A0_0_2_2:OA) (c0_0_2_2:Nat) (x0_0_3_0 x0_0_3_1_0 x0_0_3_1_1:Int) (l0_0_3_1_2:List SExpr) (A0_0_3_1_2:OA) (c0_0_3_1_2:Nat) (x0_0_3_2_0 x0_0_3_2_1:Int) (l0_0_3_2_2:List SExpr) (A0_0_3_2_2:OA) (c0_0_3_2_2:Nat) (l0_0_4:List SStmt) (A0_0_4:OA) (c0_0_4:Nat) (l0_0_5:List SStmt) (A0_0_5:OA) (c0_0_5:Nat) (x0_1:Int) (l0_2:List Int) (A0_2:OA) (c0_2 b1 b2:Nat) (q6:Bool):Unit→Act→World→Prop:=fun (s:Unit) a w=>St w0 w [bk b2 #[vI x0_0_0,vI x0_0_1,vI x0_0_2_0,vI x0_0_2_1,.slice A0_0_2_2 l0_0_2_2.length c0_0_2_2,vI x0_0_3_0,vI x0_0_3_1_0,vI x0_0_3_1_1,.slice A0_0_3_1_2 l0_0_3_1_2.length c0_0_3_1_2,vI x0_0_3_2_0,vI x0_0_3_2_1,.slice A0_0_3_2_2 l0_0_3_2_2.length c0_0_3_2_2,.slice A0_0_4 l0_0_4.length c0_0_4,.slice A0_0_5 l0_0_5.length c0_0_5] 70,bk b1 #[vI x0_0_0,vI x0_0_1,vI x0_0_2_0,vI x0_0_2_1,.slice A0_0_2_2 l0_0_2_2.length c0_0_2_2,vI x0_0_3_0,vI x0_0_3_1_0,vI x0_0_3_1_1,.slice A0_0_3_1_2 l0_0_3_1_2.length c0_0_3_1_2,vI x0_0_3_2_0,vI x0_0_3_2_1,.slice A0_0_3_2_2 l0_0_3_2_2.length c0_0_3_2_2,.slice A0_0_4 l0_0_4.length c0_0_4,.slice A0_0_5 l0_0_5.length c0_0_5,vI x0_1,.slice A0_2 l0_2.length c0_2] 101]∧Frm 170 a [(1,pP b1 0),(3,pP b2 0),(8,.bool q6)]
abbrev pr_wrongStatement.B9 (w0:World):Int→Exit→Act→World→Prop:=Rets Try.prog Try.f45 (pr_wrongStatement.Post w0)
theorem pr_wrongStatement_p9 (K:Nat) (w0:World) (Z:Zone) (x0_0_0 x0_0_1 x0_0_2_0 x0_0_2_1:Int) (l0_0_2_2:List SExpr) (A0_0_2_2:OA) (c0_0_2_2:Nat) (x0_0_3_0 x0_0_3_1_0 x0_0_3_1_1:Int) (l0_0_3_1_2:List SExpr) (A0_0_3_1_2:OA) (c0_0_3_1_2:Nat) (x0_0_3_2_0 x0_0_3_2_1:Int) (l0_0_3_2_2:List SExpr) (A0_0_3_2_2:OA) (c0_0_3_2_2:Nat) (l0_0_4:List SStmt) (A0_0_4:OA) (c0_0_4:Nat) (l0_0_5:List SStmt) (A0_0_5:OA) (c0_0_5:Nat) (x0_1:Int) (l0_2:List Int) (A0_2:OA) (c0_2:Nat) (hZ:∀ w,Sub w0 w→Z w) (hR0_0_2_2:RdZ Z A0_0_2_2 l0_0_2_2) (hL0_0_2_2:l0_0_2_2.length≤c0_0_2_2) (hR0_0_3_1_2:RdZ Z A0_0_3_1_2 l0_0_3_1_2) (hL0_0_3_1_2:l0_0_3_1_2.length≤c0_0_3_1_2) (hR0_0_3_2_2:RdZ Z A0_0_3_2_2 l0_0_3_2_2) (hL0_0_3_2_2:l0_0_3_2_2.length≤c0_0_3_2_2) (hR0_0_4:RdZ Z A0_0_4 l0_0_4) (hL0_0_4:l0_0_4.length≤c0_0_4) (hR0_0_5:RdZ Z A0_0_5 l0_0_5) (hL0_0_5:l0_0_5.length≤c0_0_5) (hR0_2:RdL w0 A0_2 l0_2) (hL0_2:l0_2.length≤c0_2) (b1 b2 b3:Nat) (hc3:0≤x0_0_0) (e1:Int) (hx4:([0,0,0,0,0,0,0,1]:List Int)[(x0_0_0).toNat]?=some e1) (b4:Nat) (e2:Int) (hx6:([0,7,3,0,1000,1000,3,1000]:List Int)[(x0_0_0).toNat]?=some e2) (q2 q4 q6:Bool) (o:Unit ⊕ Int) (h:pr_wrongStatement.p9 K x0_0_3_0 x0_0_3_1_0 x0_0_3_1_1 l0_0_3_1_2 x0_0_3_2_0 x0_0_3_2_1 l0_0_3_2_2 q4=some o) (w:World) (hS:St w0 w [bk b2 #[vI x0_0_0,vI x0_0_1,vI x0_0_2_0,vI x0_0_2_1,.slice A0_0_2_2 l0_0_2_2.length c0_0_2_2,vI x0_0_3_0,vI x0_0_3_1_0,vI x0_0_3_1_1,.slice A0_0_3_1_2 l0_0_3_1_2.length c0_0_3_1_2,vI x0_0_3_2_0,vI x0_0_3_2_1,.slice A0_0_3_2_2 l0_0_3_2_2.length c0_0_3_2_2,.slice A0_0_4 l0_0_4.length c0_0_4,.slice A0_0_5 l0_0_5.length c0_0_5] 70,bk b1 #[vI x0_0_0,vI x0_0_1,vI x0_0_2_0,vI x0_0_2_1,.slice A0_0_2_2 l0_0_2_2.length c0_0_2_2,vI x0_0_3_0,vI x0_0_3_1_0,vI x0_0_3_1_1,.slice A0_0_3_1_2 l0_0_3_1_2.length c0_0_3_1_2,vI x0_0_3_2_0,vI x0_0_3_2_1,.slice A0_0_3_2_2 l0_0_3_2_2.length c0_0_3_2_2,.slice A0_0_4 l0_0_4.length c0_0_4,.slice A0_0_5 l0_0_5.length c0_0_5,vI x0_1,.slice A0_2 l0_2.length c0_2] 101]) (Q:Exit→Act→World→Prop) (hQ:∀ x a w,Outs (pr_wrongStatement.A9 w0 x0_0_0 x0_0_1 x0_0_2_0 x0_0_2_1 l0_0_2_2 A0_0_2_2 c0_0_2_2 x0_0_3_0 x0_0_3_1_0 x0_0_3_1_1 l0_0_3_1_2 A0_0_3_1_2 c0_0_3_1_2 x0_0_3_2_0 x0_0_3_2_1 l0_0_3_2_2 A0_0_3_2_2 c0_0_3_2_2 l0_0_4 A0_0_4 c0_0_4 l0_0_5 A0_0_5 c0_0_5 x0_1 l0_2 A0_2 c0_2 b1 b2 q6) (pr_wrongStatement.B9 w0) o x a w→Q x a w):WE Try.prog 170 (subF Try.f45 [1,1,1,1,1,1,1,1,1,1,1,1,1,0]) Q [(1,pP b1 0),(3,pP b2 0),(7,.bool q4),(8,.bool q6)] w:=by
 simp only [pr_wrongStatement.p9] at h
 refine ws fun K35 hK35=>wr [(0,0)]<|gb0 [0] [(124,.bool q4)]<|gn hK35 ?_
 by_cases hc23:q4=true
 ·rw [if_pos hc23] at h
  refine wk 124 q4 true hc23<|wt<|ws fun K36 hK36=>ws fun K37 hK37=>wr [(0,0),(1,0),(2,0),(3,0),(4,0),(5,0),(6,0),(7,0),(8,0),(9,0)]<|gb [0,1,2,3,4] [(129,.bool (decide (x0_0_3_0<1))),(128,.bool (decide (x0_0_3_0<1))),(127,vI x0_0_3_0),(126,pP b2 5),(125,pP b2 5)] [ld b2 5 (vI x0_0_3_0)] ⟨hS.c 0,trivial⟩ ?_
  by_cases hc24:x0_0_3_0<1
  ·rw [if_pos hc24] at h
   refine gk 129 (decide (x0_0_3_0<1)) true (decide_eq_true hc24)<|gb0 [5,6,7,8,9] [(134,.bool true),(133,undef),(132,undef),(131,undef),(130,undef)]<|gn hK37<|wt<|ws fun K38 hK38=>wr [(0,0)]<|gb0 [0] [(2,vI 6)]<|gn hK38 ?_
   have hS73:=hS.takeN 0
   obtain rfl:=si h
   exact rq hQ fun a hF=>⟨rfl,(pr0 [.tmp 2] [vI 6] ⟨rfl,hS73⟩) a hF⟩
  rw [if_neg hc24] at h
  refine gk 129 (decide (x0_0_3_0<1)) false (decide_eq_false hc24)<|gb [5,6,7,8,9] [(134,.bool (decide (x0_0_3_0 > 4))),(133,.bool (decide (x0_0_3_0 > 4))),(132,vI x0_0_3_0),(131,pP b2 5),(130,pP b2 5)] [ld b2 5 (vI x0_0_3_0)] ⟨hS.c 0,trivial⟩<|gn hK37 ?_
  by_cases hc25:x0_0_3_0 > 4
  ·rw [if_pos hc25] at h
   refine wk 134 (decide (x0_0_3_0 > 4)) true (decide_eq_true hc25)<|wt<|ws fun K39 hK39=>wr [(0,0)]<|gb0 [0] [(2,vI 6)]<|gn hK39 ?_
   have hS74:=hS.takeN 0
   obtain rfl:=si h
   exact rq hQ fun a hF=>⟨rfl,(pr0 [.tmp 2] [vI 6] ⟨rfl,hS74⟩) a hF⟩
  rw [if_neg hc25] at h
  refine wk 134 (decide (x0_0_3_0 > 4)) false (decide_eq_false hc25)<|wf<|we_skip fun a hF=>hK36 _ _ ?_ a hF
  refine ws fun K40 hK40=>ws fun K41 hK41=>wr [(0,0),(1,0),(2,0),(3,1),(4,0)] ?_
  rcases hq14:pr_wrongExpr.f K x0_0_3_1_0 x0_0_3_1_1 l0_0_3_1_2 with _ | r2
  ·rw [hq14] at h; cases h
  rw [hq14] at h
  simp only [] at h
  refine gb [0,1,2] [(137,.agg #[vI x0_0_3_1_0,vI x0_0_3_1_1,.slice A0_0_3_1_2 l0_0_3_1_2.length c0_0_3_1_2]),(136,pP b2 6),(135,pP b2 5)] [ld b2 6 (vI x0_0_3_1_0),ld b2 7 (vI x0_0_3_1_1),ld b2 8 (.slice A0_0_3_1_2 l0_0_3_1_2.length c0_0_3_1_2)] ⟨hS.c 0,hS.c 0,hS.c 0,trivial⟩<|ge_call (d:=some 138) (f:=61) (args:=#[.agg #[vI x0_0_3_1_0,vI x0_0_3_1_1,.slice A0_0_3_1_2 l0_0_3_1_2.length c0_0_3_1_2]]) (by kernel_rfl) (pr_wrongExpr_ok K Z x0_0_3_1_0 x0_0_3_1_1 l0_0_3_1_2 A0_0_3_1_2 c0_0_3_1_2 _ (fun w' k=>(hZ w' (hS.subw.trans k))) hR0_0_3_1_2 hL0_0_3_1_2 _ hq14) ?_
  rintro _ w19 ⟨rfl,hS75⟩
  refine ⟨_,rfl,hS75.below,?_⟩
  have hS76:=hS.call hS75
  refine gb0 [4] [(10,vI r2)]<|gn hK41<|ws fun K42 hK42=>wr [(0,0),(1,0)]<|gb0 [0,1] [(140,.bool (r2 != 0)),(139,vI r2)]<|gn hK42 ?_
  by_cases hc26:r2=0
  ·rw [if_pos hc26] at h
   refine wk 140 (r2 != 0) false (bne_eq_false_iff_eq.2 hc26)<|wf<|we_skip fun a hF=>hK40 _ _ ?_ a hF
   refine ws fun K43 hK43=>wr [(0,0),(1,0),(2,0),(3,1),(4,0)] ?_
   rcases hq15:pr_wrongExpr.f K x0_0_3_2_0 x0_0_3_2_1 l0_0_3_2_2 with _ | r3
   ·rw [hq15] at h; cases h
   rw [hq15] at h
   simp only [] at h
   refine gb [0,1,2] [(144,.agg #[vI x0_0_3_2_0,vI x0_0_3_2_1,.slice A0_0_3_2_2 l0_0_3_2_2.length c0_0_3_2_2]),(143,pP b2 9),(142,pP b2 5)] [ld b2 9 (vI x0_0_3_2_0),ld b2 10 (vI x0_0_3_2_1),ld b2 11 (.slice A0_0_3_2_2 l0_0_3_2_2.length c0_0_3_2_2)] ⟨hS76.c 0,hS76.c 0,hS76.c 0,trivial⟩<|ge_call (d:=some 145) (f:=61) (args:=#[.agg #[vI x0_0_3_2_0,vI x0_0_3_2_1,.slice A0_0_3_2_2 l0_0_3_2_2.length c0_0_3_2_2]]) (by kernel_rfl) (pr_wrongExpr_ok K Z x0_0_3_2_0 x0_0_3_2_1 l0_0_3_2_2 A0_0_3_2_2 c0_0_3_2_2 _ (fun w' k=>(hZ w' (hS76.subw.trans k))) hR0_0_3_2_2 hL0_0_3_2_2 _ hq15) ?_
   rintro _ w20 ⟨rfl,hS77⟩
   refine ⟨_,rfl,hS77.below,?_⟩
   have hS78:=hS76.call hS77
   refine gb0 [4] [(11,vI r3)]<|gn hK43<|ws fun K44 hK44=>wr [(0,0),(1,0)]<|gb0 [0,1] [(147,.bool (r3 != 0)),(146,vI r3)]<|gn hK44 ?_
   by_cases hc27:r3=0
   ·rw [if_pos hc27] at h
    refine wk 147 (r3 != 0) false (bne_eq_false_iff_eq.2 hc27)<|wf ?_
    have hS80:=(hS78.b 1).b 1
    obtain rfl:=si h
    exact we_skip fun a hF=>hQ _ _ _ (Outs.again ⟨hS80,hF.weaken ea⟩)
   rw [if_neg hc27] at h
   refine wk 147 (r3 != 0) true (bne_iff_ne.2 hc27)<|wt<|ws fun K45 hK45=>wr [(0,0),(1,0)]<|gb0 [0,1] [(2,vI r3),(148,vI r3)]<|gn hK45 ?_
   have hS81:=hS78.takeN 0
   obtain rfl:=si h
   exact rq hQ fun a hF=>⟨rfl,(pr0 [.tmp 2] [vI r3] ⟨rfl,hS81⟩) a hF⟩
  rw [if_neg hc26] at h
  refine wk 140 (r2 != 0) true (bne_iff_ne.2 hc26)<|wt<|ws fun K46 hK46=>wr [(0,0),(1,0)]<|gb0 [0,1] [(2,vI r2),(141,vI r2)]<|gn hK46 ?_
  have hS82:=hS76.takeN 0
  obtain rfl:=si h
  exact rq hQ fun a hF=>⟨rfl,(pr0 [.tmp 2] [vI r2] ⟨rfl,hS82⟩) a hF⟩
 rw [if_neg hc23] at h
 refine wk 124 q4 false (Bool.eq_false_iff.2 hc23)<|wf ?_
 have hS84:=(hS.b 1).b 1
 obtain rfl:=si h
 exact we_skip fun a hF=>hQ _ _ _ (Outs.again ⟨hS84,hF.weaken ea⟩)
abbrev pr_wrongStatement.A10 (w0:World) (x0_0_0 x0_0_1 x0_0_2_0 x0_0_2_1:Int) (l0_0_2_2:List SExpr) (A0_0_2_2:OA) (c0_0_2_2:Nat) (x0_0_3_0 x0_0_3_1_0 x0_0_3_1_1:Int) (l0_0_3_1_2:List SExpr) (A0_0_3_1_2:OA) (c0_0_3_1_2:Nat) (x0_0_3_2_0 x0_0_3_2_1:Int) (l0_0_3_2_2:List SExpr) (A0_0_3_2_2:OA) (c0_0_3_2_2:Nat) (l0_0_4:List SStmt) (A0_0_4:OA) (c0_0_4:Nat) (l0_0_5:List SStmt) (A0_0_5:OA) (c0_0_5:Nat) (l0_2:List Int) (A0_2:OA) (c0_2 b2:Nat):Nat→Act→World→Prop:=fun (s:Nat) a w=>St w0 w [bk b2 #[vI x0_0_0,vI x0_0_1,vI x0_0_2_0,vI x0_0_2_1,.slice A0_0_2_2 l0_0_2_2.length c0_0_2_2,vI x0_0_3_0,vI x0_0_3_1_0,vI x0_0_3_1_1,.slice A0_0_3_1_2 l0_0_3_1_2.length c0_0_3_1_2,vI x0_0_3_2_0,vI x0_0_3_2_1,.slice A0_0_3_2_2 l0_0_3_2_2.length c0_0_3_2_2,.slice A0_0_4 l0_0_4.length c0_0_4,.slice A0_0_5 l0_0_5.length c0_0_5] 70]∧Frm 170 a [(3,pP b2 0),(159,.slice A0_2 l0_2.length c0_2),(160,vI (l0_2.length:Int)),(161,vI (s:Int))]
abbrev pr_wrongStatement.B10 (w0:World):(Unit ⊕ Int)→Exit→Act→World→Prop:=Exits 0 (fun (s:Unit) a w=>St w0 w []∧Frm 170 a []) (Rets Try.prog Try.f45 (pr_wrongStatement.Post w0))
theorem pr_wrongStatement_r10 (K:Nat) (w0:World) (Z:Zone) (x0_0_0 x0_0_1 x0_0_2_0 x0_0_2_1:Int) (l0_0_2_2:List SExpr) (A0_0_2_2:OA) (c0_0_2_2:Nat) (x0_0_3_0 x0_0_3_1_0 x0_0_3_1_1:Int) (l0_0_3_1_2:List SExpr) (A0_0_3_1_2:OA) (c0_0_3_1_2:Nat) (x0_0_3_2_0 x0_0_3_2_1:Int) (l0_0_3_2_2:List SExpr) (A0_0_3_2_2:OA) (c0_0_3_2_2:Nat) (l0_0_4:List SStmt) (A0_0_4:OA) (c0_0_4:Nat) (l0_0_5:List SStmt) (A0_0_5:OA) (c0_0_5:Nat) (x0_1:Int) (l0_2:List Int) (A0_2:OA) (c0_2:Nat) (hZ:∀ w,Sub w0 w→Z w) (hR0_0_2_2:RdZ Z A0_0_2_2 l0_0_2_2) (hL0_0_2_2:l0_0_2_2.length≤c0_0_2_2) (hR0_0_3_1_2:RdZ Z A0_0_3_1_2 l0_0_3_1_2) (hL0_0_3_1_2:l0_0_3_1_2.length≤c0_0_3_1_2) (hR0_0_3_2_2:RdZ Z A0_0_3_2_2 l0_0_3_2_2) (hL0_0_3_2_2:l0_0_3_2_2.length≤c0_0_3_2_2) (hR0_0_4:RdZ Z A0_0_4 l0_0_4) (hL0_0_4:l0_0_4.length≤c0_0_4) (hR0_0_5:RdZ Z A0_0_5 l0_0_5) (hL0_0_5:l0_0_5.length≤c0_0_5) (hR0_2:RdL w0 A0_2 l0_2) (hL0_2:l0_2.length≤c0_2) (b1 b2 b3:Nat) (hc3:0≤x0_0_0) (e1:Int) (hx4:([0,0,0,0,0,0,0,1]:List Int)[(x0_0_0).toNat]?=some e1) (b4:Nat) (e2:Int) (hx6:([0,7,3,0,1000,1000,3,1000]:List Int)[(x0_0_0).toNat]?=some e2) (q2 q4 q6:Bool) (hc28:q6=true) (hc29:¬ (x0_1 ≥ 6)) (hc30:x0_0_0=6) (s:Nat) (o:Nat ⊕ (Unit ⊕ Int)) (h:pr_wrongStatement.r10 x0_0_1 l0_2 s=some o) (a:Act) (w:World) (hA:pr_wrongStatement.A10 w0 x0_0_0 x0_0_1 x0_0_2_0 x0_0_2_1 l0_0_2_2 A0_0_2_2 c0_0_2_2 x0_0_3_0 x0_0_3_1_0 x0_0_3_1_1 l0_0_3_1_2 A0_0_3_1_2 c0_0_3_1_2 x0_0_3_2_0 x0_0_3_2_1 l0_0_3_2_2 A0_0_3_2_2 c0_0_3_2_2 l0_0_4 A0_0_4 c0_0_4 l0_0_5 A0_0_5 c0_0_5 l0_2 A0_2 c0_2 b2 s a w) (Q:Exit→Act→World→Prop) (hQ:∀ x a w,Outs (pr_wrongStatement.A10 w0 x0_0_0 x0_0_1 x0_0_2_0 x0_0_2_1 l0_0_2_2 A0_0_2_2 c0_0_2_2 x0_0_3_0 x0_0_3_1_0 x0_0_3_1_1 l0_0_3_1_2 A0_0_3_1_2 c0_0_3_1_2 x0_0_3_2_0 x0_0_3_2_1 l0_0_3_2_2 A0_0_3_2_2 c0_0_3_2_2 l0_0_4 A0_0_4 c0_0_4 l0_0_5 A0_0_5 c0_0_5 l0_2 A0_2 c0_2 b2) (pr_wrongStatement.B10 w0) o x a w→Q x a w):(subF Try.f45 [1,1,1,1,1,1,1,1,1,1,1,1,1,1,1,0,1,0,1,0,0]).wp Try.prog Q a w:=by
 obtain ⟨i1,hs⟩:∃ z,z=s:=⟨s,rfl⟩
 subst hs
 obtain ⟨hS,hF⟩:=hA
 replace hS:St w0 w [bk b2 #[vI x0_0_0,vI x0_0_1,vI x0_0_2_0,vI x0_0_2_1,.slice A0_0_2_2 l0_0_2_2.length c0_0_2_2,vI x0_0_3_0,vI x0_0_3_1_0,vI x0_0_3_1_1,.slice A0_0_3_1_2 l0_0_3_1_2.length c0_0_3_1_2,vI x0_0_3_2_0,vI x0_0_3_2_1,.slice A0_0_3_2_2 l0_0_3_2_2.length c0_0_3_2_2,.slice A0_0_4 l0_0_4.length c0_0_4,.slice A0_0_5 l0_0_5.length c0_0_5] 70]:=hS
 simp only [pr_wrongStatement.r10] at h
 refine (?_:WE Try.prog 170 (subF Try.f45 [1,1,1,1,1,1,1,1,1,1,1,1,1,1,1,0,1,0,1,0,0]) Q [(3,pP b2 0),(159,.slice A0_2 l0_2.length c0_2),(160,vI (l0_2.length:Int)),(161,vI (i1:Int))] w) a hF
 clear hF a
 refine ws fun K53 hK53=>wr [(0,0)]<|gb0 [0] [(162,.bool (decide ((i1:Int)<(l0_2.length:Int))))]<|gn hK53<|ws fun K54 hK54=>?_
 by_cases hc31:(i1:Int)<(l0_2.length:Int)
 ·rw [if_pos hc31] at h
  refine wk 162 (decide ((i1:Int)<(l0_2.length:Int))) true (decide_eq_true hc31)<|wt<|we_skip fun a hF=>hK54 _ _ ?_ a hF
  refine ws fun K55 hK55=>we_block<|ws fun K56 hK56=>wr [(0,0),(1,0),(2,0)] ?_
  rcases hx7:l0_2[i1]? with _ | e3
  ·rw [hx7] at h; cases h
  rw [hx7] at h
  simp only [] at h
  refine gi 163 0 23 3 1 l0_2.length c0_2 (.tmp 159) (.tmp 161) A0_2 .i64 (i1:Int) i1 ((hS.rd hR0_2).eqSome (pos_of_get hx7)) rfl (lt_of_get hx7) ?_
  refine gb [1,2] [(13,vI e3),(164,vI e3)] [.loaded ⟨blkOf A0_2,offOf A0_2+i1*1,none⟩ (vI e3)] ⟨RdL.cell (j:=0) (hS.rd hR0_2) hx7 rfl,trivial⟩<|gn hK56<|ws fun K57 hK57=>wr [(0,0),(1,0),(2,0),(3,0)]<|gb [0,1,2,3] [(168,.bool (e3==x0_0_1)),(167,vI x0_0_1),(166,pP b2 1),(165,vI e3)] [ld b2 1 (vI x0_0_1)] ⟨hS.c 0,trivial⟩<|gn hK57 ?_
  by_cases hc32:e3=x0_0_1
  ·rw [if_pos hc32] at h
   refine wk 168 (e3==x0_0_1) true (beq_iff_eq.2 hc32)<|wt<|ws fun K58 hK58=>wr [(0,0)]<|gb0 [0] [(2,vI 10)]<|gn hK58 ?_
   have hS88:=hS.takeN 0
   obtain rfl:=si h
   exact we_ret fun a hF=>hQ _ _ _ (Outs.out nofun (Exits.on ⟨rfl,(pr0 [.tmp 2] [vI 10] ⟨rfl,hS88⟩) a hF⟩))
  rw [if_neg hc32] at h
  refine wk 168 (e3==x0_0_1) false (beq_eq_false_iff_ne.2 hc32)<|wf<|we_skip fun a hF=>hK55 _ _ ?_ a hF
  refine wr [(0,0),(1,0)]<|ge_addn (d:=169) (ty:=3) (x:=(.tmp 161)) (y:=(.const (vI 1))) (t:=3) (t2:=3) (k:=.i64) (m:=i1) (by kernel_rfl) (by kernel_rfl) (by kernel_rfl) (by have h0:=hR0_2.small; omega) ?_
  refine gb0 [1] [(161,vI ((i1+1:Nat):Int))] ?_
  obtain rfl:=si h
  exact ge_nil fun a hF=>hQ _ _ _ (Outs.again ⟨hS,hF.weaken ea⟩)
 rw [if_neg hc31] at h
 refine wk 162 (decide ((i1:Int)<(l0_2.length:Int))) false (decide_eq_false hc31)<|wf ?_
 have hS89:=hS.takeN 0
 obtain rfl:=si h
 exact we_exit fun a hF=>hQ _ _ _ (Outs.out nofun (Exits.here ⟨hS89,hF.weaken trivial⟩))
abbrev pr_wrongStatement.A11 (w0:World) (x0_0_0 x0_0_1 x0_0_2_0 x0_0_2_1:Int) (l0_0_2_2:List SExpr) (A0_0_2_2:OA) (c0_0_2_2:Nat) (x0_0_3_0 x0_0_3_1_0 x0_0_3_1_1:Int) (l0_0_3_1_2:List SExpr) (A0_0_3_1_2:OA) (c0_0_3_1_2:Nat) (x0_0_3_2_0 x0_0_3_2_1:Int) (l0_0_3_2_2:List SExpr) (A0_0_3_2_2:OA) (c0_0_3_2_2:Nat) (l0_0_4:List SStmt) (A0_0_4:OA) (c0_0_4:Nat) (l0_0_5:List SStmt) (A0_0_5:OA) (c0_0_5:Nat) (l0_2:List Int) (A0_2:OA) (c0_2 b2:Nat):Nat→Act→World→Prop:=fun (s:Nat) a w=>St w0 w [bk b2 #[vI x0_0_0,vI x0_0_1,vI x0_0_2_0,vI x0_0_2_1,.slice A0_0_2_2 l0_0_2_2.length c0_0_2_2,vI x0_0_3_0,vI x0_0_3_1_0,vI x0_0_3_1_1,.slice A0_0_3_1_2 l0_0_3_1_2.length c0_0_3_1_2,vI x0_0_3_2_0,vI x0_0_3_2_1,.slice A0_0_3_2_2 l0_0_3_2_2.length c0_0_3_2_2,.slice A0_0_4 l0_0_4.length c0_0_4,.slice A0_0_5 l0_0_5.length c0_0_5] 70]∧Frm 170 a [(3,pP b2 0),(159,.slice A0_2 l0_2.length c0_2),(160,vI (l0_2.length:Int)),(161,vI (s:Int))]
abbrev pr_wrongStatement.B11 (w0:World):(Unit ⊕ Int)→Exit→Act→World→Prop:=Exits 0 (fun (s:Unit) a w=>St w0 w []∧Frm 170 a []) (Rets Try.prog Try.f45 (pr_wrongStatement.Post w0))
theorem pr_wrongStatement_r11 (K:Nat) (w0:World) (Z:Zone) (x0_0_0 x0_0_1 x0_0_2_0 x0_0_2_1:Int) (l0_0_2_2:List SExpr) (A0_0_2_2:OA) (c0_0_2_2:Nat) (x0_0_3_0 x0_0_3_1_0 x0_0_3_1_1:Int) (l0_0_3_1_2:List SExpr) (A0_0_3_1_2:OA) (c0_0_3_1_2:Nat) (x0_0_3_2_0 x0_0_3_2_1:Int) (l0_0_3_2_2:List SExpr) (A0_0_3_2_2:OA) (c0_0_3_2_2:Nat) (l0_0_4:List SStmt) (A0_0_4:OA) (c0_0_4:Nat) (l0_0_5:List SStmt) (A0_0_5:OA) (c0_0_5:Nat) (x0_1:Int) (l0_2:List Int) (A0_2:OA) (c0_2:Nat) (hZ:∀ w,Sub w0 w→Z w) (hR0_0_2_2:RdZ Z A0_0_2_2 l0_0_2_2) (hL0_0_2_2:l0_0_2_2.length≤c0_0_2_2) (hR0_0_3_1_2:RdZ Z A0_0_3_1_2 l0_0_3_1_2) (hL0_0_3_1_2:l0_0_3_1_2.length≤c0_0_3_1_2) (hR0_0_3_2_2:RdZ Z A0_0_3_2_2 l0_0_3_2_2) (hL0_0_3_2_2:l0_0_3_2_2.length≤c0_0_3_2_2) (hR0_0_4:RdZ Z A0_0_4 l0_0_4) (hL0_0_4:l0_0_4.length≤c0_0_4) (hR0_0_5:RdZ Z A0_0_5 l0_0_5) (hL0_0_5:l0_0_5.length≤c0_0_5) (hR0_2:RdL w0 A0_2 l0_2) (hL0_2:l0_2.length≤c0_2) (b1 b2 b3:Nat) (hc3:0≤x0_0_0) (e1:Int) (hx4:([0,0,0,0,0,0,0,1]:List Int)[(x0_0_0).toNat]?=some e1) (b4:Nat) (e2:Int) (hx6:([0,7,3,0,1000,1000,3,1000]:List Int)[(x0_0_0).toNat]?=some e2) (q2 q4 q6:Bool) (hc28:¬ (q6=true)) (hc33:x0_0_0=6) (s:Nat) (o:Nat ⊕ (Unit ⊕ Int)) (h:pr_wrongStatement.r11 x0_0_1 l0_2 s=some o) (a:Act) (w:World) (hA:pr_wrongStatement.A11 w0 x0_0_0 x0_0_1 x0_0_2_0 x0_0_2_1 l0_0_2_2 A0_0_2_2 c0_0_2_2 x0_0_3_0 x0_0_3_1_0 x0_0_3_1_1 l0_0_3_1_2 A0_0_3_1_2 c0_0_3_1_2 x0_0_3_2_0 x0_0_3_2_1 l0_0_3_2_2 A0_0_3_2_2 c0_0_3_2_2 l0_0_4 A0_0_4 c0_0_4 l0_0_5 A0_0_5 c0_0_5 l0_2 A0_2 c0_2 b2 s a w) (Q:Exit→Act→World→Prop) (hQ:∀ x a w,Outs (pr_wrongStatement.A11 w0 x0_0_0 x0_0_1 x0_0_2_0 x0_0_2_1 l0_0_2_2 A0_0_2_2 c0_0_2_2 x0_0_3_0 x0_0_3_1_0 x0_0_3_1_1 l0_0_3_1_2 A0_0_3_1_2 c0_0_3_1_2 x0_0_3_2_0 x0_0_3_2_1 l0_0_3_2_2 A0_0_3_2_2 c0_0_3_2_2 l0_0_4 A0_0_4 c0_0_4 l0_0_5 A0_0_5 c0_0_5 l0_2 A0_2 c0_2 b2) (pr_wrongStatement.B11 w0) o x a w→Q x a w):(subF Try.f45 [1,1,1,1,1,1,1,1,1,1,1,1,1,1,1,0,1,0,1,0,0]).wp Try.prog Q a w:=by
 obtain ⟨i2,hs⟩:∃ z,z=s:=⟨s,rfl⟩
 subst hs
 obtain ⟨hS,hF⟩:=hA
 replace hS:St w0 w [bk b2 #[vI x0_0_0,vI x0_0_1,vI x0_0_2_0,vI x0_0_2_1,.slice A0_0_2_2 l0_0_2_2.length c0_0_2_2,vI x0_0_3_0,vI x0_0_3_1_0,vI x0_0_3_1_1,.slice A0_0_3_1_2 l0_0_3_1_2.length c0_0_3_1_2,vI x0_0_3_2_0,vI x0_0_3_2_1,.slice A0_0_3_2_2 l0_0_3_2_2.length c0_0_3_2_2,.slice A0_0_4 l0_0_4.length c0_0_4,.slice A0_0_5 l0_0_5.length c0_0_5] 70]:=hS
 simp only [pr_wrongStatement.r11] at h
 refine (?_:WE Try.prog 170 (subF Try.f45 [1,1,1,1,1,1,1,1,1,1,1,1,1,1,1,0,1,0,1,0,0]) Q [(3,pP b2 0),(159,.slice A0_2 l0_2.length c0_2),(160,vI (l0_2.length:Int)),(161,vI (i2:Int))] w) a hF
 clear hF a
 refine ws fun K64 hK64=>wr [(0,0)]<|gb0 [0] [(162,.bool (decide ((i2:Int)<(l0_2.length:Int))))]<|gn hK64<|ws fun K65 hK65=>?_
 by_cases hc34:(i2:Int)<(l0_2.length:Int)
 ·rw [if_pos hc34] at h
  refine wk 162 (decide ((i2:Int)<(l0_2.length:Int))) true (decide_eq_true hc34)<|wt<|we_skip fun a hF=>hK65 _ _ ?_ a hF
  refine ws fun K66 hK66=>we_block<|ws fun K67 hK67=>wr [(0,0),(1,0),(2,0)] ?_
  rcases hx8:l0_2[i2]? with _ | e4
  ·rw [hx8] at h; cases h
  rw [hx8] at h
  simp only [] at h
  refine gi 163 0 23 3 1 l0_2.length c0_2 (.tmp 159) (.tmp 161) A0_2 .i64 (i2:Int) i2 ((hS.rd hR0_2).eqSome (pos_of_get hx8)) rfl (lt_of_get hx8) ?_
  refine gb [1,2] [(13,vI e4),(164,vI e4)] [.loaded ⟨blkOf A0_2,offOf A0_2+i2*1,none⟩ (vI e4)] ⟨RdL.cell (j:=0) (hS.rd hR0_2) hx8 rfl,trivial⟩<|gn hK67<|ws fun K68 hK68=>wr [(0,0),(1,0),(2,0),(3,0)]<|gb [0,1,2,3] [(168,.bool (e4==x0_0_1)),(167,vI x0_0_1),(166,pP b2 1),(165,vI e4)] [ld b2 1 (vI x0_0_1)] ⟨hS.c 0,trivial⟩<|gn hK68 ?_
  by_cases hc35:e4=x0_0_1
  ·rw [if_pos hc35] at h
   refine wk 168 (e4==x0_0_1) true (beq_iff_eq.2 hc35)<|wt<|ws fun K69 hK69=>wr [(0,0)]<|gb0 [0] [(2,vI 10)]<|gn hK69 ?_
   have hS93:=hS.takeN 0
   obtain rfl:=si h
   exact we_ret fun a hF=>hQ _ _ _ (Outs.out nofun (Exits.on ⟨rfl,(pr0 [.tmp 2] [vI 10] ⟨rfl,hS93⟩) a hF⟩))
  rw [if_neg hc35] at h
  refine wk 168 (e4==x0_0_1) false (beq_eq_false_iff_ne.2 hc35)<|wf<|we_skip fun a hF=>hK66 _ _ ?_ a hF
  refine wr [(0,0),(1,0)]<|ge_addn (d:=169) (ty:=3) (x:=(.tmp 161)) (y:=(.const (vI 1))) (t:=3) (t2:=3) (k:=.i64) (m:=i2) (by kernel_rfl) (by kernel_rfl) (by kernel_rfl) (by have h0:=hR0_2.small; omega) ?_
  refine gb0 [1] [(161,vI ((i2+1:Nat):Int))] ?_
  obtain rfl:=si h
  exact ge_nil fun a hF=>hQ _ _ _ (Outs.again ⟨hS,hF.weaken ea⟩)
 rw [if_neg hc34] at h
 refine wk 162 (decide ((i2:Int)<(l0_2.length:Int))) false (decide_eq_false hc34)<|wf ?_
 have hS94:=hS.takeN 0
 obtain rfl:=si h
 exact we_exit fun a hF=>hQ _ _ _ (Outs.out nofun (Exits.here ⟨hS94,hF.weaken trivial⟩))
theorem pr_wrongStatement_ok (K:Nat) (Z:Zone) (x0_0_0 x0_0_1 x0_0_2_0 x0_0_2_1:Int) (l0_0_2_2:List SExpr) (A0_0_2_2:OA) (c0_0_2_2:Nat) (x0_0_3_0 x0_0_3_1_0 x0_0_3_1_1:Int) (l0_0_3_1_2:List SExpr) (A0_0_3_1_2:OA) (c0_0_3_1_2:Nat) (x0_0_3_2_0 x0_0_3_2_1:Int) (l0_0_3_2_2:List SExpr) (A0_0_3_2_2:OA) (c0_0_3_2_2:Nat) (l0_0_4:List SStmt) (A0_0_4:OA) (c0_0_4:Nat) (l0_0_5:List SStmt) (A0_0_5:OA) (c0_0_5:Nat) (x0_1:Int) (l0_2:List Int) (A0_2:OA) (c0_2:Nat) (w0:World) (hZ:∀ w,Sub w0 w→Z w) (hR0_0_2_2:RdZ Z A0_0_2_2 l0_0_2_2) (hL0_0_2_2:l0_0_2_2.length≤c0_0_2_2) (hR0_0_3_1_2:RdZ Z A0_0_3_1_2 l0_0_3_1_2) (hL0_0_3_1_2:l0_0_3_1_2.length≤c0_0_3_1_2) (hR0_0_3_2_2:RdZ Z A0_0_3_2_2 l0_0_3_2_2) (hL0_0_3_2_2:l0_0_3_2_2.length≤c0_0_3_2_2) (hR0_0_4:RdZ Z A0_0_4 l0_0_4) (hL0_0_4:l0_0_4.length≤c0_0_4) (hR0_0_5:RdZ Z A0_0_5 l0_0_5) (hL0_0_5:l0_0_5.length≤c0_0_5) (hR0_2:RdL w0 A0_2 l0_2) (hL0_2:l0_2.length≤c0_2) (r:Int) (h:pr_wrongStatement.f K x0_0_0 x0_0_1 x0_0_2_0 x0_0_2_1 l0_0_2_2 x0_0_3_0 x0_0_3_1_0 x0_0_3_1_1 l0_0_3_1_2 x0_0_3_2_0 x0_0_3_2_1 l0_0_3_2_2 l0_0_4 l0_0_5 x0_1 l0_2=some r) :
  Calls Try.prog 45 #[.agg #[vI x0_0_0,vI x0_0_1,vI x0_0_2_0,vI x0_0_2_1,.slice A0_0_2_2 l0_0_2_2.length c0_0_2_2,vI x0_0_3_0,vI x0_0_3_1_0,vI x0_0_3_1_1,.slice A0_0_3_1_2 l0_0_3_1_2.length c0_0_3_1_2,vI x0_0_3_2_0,vI x0_0_3_2_1,.slice A0_0_3_2_2 l0_0_3_2_2.length c0_0_3_2_2,.slice A0_0_4 l0_0_4.length c0_0_4,.slice A0_0_5 l0_0_5.length c0_0_5,vI x0_1,.slice A0_2 l0_2.length c0_2]] w0 (pr_wrongStatement.Post w0 r):=by
 have hS:=St.start w0
 unfold pr_wrongStatement.f at h
 refine calls_enter (n:=170) (args:=[.agg #[vI x0_0_0,vI x0_0_1,vI x0_0_2_0,vI x0_0_2_1,.slice A0_0_2_2 l0_0_2_2.length c0_0_2_2,vI x0_0_3_0,vI x0_0_3_1_0,vI x0_0_3_1_1,.slice A0_0_3_1_2 l0_0_3_1_2.length c0_0_3_1_2,vI x0_0_3_2_0,vI x0_0_3_2_1,.slice A0_0_3_2_2 l0_0_3_2_2.length c0_0_3_2_2,.slice A0_0_4 l0_0_4.length c0_0_4,.slice A0_0_5 l0_0_5.length c0_0_5,vI x0_1,.slice A0_2 l0_2.length c0_2]]) (fn:=Try.f45) rfl rfl rfl rfl ?_
 show WE _ _ _ _ [(0,.agg #[vI x0_0_0,vI x0_0_1,vI x0_0_2_0,vI x0_0_2_1,.slice A0_0_2_2 l0_0_2_2.length c0_0_2_2,vI x0_0_3_0,vI x0_0_3_1_0,vI x0_0_3_1_1,.slice A0_0_3_1_2 l0_0_3_1_2.length c0_0_3_1_2,vI x0_0_3_2_0,vI x0_0_3_2_1,.slice A0_0_3_2_2 l0_0_3_2_2.length c0_0_3_2_2,.slice A0_0_4 l0_0_4.length c0_0_4,.slice A0_0_5 l0_0_5.length c0_0_5,vI x0_1,.slice A0_2 l0_2.length c0_2])] _
 refine ws fun K1 hK1=>wr [(0,1),(1,0)]<|gw (some 1) (.cells #[vI x0_0_0,vI x0_0_1,vI x0_0_2_0,vI x0_0_2_1,.slice A0_0_2_2 l0_0_2_2.length c0_0_2_2,vI x0_0_3_0,vI x0_0_3_1_0,vI x0_0_3_1_1,.slice A0_0_3_1_2 l0_0_3_1_2.length c0_0_3_1_2,vI x0_0_3_2_0,vI x0_0_3_2_1,.slice A0_0_3_2_2 l0_0_3_2_2.length c0_0_3_2_2,.slice A0_0_4 l0_0_4.length c0_0_4,.slice A0_0_5 l0_0_5.length c0_0_5,vI x0_1,.slice A0_2 l0_2.length c0_2] 101) (fun b=>pP b 0) hS fun b1 w1 hx1 hS1=>?_
 refine gb0 [1] [(2,vI 0)]<|gn hK1<|ws fun K2 hK2=>wr [(0,0),(1,0),(2,1),(3,2)]<|gb [0,1] [(15,.agg #[vI x0_0_0,vI x0_0_1,vI x0_0_2_0,vI x0_0_2_1,.slice A0_0_2_2 l0_0_2_2.length c0_0_2_2,vI x0_0_3_0,vI x0_0_3_1_0,vI x0_0_3_1_1,.slice A0_0_3_1_2 l0_0_3_1_2.length c0_0_3_1_2,vI x0_0_3_2_0,vI x0_0_3_2_1,.slice A0_0_3_2_2 l0_0_3_2_2.length c0_0_3_2_2,.slice A0_0_4 l0_0_4.length c0_0_4,.slice A0_0_5 l0_0_5.length c0_0_5]),(14,pP b1 0)] [ld b1 0 (vI x0_0_0),ld b1 1 (vI x0_0_1),ld b1 2 (vI x0_0_2_0),ld b1 3 (vI x0_0_2_1),ld b1 4 (.slice A0_0_2_2 l0_0_2_2.length c0_0_2_2),ld b1 5 (vI x0_0_3_0),ld b1 6 (vI x0_0_3_1_0),ld b1 7 (vI x0_0_3_1_1),ld b1 8 (.slice A0_0_3_1_2 l0_0_3_1_2.length c0_0_3_1_2),ld b1 9 (vI x0_0_3_2_0),ld b1 10 (vI x0_0_3_2_1),ld b1 11 (.slice A0_0_3_2_2 l0_0_3_2_2.length c0_0_3_2_2),ld b1 12 (.slice A0_0_4 l0_0_4.length c0_0_4),ld b1 13 (.slice A0_0_5 l0_0_5.length c0_0_5)] ⟨hS1.c 0,hS1.c 0,hS1.c 0,hS1.c 0,hS1.c 0,hS1.c 0,hS1.c 0,hS1.c 0,hS1.c 0,hS1.c 0,hS1.c 0,hS1.c 0,hS1.c 0,hS1.c 0,trivial⟩<|gw (some 3) (.cells #[vI 0,vI 0,vI 0,vI 0,.slice none 0 0,vI 0,vI 0,vI 0,.slice none 0 0,vI 0,vI 0,.slice none 0 0,.slice none 0 0,.slice none 0 0] 70) (fun b=>pP b 0) hS1 fun b2 w2 hx2 hS2=>?_
 refine gs b2 0 #[vI 0,vI 0,vI 0,vI 0,.slice none 0 0,vI 0,vI 0,vI 0,.slice none 0 0,vI 0,vI 0,.slice none 0 0,.slice none 0 0,.slice none 0 0] 70 [vI x0_0_0,vI x0_0_1,vI x0_0_2_0,vI x0_0_2_1,.slice A0_0_2_2 l0_0_2_2.length c0_0_2_2,vI x0_0_3_0,vI x0_0_3_1_0,vI x0_0_3_1_1,.slice A0_0_3_1_2 l0_0_3_1_2.length c0_0_3_1_2,vI x0_0_3_2_0,vI x0_0_3_2_1,.slice A0_0_3_2_2 l0_0_3_2_2.length c0_0_3_2_2,.slice A0_0_4 l0_0_4.length c0_0_4,.slice A0_0_5 l0_0_5.length c0_0_5] hS2 fun w3 hS3=>?_
 have hS4:=hS3.nc #[vI x0_0_0,vI x0_0_1,vI x0_0_2_0,vI x0_0_2_1,.slice A0_0_2_2 l0_0_2_2.length c0_0_2_2,vI x0_0_3_0,vI x0_0_3_1_0,vI x0_0_3_1_1,.slice A0_0_3_1_2 l0_0_3_1_2.length c0_0_3_1_2,vI x0_0_3_2_0,vI x0_0_3_2_1,.slice A0_0_3_2_2 l0_0_3_2_2.length c0_0_3_2_2,.slice A0_0_4 l0_0_4.length c0_0_4,.slice A0_0_5 l0_0_5.length c0_0_5] (by kernel_rfl)
 refine gn hK2<|ws fun K3 hK3=>?_
 rcases hq1:pr_wrongStatement.p0 x0_0_0 with _ | (_ | rr12)
 ·rw [hq1] at h; cases h
 ·rw [hq1] at h
  simp only [] at h
  refine kp (pr_wrongStatement_p0 K w0 Z x0_0_0 x0_0_1 x0_0_2_0 x0_0_2_1 l0_0_2_2 A0_0_2_2 c0_0_2_2 x0_0_3_0 x0_0_3_1_0 x0_0_3_1_1 l0_0_3_1_2 A0_0_3_1_2 c0_0_3_1_2 x0_0_3_2_0 x0_0_3_2_1 l0_0_3_2_2 A0_0_3_2_2 c0_0_3_2_2 l0_0_4 A0_0_4 c0_0_4 l0_0_5 A0_0_5 c0_0_5 x0_1 l0_2 A0_2 c0_2 hZ hR0_0_2_2 hL0_0_2_2 hR0_0_3_1_2 hL0_0_3_1_2 hR0_0_3_2_2 hL0_0_3_2_2 hR0_0_4 hL0_0_4 hR0_0_5 hL0_0_5 hR0_2 hL0_2 b1 b2 _ hq1 _ hS4 _ ?_)
  rintro _ a w4 ⟨rfl,hS9,hF⟩
  replace hS9:St w0 w4 [bk b2 #[vI x0_0_0,vI x0_0_1,vI x0_0_2_0,vI x0_0_2_1,.slice A0_0_2_2 l0_0_2_2.length c0_0_2_2,vI x0_0_3_0,vI x0_0_3_1_0,vI x0_0_3_1_1,.slice A0_0_3_1_2 l0_0_3_1_2.length c0_0_3_1_2,vI x0_0_3_2_0,vI x0_0_3_2_1,.slice A0_0_3_2_2 l0_0_3_2_2.length c0_0_3_2_2,.slice A0_0_4 l0_0_4.length c0_0_4,.slice A0_0_5 l0_0_5.length c0_0_5] 70,bk b1 #[vI x0_0_0,vI x0_0_1,vI x0_0_2_0,vI x0_0_2_1,.slice A0_0_2_2 l0_0_2_2.length c0_0_2_2,vI x0_0_3_0,vI x0_0_3_1_0,vI x0_0_3_1_1,.slice A0_0_3_1_2 l0_0_3_1_2.length c0_0_3_1_2,vI x0_0_3_2_0,vI x0_0_3_2_1,.slice A0_0_3_2_2 l0_0_3_2_2.length c0_0_3_2_2,.slice A0_0_4 l0_0_4.length c0_0_4,.slice A0_0_5 l0_0_5.length c0_0_5,vI x0_1,.slice A0_2 l0_2.length c0_2] 101]:=hS9
  refine hK3 [(1,pP b1 0),(3,pP b2 0)] w4 ?_ a hF
  refine ws fun K7 hK7=>wr [(0,1),(1,0),(2,0),(3,0),(4,0),(5,0)]<|gw (some 24) (.cells #[vI 0,vI 0,vI 0,vI 0,vI 0,vI 0,vI 0,vI 1] 3) (fun b=>.slice (some ⟨b,0,none⟩) 8 8) hS9 fun b3 w5 hx3 hS10=>?_
  refine gb [1,2] [(26,vI x0_0_0),(25,pP b2 0)] [ld b2 0 (vI x0_0_0)] ⟨hS10.c 1,trivial⟩ ?_
  by_cases hc3:0≤x0_0_0
  ·rw [if_pos hc3] at h
   rcases hx4:([0,0,0,0,0,0,0,1]:List Int)[(x0_0_0).toNat]? with _ | e1
   ·rw [hx4] at h; cases h
   rw [hx4] at h
   simp only [] at h
   refine gi 27 0 23 3 1 8 8 (.tmp 24) (.tmp 26) (some ⟨b3,0,none⟩) .i64 x0_0_0 ((x0_0_0).toNat) ((hS10.rdBlk 0 ([0,0,0,0,0,0,0,1]:List Int) rfl rfl rfl).eqSome (pos_of_get hx4)) (Int.toNat_of_nonneg hc3).symm (lt_of_get hx4) ?_
   refine gb [4,5] [(4,vI e1),(28,vI e1)] [.loaded ⟨blkOf (some ⟨b3,0,none⟩),offOf (some ⟨b3,0,none⟩)+((x0_0_0).toNat)*1,none⟩ (vI e1)] ⟨RdL.cell (j:=0) (hS10.rdBlk 0 ([0,0,0,0,0,0,0,1]:List Int) rfl rfl rfl) hx4 rfl,trivial⟩<|gn hK7<|ws fun K8 hK8=>wr [(0,1),(1,0),(2,0),(3,0),(4,0),(5,0)]<|gw (some 29) (.cells #[vI 0,vI 7,vI 3,vI 0,vI 1000,vI 1000,vI 3,vI 1000] 3) (fun b=>.slice (some ⟨b,0,none⟩) 8 8) hS10 fun b4 w6 hx5 hS11=>?_
   refine gb [1,2] [(31,vI x0_0_0),(30,pP b2 0)] [ld b2 0 (vI x0_0_0)] ⟨hS11.c 2,trivial⟩ ?_
   rcases hx6:([0,7,3,0,1000,1000,3,1000]:List Int)[(x0_0_0).toNat]? with _ | e2
   ·rw [hx6] at h; cases h
   rw [hx6] at h
   simp only [] at h
   refine gi 32 0 23 3 1 8 8 (.tmp 29) (.tmp 31) (some ⟨b4,0,none⟩) .i64 x0_0_0 ((x0_0_0).toNat) ((hS11.rdBlk 0 ([0,7,3,0,1000,1000,3,1000]:List Int) rfl rfl rfl).eqSome (pos_of_get hx6)) (Int.toNat_of_nonneg hc3).symm (lt_of_get hx6) ?_
   refine gb [4,5] [(5,vI e2),(33,vI e2)] [.loaded ⟨blkOf (some ⟨b4,0,none⟩),offOf (some ⟨b4,0,none⟩)+((x0_0_0).toNat)*1,none⟩ (vI e2)] ⟨RdL.cell (j:=0) (hS11.rdBlk 0 ([0,7,3,0,1000,1000,3,1000]:List Int) rfl rfl rfl) hx6 rfl,trivial⟩<|gn hK8<|ws fun K9 hK9=>?_
   rcases hq2:pr_wrongStatement.p1 x0_0_1 e1 e2 with _ | (_ | rr11)
   ·rw [hq2] at h; cases h
   ·rw [hq2] at h
    simp only [] at h
    refine kp (pr_wrongStatement_p1 K w0 Z x0_0_0 x0_0_1 x0_0_2_0 x0_0_2_1 l0_0_2_2 A0_0_2_2 c0_0_2_2 x0_0_3_0 x0_0_3_1_0 x0_0_3_1_1 l0_0_3_1_2 A0_0_3_1_2 c0_0_3_1_2 x0_0_3_2_0 x0_0_3_2_1 l0_0_3_2_2 A0_0_3_2_2 c0_0_3_2_2 l0_0_4 A0_0_4 c0_0_4 l0_0_5 A0_0_5 c0_0_5 x0_1 l0_2 A0_2 c0_2 hZ hR0_0_2_2 hL0_0_2_2 hR0_0_3_1_2 hL0_0_3_1_2 hR0_0_3_2_2 hL0_0_3_2_2 hR0_0_4 hL0_0_4 hR0_0_5 hL0_0_5 hR0_2 hL0_2 b1 b2 b3 hc3 e1 hx4 b4 e2 hx6 _ hq2 _ hS11 _ ?_)
    rintro _ a w7 ⟨rfl,hS17,hF⟩
    replace hS17:St w0 w7 [bk b2 #[vI x0_0_0,vI x0_0_1,vI x0_0_2_0,vI x0_0_2_1,.slice A0_0_2_2 l0_0_2_2.length c0_0_2_2,vI x0_0_3_0,vI x0_0_3_1_0,vI x0_0_3_1_1,.slice A0_0_3_1_2 l0_0_3_1_2.length c0_0_3_1_2,vI x0_0_3_2_0,vI x0_0_3_2_1,.slice A0_0_3_2_2 l0_0_3_2_2.length c0_0_3_2_2,.slice A0_0_4 l0_0_4.length c0_0_4,.slice A0_0_5 l0_0_5.length c0_0_5] 70,bk b1 #[vI x0_0_0,vI x0_0_1,vI x0_0_2_0,vI x0_0_2_1,.slice A0_0_2_2 l0_0_2_2.length c0_0_2_2,vI x0_0_3_0,vI x0_0_3_1_0,vI x0_0_3_1_1,.slice A0_0_3_1_2 l0_0_3_1_2.length c0_0_3_1_2,vI x0_0_3_2_0,vI x0_0_3_2_1,.slice A0_0_3_2_2 l0_0_3_2_2.length c0_0_3_2_2,.slice A0_0_4 l0_0_4.length c0_0_4,.slice A0_0_5 l0_0_5.length c0_0_5,vI x0_1,.slice A0_2 l0_2.length c0_2] 101]:=hS17
    refine hK9 [(1,pP b1 0),(3,pP b2 0)] w7 ?_ a hF
    refine ws fun K13 hK13=>?_
    rcases hq3:pr_wrongStatement.p2 x0_0_0 with _ | (q2 | rr10)
    ·rw [hq3] at h; cases h
    ·rw [hq3] at h
     simp only [] at h
     refine kp (pr_wrongStatement_p2 K w0 Z x0_0_0 x0_0_1 x0_0_2_0 x0_0_2_1 l0_0_2_2 A0_0_2_2 c0_0_2_2 x0_0_3_0 x0_0_3_1_0 x0_0_3_1_1 l0_0_3_1_2 A0_0_3_1_2 c0_0_3_1_2 x0_0_3_2_0 x0_0_3_2_1 l0_0_3_2_2 A0_0_3_2_2 c0_0_3_2_2 l0_0_4 A0_0_4 c0_0_4 l0_0_5 A0_0_5 c0_0_5 x0_1 l0_2 A0_2 c0_2 hZ hR0_0_2_2 hL0_0_2_2 hR0_0_3_1_2 hL0_0_3_1_2 hR0_0_3_2_2 hL0_0_3_2_2 hR0_0_4 hL0_0_4 hR0_0_5 hL0_0_5 hR0_2 hL0_2 b1 b2 b3 hc3 e1 hx4 b4 e2 hx6 _ hq3 _ hS17 _ ?_)
     rintro _ a w8 ⟨rfl,hS22,hF⟩
     replace hS22:St w0 w8 [bk b2 #[vI x0_0_0,vI x0_0_1,vI x0_0_2_0,vI x0_0_2_1,.slice A0_0_2_2 l0_0_2_2.length c0_0_2_2,vI x0_0_3_0,vI x0_0_3_1_0,vI x0_0_3_1_1,.slice A0_0_3_1_2 l0_0_3_1_2.length c0_0_3_1_2,vI x0_0_3_2_0,vI x0_0_3_2_1,.slice A0_0_3_2_2 l0_0_3_2_2.length c0_0_3_2_2,.slice A0_0_4 l0_0_4.length c0_0_4,.slice A0_0_5 l0_0_5.length c0_0_5] 70,bk b1 #[vI x0_0_0,vI x0_0_1,vI x0_0_2_0,vI x0_0_2_1,.slice A0_0_2_2 l0_0_2_2.length c0_0_2_2,vI x0_0_3_0,vI x0_0_3_1_0,vI x0_0_3_1_1,.slice A0_0_3_1_2 l0_0_3_1_2.length c0_0_3_1_2,vI x0_0_3_2_0,vI x0_0_3_2_1,.slice A0_0_3_2_2 l0_0_3_2_2.length c0_0_3_2_2,.slice A0_0_4 l0_0_4.length c0_0_4,.slice A0_0_5 l0_0_5.length c0_0_5,vI x0_1,.slice A0_2 l0_2.length c0_2] 101]:=hS22
     refine hK13 [(1,pP b1 0),(3,pP b2 0),(6,.bool q2)] w8 ?_ a hF
     refine ws fun K14 hK14=>?_
     rcases hq4:pr_wrongStatement.p3 x0_0_0 with _ | (q4 | rr9)
     ·rw [hq4] at h; cases h
     ·rw [hq4] at h
      simp only [] at h
      refine kp (pr_wrongStatement_p3 K w0 Z x0_0_0 x0_0_1 x0_0_2_0 x0_0_2_1 l0_0_2_2 A0_0_2_2 c0_0_2_2 x0_0_3_0 x0_0_3_1_0 x0_0_3_1_1 l0_0_3_1_2 A0_0_3_1_2 c0_0_3_1_2 x0_0_3_2_0 x0_0_3_2_1 l0_0_3_2_2 A0_0_3_2_2 c0_0_3_2_2 l0_0_4 A0_0_4 c0_0_4 l0_0_5 A0_0_5 c0_0_5 x0_1 l0_2 A0_2 c0_2 hZ hR0_0_2_2 hL0_0_2_2 hR0_0_3_1_2 hL0_0_3_1_2 hR0_0_3_2_2 hL0_0_3_2_2 hR0_0_4 hL0_0_4 hR0_0_5 hL0_0_5 hR0_2 hL0_2 b1 b2 b3 hc3 e1 hx4 b4 e2 hx6 q2 _ hq4 _ hS22 _ ?_)
      rintro _ a w9 ⟨rfl,hS27,hF⟩
      replace hS27:St w0 w9 [bk b2 #[vI x0_0_0,vI x0_0_1,vI x0_0_2_0,vI x0_0_2_1,.slice A0_0_2_2 l0_0_2_2.length c0_0_2_2,vI x0_0_3_0,vI x0_0_3_1_0,vI x0_0_3_1_1,.slice A0_0_3_1_2 l0_0_3_1_2.length c0_0_3_1_2,vI x0_0_3_2_0,vI x0_0_3_2_1,.slice A0_0_3_2_2 l0_0_3_2_2.length c0_0_3_2_2,.slice A0_0_4 l0_0_4.length c0_0_4,.slice A0_0_5 l0_0_5.length c0_0_5] 70,bk b1 #[vI x0_0_0,vI x0_0_1,vI x0_0_2_0,vI x0_0_2_1,.slice A0_0_2_2 l0_0_2_2.length c0_0_2_2,vI x0_0_3_0,vI x0_0_3_1_0,vI x0_0_3_1_1,.slice A0_0_3_1_2 l0_0_3_1_2.length c0_0_3_1_2,vI x0_0_3_2_0,vI x0_0_3_2_1,.slice A0_0_3_2_2 l0_0_3_2_2.length c0_0_3_2_2,.slice A0_0_4 l0_0_4.length c0_0_4,.slice A0_0_5 l0_0_5.length c0_0_5,vI x0_1,.slice A0_2 l0_2.length c0_2] 101]:=hS27
      refine hK14 [(1,pP b1 0),(3,pP b2 0),(6,.bool q2),(7,.bool q4)] w9 ?_ a hF
      refine ws fun K15 hK15=>?_
      rcases hq5:pr_wrongStatement.p4 x0_0_0 with _ | (q6 | rr8)
      ·rw [hq5] at h; cases h
      ·rw [hq5] at h
       simp only [] at h
       refine kp (pr_wrongStatement_p4 K w0 Z x0_0_0 x0_0_1 x0_0_2_0 x0_0_2_1 l0_0_2_2 A0_0_2_2 c0_0_2_2 x0_0_3_0 x0_0_3_1_0 x0_0_3_1_1 l0_0_3_1_2 A0_0_3_1_2 c0_0_3_1_2 x0_0_3_2_0 x0_0_3_2_1 l0_0_3_2_2 A0_0_3_2_2 c0_0_3_2_2 l0_0_4 A0_0_4 c0_0_4 l0_0_5 A0_0_5 c0_0_5 x0_1 l0_2 A0_2 c0_2 hZ hR0_0_2_2 hL0_0_2_2 hR0_0_3_1_2 hL0_0_3_1_2 hR0_0_3_2_2 hL0_0_3_2_2 hR0_0_4 hL0_0_4 hR0_0_5 hL0_0_5 hR0_2 hL0_2 b1 b2 b3 hc3 e1 hx4 b4 e2 hx6 q2 q4 _ hq5 _ hS27 _ ?_)
       rintro _ a w10 ⟨rfl,hS32,hF⟩
       replace hS32:St w0 w10 [bk b2 #[vI x0_0_0,vI x0_0_1,vI x0_0_2_0,vI x0_0_2_1,.slice A0_0_2_2 l0_0_2_2.length c0_0_2_2,vI x0_0_3_0,vI x0_0_3_1_0,vI x0_0_3_1_1,.slice A0_0_3_1_2 l0_0_3_1_2.length c0_0_3_1_2,vI x0_0_3_2_0,vI x0_0_3_2_1,.slice A0_0_3_2_2 l0_0_3_2_2.length c0_0_3_2_2,.slice A0_0_4 l0_0_4.length c0_0_4,.slice A0_0_5 l0_0_5.length c0_0_5] 70,bk b1 #[vI x0_0_0,vI x0_0_1,vI x0_0_2_0,vI x0_0_2_1,.slice A0_0_2_2 l0_0_2_2.length c0_0_2_2,vI x0_0_3_0,vI x0_0_3_1_0,vI x0_0_3_1_1,.slice A0_0_3_1_2 l0_0_3_1_2.length c0_0_3_1_2,vI x0_0_3_2_0,vI x0_0_3_2_1,.slice A0_0_3_2_2 l0_0_3_2_2.length c0_0_3_2_2,.slice A0_0_4 l0_0_4.length c0_0_4,.slice A0_0_5 l0_0_5.length c0_0_5,vI x0_1,.slice A0_2 l0_2.length c0_2] 101]:=hS32
       refine hK15 [(1,pP b1 0),(3,pP b2 0),(6,.bool q2),(7,.bool q4),(8,.bool q6)] w10 ?_ a hF
       refine ws fun K16 hK16=>?_
       rcases hq7:pr_wrongStatement.p5 x0_0_2_0 x0_0_2_1 l0_0_2_2 q2 with _ | (_ | rr7)
       ·rw [hq7] at h; cases h
       ·rw [hq7] at h
        simp only [] at h
        refine kp (pr_wrongStatement_p5 K w0 Z x0_0_0 x0_0_1 x0_0_2_0 x0_0_2_1 l0_0_2_2 A0_0_2_2 c0_0_2_2 x0_0_3_0 x0_0_3_1_0 x0_0_3_1_1 l0_0_3_1_2 A0_0_3_1_2 c0_0_3_1_2 x0_0_3_2_0 x0_0_3_2_1 l0_0_3_2_2 A0_0_3_2_2 c0_0_3_2_2 l0_0_4 A0_0_4 c0_0_4 l0_0_5 A0_0_5 c0_0_5 x0_1 l0_2 A0_2 c0_2 hZ hR0_0_2_2 hL0_0_2_2 hR0_0_3_1_2 hL0_0_3_1_2 hR0_0_3_2_2 hL0_0_3_2_2 hR0_0_4 hL0_0_4 hR0_0_5 hL0_0_5 hR0_2 hL0_2 b1 b2 b3 hc3 e1 hx4 b4 e2 hx6 q2 q4 q6 _ hq7 _ hS32 _ ?_)
        rintro _ a w12 ⟨rfl,hS40,hF⟩
        replace hS40:St w0 w12 [bk b2 #[vI x0_0_0,vI x0_0_1,vI x0_0_2_0,vI x0_0_2_1,.slice A0_0_2_2 l0_0_2_2.length c0_0_2_2,vI x0_0_3_0,vI x0_0_3_1_0,vI x0_0_3_1_1,.slice A0_0_3_1_2 l0_0_3_1_2.length c0_0_3_1_2,vI x0_0_3_2_0,vI x0_0_3_2_1,.slice A0_0_3_2_2 l0_0_3_2_2.length c0_0_3_2_2,.slice A0_0_4 l0_0_4.length c0_0_4,.slice A0_0_5 l0_0_5.length c0_0_5] 70,bk b1 #[vI x0_0_0,vI x0_0_1,vI x0_0_2_0,vI x0_0_2_1,.slice A0_0_2_2 l0_0_2_2.length c0_0_2_2,vI x0_0_3_0,vI x0_0_3_1_0,vI x0_0_3_1_1,.slice A0_0_3_1_2 l0_0_3_1_2.length c0_0_3_1_2,vI x0_0_3_2_0,vI x0_0_3_2_1,.slice A0_0_3_2_2 l0_0_3_2_2.length c0_0_3_2_2,.slice A0_0_4 l0_0_4.length c0_0_4,.slice A0_0_5 l0_0_5.length c0_0_5,vI x0_1,.slice A0_2 l0_2.length c0_2] 101]:=hS40
        refine hK16 [(1,pP b1 0),(3,pP b2 0),(6,.bool q2),(7,.bool q4),(8,.bool q6)] w12 ?_ a hF
        refine ws fun K19 hK19=>?_
        rcases hq10:pr_wrongStatement.p6 x0_0_3_0 x0_0_3_1_0 x0_0_3_1_1 l0_0_3_1_2 x0_0_3_2_0 x0_0_3_2_1 l0_0_3_2_2 q4 with _ | (_ | rr6)
        ·rw [hq10] at h; cases h
        ·rw [hq10] at h
         simp only [] at h
         refine kp (pr_wrongStatement_p6 K w0 Z x0_0_0 x0_0_1 x0_0_2_0 x0_0_2_1 l0_0_2_2 A0_0_2_2 c0_0_2_2 x0_0_3_0 x0_0_3_1_0 x0_0_3_1_1 l0_0_3_1_2 A0_0_3_1_2 c0_0_3_1_2 x0_0_3_2_0 x0_0_3_2_1 l0_0_3_2_2 A0_0_3_2_2 c0_0_3_2_2 l0_0_4 A0_0_4 c0_0_4 l0_0_5 A0_0_5 c0_0_5 x0_1 l0_2 A0_2 c0_2 hZ hR0_0_2_2 hL0_0_2_2 hR0_0_3_1_2 hL0_0_3_1_2 hR0_0_3_2_2 hL0_0_3_2_2 hR0_0_4 hL0_0_4 hR0_0_5 hL0_0_5 hR0_2 hL0_2 b1 b2 b3 hc3 e1 hx4 b4 e2 hx6 q2 q4 q6 _ hq10 _ hS40 _ ?_)
         rintro _ a w15 ⟨rfl,hS52,hF⟩
         replace hS52:St w0 w15 [bk b2 #[vI x0_0_0,vI x0_0_1,vI x0_0_2_0,vI x0_0_2_1,.slice A0_0_2_2 l0_0_2_2.length c0_0_2_2,vI x0_0_3_0,vI x0_0_3_1_0,vI x0_0_3_1_1,.slice A0_0_3_1_2 l0_0_3_1_2.length c0_0_3_1_2,vI x0_0_3_2_0,vI x0_0_3_2_1,.slice A0_0_3_2_2 l0_0_3_2_2.length c0_0_3_2_2,.slice A0_0_4 l0_0_4.length c0_0_4,.slice A0_0_5 l0_0_5.length c0_0_5] 70,bk b1 #[vI x0_0_0,vI x0_0_1,vI x0_0_2_0,vI x0_0_2_1,.slice A0_0_2_2 l0_0_2_2.length c0_0_2_2,vI x0_0_3_0,vI x0_0_3_1_0,vI x0_0_3_1_1,.slice A0_0_3_1_2 l0_0_3_1_2.length c0_0_3_1_2,vI x0_0_3_2_0,vI x0_0_3_2_1,.slice A0_0_3_2_2 l0_0_3_2_2.length c0_0_3_2_2,.slice A0_0_4 l0_0_4.length c0_0_4,.slice A0_0_5 l0_0_5.length c0_0_5,vI x0_1,.slice A0_2 l0_2.length c0_2] 101]:=hS52
         refine hK19 [(1,pP b1 0),(3,pP b2 0),(6,.bool q2),(7,.bool q4),(8,.bool q6)] w15 ?_ a hF
         refine ws fun K24 hK24=>?_
         rcases hq11:pr_wrongStatement.p7 x0_0_0 l0_0_4 l0_0_5 q6 with _ | (_ | rr5)
         ·rw [hq11] at h; cases h
         ·rw [hq11] at h
          simp only [] at h
          refine kp (pr_wrongStatement_p7 K w0 Z x0_0_0 x0_0_1 x0_0_2_0 x0_0_2_1 l0_0_2_2 A0_0_2_2 c0_0_2_2 x0_0_3_0 x0_0_3_1_0 x0_0_3_1_1 l0_0_3_1_2 A0_0_3_1_2 c0_0_3_1_2 x0_0_3_2_0 x0_0_3_2_1 l0_0_3_2_2 A0_0_3_2_2 c0_0_3_2_2 l0_0_4 A0_0_4 c0_0_4 l0_0_5 A0_0_5 c0_0_5 x0_1 l0_2 A0_2 c0_2 hZ hR0_0_2_2 hL0_0_2_2 hR0_0_3_1_2 hL0_0_3_1_2 hR0_0_3_2_2 hL0_0_3_2_2 hR0_0_4 hL0_0_4 hR0_0_5 hL0_0_5 hR0_2 hL0_2 b1 b2 b3 hc3 e1 hx4 b4 e2 hx6 q2 q4 q6 _ hq11 _ hS52 _ ?_)
          rintro _ a w16 ⟨rfl,hS64,hF⟩
          replace hS64:St w0 w16 [bk b2 #[vI x0_0_0,vI x0_0_1,vI x0_0_2_0,vI x0_0_2_1,.slice A0_0_2_2 l0_0_2_2.length c0_0_2_2,vI x0_0_3_0,vI x0_0_3_1_0,vI x0_0_3_1_1,.slice A0_0_3_1_2 l0_0_3_1_2.length c0_0_3_1_2,vI x0_0_3_2_0,vI x0_0_3_2_1,.slice A0_0_3_2_2 l0_0_3_2_2.length c0_0_3_2_2,.slice A0_0_4 l0_0_4.length c0_0_4,.slice A0_0_5 l0_0_5.length c0_0_5] 70,bk b1 #[vI x0_0_0,vI x0_0_1,vI x0_0_2_0,vI x0_0_2_1,.slice A0_0_2_2 l0_0_2_2.length c0_0_2_2,vI x0_0_3_0,vI x0_0_3_1_0,vI x0_0_3_1_1,.slice A0_0_3_1_2 l0_0_3_1_2.length c0_0_3_1_2,vI x0_0_3_2_0,vI x0_0_3_2_1,.slice A0_0_3_2_2 l0_0_3_2_2.length c0_0_3_2_2,.slice A0_0_4 l0_0_4.length c0_0_4,.slice A0_0_5 l0_0_5.length c0_0_5,vI x0_1,.slice A0_2 l0_2.length c0_2] 101]:=hS64
          refine hK24 [(1,pP b1 0),(3,pP b2 0),(6,.bool q2),(7,.bool q4),(8,.bool q6)] w16 ?_ a hF
          refine ws fun K29 hK29=>?_
          rcases hq13:pr_wrongStatement.p8 K x0_0_2_0 x0_0_2_1 l0_0_2_2 q2 with _ | (_ | rr4)
          ·rw [hq13] at h; cases h
          ·rw [hq13] at h
           simp only [] at h
           refine kp (pr_wrongStatement_p8 K w0 Z x0_0_0 x0_0_1 x0_0_2_0 x0_0_2_1 l0_0_2_2 A0_0_2_2 c0_0_2_2 x0_0_3_0 x0_0_3_1_0 x0_0_3_1_1 l0_0_3_1_2 A0_0_3_1_2 c0_0_3_1_2 x0_0_3_2_0 x0_0_3_2_1 l0_0_3_2_2 A0_0_3_2_2 c0_0_3_2_2 l0_0_4 A0_0_4 c0_0_4 l0_0_5 A0_0_5 c0_0_5 x0_1 l0_2 A0_2 c0_2 hZ hR0_0_2_2 hL0_0_2_2 hR0_0_3_1_2 hL0_0_3_1_2 hR0_0_3_2_2 hL0_0_3_2_2 hR0_0_4 hL0_0_4 hR0_0_5 hL0_0_5 hR0_2 hL0_2 b1 b2 b3 hc3 e1 hx4 b4 e2 hx6 q2 q4 q6 _ hq13 _ hS64 _ ?_)
           rintro _ a w18 ⟨rfl,hS72,hF⟩
           replace hS72:St w0 w18 [bk b2 #[vI x0_0_0,vI x0_0_1,vI x0_0_2_0,vI x0_0_2_1,.slice A0_0_2_2 l0_0_2_2.length c0_0_2_2,vI x0_0_3_0,vI x0_0_3_1_0,vI x0_0_3_1_1,.slice A0_0_3_1_2 l0_0_3_1_2.length c0_0_3_1_2,vI x0_0_3_2_0,vI x0_0_3_2_1,.slice A0_0_3_2_2 l0_0_3_2_2.length c0_0_3_2_2,.slice A0_0_4 l0_0_4.length c0_0_4,.slice A0_0_5 l0_0_5.length c0_0_5] 70,bk b1 #[vI x0_0_0,vI x0_0_1,vI x0_0_2_0,vI x0_0_2_1,.slice A0_0_2_2 l0_0_2_2.length c0_0_2_2,vI x0_0_3_0,vI x0_0_3_1_0,vI x0_0_3_1_1,.slice A0_0_3_1_2 l0_0_3_1_2.length c0_0_3_1_2,vI x0_0_3_2_0,vI x0_0_3_2_1,.slice A0_0_3_2_2 l0_0_3_2_2.length c0_0_3_2_2,.slice A0_0_4 l0_0_4.length c0_0_4,.slice A0_0_5 l0_0_5.length c0_0_5,vI x0_1,.slice A0_2 l0_2.length c0_2] 101]:=hS72
           refine hK29 [(1,pP b1 0),(3,pP b2 0),(7,.bool q4),(8,.bool q6)] w18 ?_ a hF
           refine ws fun K34 hK34=>?_
           rcases hq16:pr_wrongStatement.p9 K x0_0_3_0 x0_0_3_1_0 x0_0_3_1_1 l0_0_3_1_2 x0_0_3_2_0 x0_0_3_2_1 l0_0_3_2_2 q4 with _ | (_ | rr3)
           ·rw [hq16] at h; cases h
           ·rw [hq16] at h
            simp only [] at h
            refine kp (pr_wrongStatement_p9 K w0 Z x0_0_0 x0_0_1 x0_0_2_0 x0_0_2_1 l0_0_2_2 A0_0_2_2 c0_0_2_2 x0_0_3_0 x0_0_3_1_0 x0_0_3_1_1 l0_0_3_1_2 A0_0_3_1_2 c0_0_3_1_2 x0_0_3_2_0 x0_0_3_2_1 l0_0_3_2_2 A0_0_3_2_2 c0_0_3_2_2 l0_0_4 A0_0_4 c0_0_4 l0_0_5 A0_0_5 c0_0_5 x0_1 l0_2 A0_2 c0_2 hZ hR0_0_2_2 hL0_0_2_2 hR0_0_3_1_2 hL0_0_3_1_2 hR0_0_3_2_2 hL0_0_3_2_2 hR0_0_4 hL0_0_4 hR0_0_5 hL0_0_5 hR0_2 hL0_2 b1 b2 b3 hc3 e1 hx4 b4 e2 hx6 q2 q4 q6 _ hq16 _ hS72 _ ?_)
            rintro _ a w21 ⟨rfl,hS85,hF⟩
            replace hS85:St w0 w21 [bk b2 #[vI x0_0_0,vI x0_0_1,vI x0_0_2_0,vI x0_0_2_1,.slice A0_0_2_2 l0_0_2_2.length c0_0_2_2,vI x0_0_3_0,vI x0_0_3_1_0,vI x0_0_3_1_1,.slice A0_0_3_1_2 l0_0_3_1_2.length c0_0_3_1_2,vI x0_0_3_2_0,vI x0_0_3_2_1,.slice A0_0_3_2_2 l0_0_3_2_2.length c0_0_3_2_2,.slice A0_0_4 l0_0_4.length c0_0_4,.slice A0_0_5 l0_0_5.length c0_0_5] 70,bk b1 #[vI x0_0_0,vI x0_0_1,vI x0_0_2_0,vI x0_0_2_1,.slice A0_0_2_2 l0_0_2_2.length c0_0_2_2,vI x0_0_3_0,vI x0_0_3_1_0,vI x0_0_3_1_1,.slice A0_0_3_1_2 l0_0_3_1_2.length c0_0_3_1_2,vI x0_0_3_2_0,vI x0_0_3_2_1,.slice A0_0_3_2_2 l0_0_3_2_2.length c0_0_3_2_2,.slice A0_0_4 l0_0_4.length c0_0_4,.slice A0_0_5 l0_0_5.length c0_0_5,vI x0_1,.slice A0_2 l0_2.length c0_2] 101]:=hS85
            refine hK34 [(1,pP b1 0),(3,pP b2 0),(8,.bool q6)] w21 ?_ a hF
            refine ws fun K47 hK47=>ws fun K48 hK48=>wr [(0,0),(1,0),(2,0),(3,0),(4,0),(5,0)]<|gb0 [0,1] [(150,.bool q6),(149,.bool q6)] ?_
            by_cases hc28:q6=true
            ·rw [if_pos hc28] at h
             refine gk 150 q6 true hc28<|gb [2,3,4,5] [(154,.bool (decide (x0_1 ≥ 6))),(153,.bool (decide (x0_1 ≥ 6))),(152,vI x0_1),(151,pP b1 14)] [ld b1 14 (vI x0_1)] ⟨hS85.c 1,trivial⟩<|gn hK48 ?_
             by_cases hc29:x0_1 ≥ 6
             ·rw [if_pos hc29] at h
              refine wk 154 (decide (x0_1 ≥ 6)) true (decide_eq_true hc29)<|wt<|ws fun K49 hK49=>wr [(0,0)]<|gb0 [0] [(2,vI 2)]<|gn hK49 ?_
              have hS86:=hS85.takeN 0
              obtain rfl:=si h
              exact we_ret (pr0 [.tmp 2] [vI 2] ⟨rfl,hS86⟩)
             rw [if_neg hc29] at h
             refine wk 154 (decide (x0_1 ≥ 6)) false (decide_eq_false hc29)<|wf<|we_skip fun a hF=>hK47 _ _ ?_ a hF
             refine ws fun K50 hK50=>ws fun K51 hK51=>wr [(0,0),(1,0),(2,0)]<|gb [0,1,2] [(157,.bool (x0_0_0==6)),(156,vI x0_0_0),(155,pP b2 0)] [ld b2 0 (vI x0_0_0)] ⟨hS85.c 0,trivial⟩<|gn hK51 ?_
             by_cases hc30:x0_0_0=6
             ·rw [if_pos hc30] at h
              refine wk 157 (x0_0_0==6) true (beq_iff_eq.2 hc30)<|wt<|ws fun K52 hK52=>wr [(0,0),(1,0),(2,0),(3,0)]<|gb [0,1,2,3] [(161,vI 0),(160,vI (l0_2.length:Int)),(159,.slice A0_2 l0_2.length c0_2),(158,pP b1 15)] [ld b1 15 (.slice A0_2 l0_2.length c0_2)] ⟨hS85.c 1,trivial⟩<|gn hK52<|we_block ?_
              have hS87:=hS85.takeN 1
              rcases hq17:iter (pr_wrongStatement.r10 x0_0_1 l0_2) K 0 with _ | (_ | rr1)
              ·rw [hq17] at h; cases h
              ·rw [hq17] at h
               simp only [] at h
               refine we_iter (A:=pr_wrongStatement.A10 w0 x0_0_0 x0_0_1 x0_0_2_0 x0_0_2_1 l0_0_2_2 A0_0_2_2 c0_0_2_2 x0_0_3_0 x0_0_3_1_0 x0_0_3_1_1 l0_0_3_1_2 A0_0_3_1_2 c0_0_3_1_2 x0_0_3_2_0 x0_0_3_2_1 l0_0_3_2_2 A0_0_3_2_2 c0_0_3_2_2 l0_0_4 A0_0_4 c0_0_4 l0_0_5 A0_0_5 c0_0_5 l0_2 A0_2 c0_2 b2) (B:=pr_wrongStatement.B10 w0) hq17 (fun a hF=>⟨hS87,hF.weaken ea⟩) (fun s o hf a w hA Q hQ=>pr_wrongStatement_r10 K w0 Z x0_0_0 x0_0_1 x0_0_2_0 x0_0_2_1 l0_0_2_2 A0_0_2_2 c0_0_2_2 x0_0_3_0 x0_0_3_1_0 x0_0_3_1_1 l0_0_3_1_2 A0_0_3_1_2 c0_0_3_1_2 x0_0_3_2_0 x0_0_3_2_1 l0_0_3_2_2 A0_0_3_2_2 c0_0_3_2_2 l0_0_4 A0_0_4 c0_0_4 l0_0_5 A0_0_5 c0_0_5 x0_1 l0_2 A0_2 c0_2 hZ hR0_0_2_2 hL0_0_2_2 hR0_0_3_1_2 hL0_0_3_1_2 hR0_0_3_2_2 hL0_0_3_2_2 hR0_0_4 hL0_0_4 hR0_0_5 hL0_0_5 hR0_2 hL0_2 b1 b2 b3 hc3 e1 hx4 b4 e2 hx6 q2 q4 q6 hc28 hc29 hc30 s o hf a w hA Q hQ) ?_
               rintro _ a w22 _ ⟨rfl,hS90,hF⟩
               replace hS90:St w0 w22 []:=hS90
               refine hK50 [] w22 ?_ a hF
               refine ws fun K59 hK59=>wr [(0,0)]<|gb0 [0] [(2,vI 0)]<|gn hK59 ?_
               obtain rfl:=si h
               exact we_ret (pr0 [.tmp 2] [vI 0] ⟨rfl,hS90⟩)
              rw [hq17] at h
              simp only [] at h
              refine we_iter (A:=pr_wrongStatement.A10 w0 x0_0_0 x0_0_1 x0_0_2_0 x0_0_2_1 l0_0_2_2 A0_0_2_2 c0_0_2_2 x0_0_3_0 x0_0_3_1_0 x0_0_3_1_1 l0_0_3_1_2 A0_0_3_1_2 c0_0_3_1_2 x0_0_3_2_0 x0_0_3_2_1 l0_0_3_2_2 A0_0_3_2_2 c0_0_3_2_2 l0_0_4 A0_0_4 c0_0_4 l0_0_5 A0_0_5 c0_0_5 l0_2 A0_2 c0_2 b2) (B:=pr_wrongStatement.B10 w0) hq17 (fun a hF=>⟨hS87,hF.weaken ea⟩) (fun s o hf a w hA Q hQ=>pr_wrongStatement_r10 K w0 Z x0_0_0 x0_0_1 x0_0_2_0 x0_0_2_1 l0_0_2_2 A0_0_2_2 c0_0_2_2 x0_0_3_0 x0_0_3_1_0 x0_0_3_1_1 l0_0_3_1_2 A0_0_3_1_2 c0_0_3_1_2 x0_0_3_2_0 x0_0_3_2_1 l0_0_3_2_2 A0_0_3_2_2 c0_0_3_2_2 l0_0_4 A0_0_4 c0_0_4 l0_0_5 A0_0_5 c0_0_5 x0_1 l0_2 A0_2 c0_2 hZ hR0_0_2_2 hL0_0_2_2 hR0_0_3_1_2 hL0_0_3_1_2 hR0_0_3_2_2 hL0_0_3_2_2 hR0_0_4 hL0_0_4 hR0_0_5 hL0_0_5 hR0_2 hL0_2 b1 b2 b3 hc3 e1 hx4 b4 e2 hx6 q2 q4 q6 hc28 hc29 hc30 s o hf a w hA Q hQ) ?_
              rintro _ a w1 _ ⟨rfl,hb⟩
              obtain rfl:=si h
              exact hb
             rw [if_neg hc30] at h
             refine wk 157 (x0_0_0==6) false (beq_eq_false_iff_ne.2 hc30)<|wf<|we_skip fun a hF=>hK50 _ _ ?_ a hF
             refine ws fun K60 hK60=>wr [(0,0)]<|gb0 [0] [(2,vI 0)]<|gn hK60 ?_
             have hS91:=hS85.takeN 0
             obtain rfl:=si h
             exact we_ret (pr0 [.tmp 2] [vI 0] ⟨rfl,hS91⟩)
            rw [if_neg hc28] at h
            refine gk 150 q6 false (Bool.eq_false_iff.2 hc28)<|gb0 [2,3,4,5] [(154,.bool false),(153,undef),(152,undef),(151,undef)]<|gn hK48<|wf<|we_skip fun a hF=>hK47 _ _ ?_ a hF
            refine ws fun K61 hK61=>ws fun K62 hK62=>wr [(0,0),(1,0),(2,0)]<|gb [0,1,2] [(157,.bool (x0_0_0==6)),(156,vI x0_0_0),(155,pP b2 0)] [ld b2 0 (vI x0_0_0)] ⟨hS85.c 0,trivial⟩<|gn hK62 ?_
            by_cases hc33:x0_0_0=6
            ·rw [if_pos hc33] at h
             refine wk 157 (x0_0_0==6) true (beq_iff_eq.2 hc33)<|wt<|ws fun K63 hK63=>wr [(0,0),(1,0),(2,0),(3,0)]<|gb [0,1,2,3] [(161,vI 0),(160,vI (l0_2.length:Int)),(159,.slice A0_2 l0_2.length c0_2),(158,pP b1 15)] [ld b1 15 (.slice A0_2 l0_2.length c0_2)] ⟨hS85.c 1,trivial⟩<|gn hK63<|we_block ?_
             have hS92:=hS85.takeN 1
             rcases hq18:iter (pr_wrongStatement.r11 x0_0_1 l0_2) K 0 with _ | (_ | rr2)
             ·rw [hq18] at h; cases h
             ·rw [hq18] at h
              simp only [] at h
              refine we_iter (A:=pr_wrongStatement.A11 w0 x0_0_0 x0_0_1 x0_0_2_0 x0_0_2_1 l0_0_2_2 A0_0_2_2 c0_0_2_2 x0_0_3_0 x0_0_3_1_0 x0_0_3_1_1 l0_0_3_1_2 A0_0_3_1_2 c0_0_3_1_2 x0_0_3_2_0 x0_0_3_2_1 l0_0_3_2_2 A0_0_3_2_2 c0_0_3_2_2 l0_0_4 A0_0_4 c0_0_4 l0_0_5 A0_0_5 c0_0_5 l0_2 A0_2 c0_2 b2) (B:=pr_wrongStatement.B11 w0) hq18 (fun a hF=>⟨hS92,hF.weaken ea⟩) (fun s o hf a w hA Q hQ=>pr_wrongStatement_r11 K w0 Z x0_0_0 x0_0_1 x0_0_2_0 x0_0_2_1 l0_0_2_2 A0_0_2_2 c0_0_2_2 x0_0_3_0 x0_0_3_1_0 x0_0_3_1_1 l0_0_3_1_2 A0_0_3_1_2 c0_0_3_1_2 x0_0_3_2_0 x0_0_3_2_1 l0_0_3_2_2 A0_0_3_2_2 c0_0_3_2_2 l0_0_4 A0_0_4 c0_0_4 l0_0_5 A0_0_5 c0_0_5 x0_1 l0_2 A0_2 c0_2 hZ hR0_0_2_2 hL0_0_2_2 hR0_0_3_1_2 hL0_0_3_1_2 hR0_0_3_2_2 hL0_0_3_2_2 hR0_0_4 hL0_0_4 hR0_0_5 hL0_0_5 hR0_2 hL0_2 b1 b2 b3 hc3 e1 hx4 b4 e2 hx6 q2 q4 q6 hc28 hc33 s o hf a w hA Q hQ) ?_
              rintro _ a w23 _ ⟨rfl,hS95,hF⟩
              replace hS95:St w0 w23 []:=hS95
              refine hK61 [] w23 ?_ a hF
              refine ws fun K70 hK70=>wr [(0,0)]<|gb0 [0] [(2,vI 0)]<|gn hK70 ?_
              obtain rfl:=si h
              exact we_ret (pr0 [.tmp 2] [vI 0] ⟨rfl,hS95⟩)
             rw [hq18] at h
             simp only [] at h
             refine we_iter (A:=pr_wrongStatement.A11 w0 x0_0_0 x0_0_1 x0_0_2_0 x0_0_2_1 l0_0_2_2 A0_0_2_2 c0_0_2_2 x0_0_3_0 x0_0_3_1_0 x0_0_3_1_1 l0_0_3_1_2 A0_0_3_1_2 c0_0_3_1_2 x0_0_3_2_0 x0_0_3_2_1 l0_0_3_2_2 A0_0_3_2_2 c0_0_3_2_2 l0_0_4 A0_0_4 c0_0_4 l0_0_5 A0_0_5 c0_0_5 l0_2 A0_2 c0_2 b2) (B:=pr_wrongStatement.B11 w0) hq18 (fun a hF=>⟨hS92,hF.weaken ea⟩) (fun s o hf a w hA Q hQ=>pr_wrongStatement_r11 K w0 Z x0_0_0 x0_0_1 x0_0_2_0 x0_0_2_1 l0_0_2_2 A0_0_2_2 c0_0_2_2 x0_0_3_0 x0_0_3_1_0 x0_0_3_1_1 l0_0_3_1_2 A0_0_3_1_2 c0_0_3_1_2 x0_0_3_2_0 x0_0_3_2_1 l0_0_3_2_2 A0_0_3_2_2 c0_0_3_2_2 l0_0_4 A0_0_4 c0_0_4 l0_0_5 A0_0_5 c0_0_5 x0_1 l0_2 A0_2 c0_2 hZ hR0_0_2_2 hL0_0_2_2 hR0_0_3_1_2 hL0_0_3_1_2 hR0_0_3_2_2 hL0_0_3_2_2 hR0_0_4 hL0_0_4 hR0_0_5 hL0_0_5 hR0_2 hL0_2 b1 b2 b3 hc3 e1 hx4 b4 e2 hx6 q2 q4 q6 hc28 hc33 s o hf a w hA Q hQ) ?_
             rintro _ a w1 _ ⟨rfl,hb⟩
             obtain rfl:=si h
             exact hb
            rw [if_neg hc33] at h
            refine wk 157 (x0_0_0==6) false (beq_eq_false_iff_ne.2 hc33)<|wf<|we_skip fun a hF=>hK61 _ _ ?_ a hF
            refine ws fun K71 hK71=>wr [(0,0)]<|gb0 [0] [(2,vI 0)]<|gn hK71 ?_
            have hS96:=hS85.takeN 0
            obtain rfl:=si h
            exact we_ret (pr0 [.tmp 2] [vI 0] ⟨rfl,hS96⟩)
           rw [hq16] at h
           simp only [] at h
           refine kp (pr_wrongStatement_p9 K w0 Z x0_0_0 x0_0_1 x0_0_2_0 x0_0_2_1 l0_0_2_2 A0_0_2_2 c0_0_2_2 x0_0_3_0 x0_0_3_1_0 x0_0_3_1_1 l0_0_3_1_2 A0_0_3_1_2 c0_0_3_1_2 x0_0_3_2_0 x0_0_3_2_1 l0_0_3_2_2 A0_0_3_2_2 c0_0_3_2_2 l0_0_4 A0_0_4 c0_0_4 l0_0_5 A0_0_5 c0_0_5 x0_1 l0_2 A0_2 c0_2 hZ hR0_0_2_2 hL0_0_2_2 hR0_0_3_1_2 hL0_0_3_1_2 hR0_0_3_2_2 hL0_0_3_2_2 hR0_0_4 hL0_0_4 hR0_0_5 hL0_0_5 hR0_2 hL0_2 b1 b2 b3 hc3 e1 hx4 b4 e2 hx6 q2 q4 q6 _ hq16 _ hS72 _ ?_)
           rintro _ a w1 ⟨_,rfl,hb⟩
           obtain rfl:=si h
           exact hb
          rw [hq13] at h
          simp only [] at h
          refine kp (pr_wrongStatement_p8 K w0 Z x0_0_0 x0_0_1 x0_0_2_0 x0_0_2_1 l0_0_2_2 A0_0_2_2 c0_0_2_2 x0_0_3_0 x0_0_3_1_0 x0_0_3_1_1 l0_0_3_1_2 A0_0_3_1_2 c0_0_3_1_2 x0_0_3_2_0 x0_0_3_2_1 l0_0_3_2_2 A0_0_3_2_2 c0_0_3_2_2 l0_0_4 A0_0_4 c0_0_4 l0_0_5 A0_0_5 c0_0_5 x0_1 l0_2 A0_2 c0_2 hZ hR0_0_2_2 hL0_0_2_2 hR0_0_3_1_2 hL0_0_3_1_2 hR0_0_3_2_2 hL0_0_3_2_2 hR0_0_4 hL0_0_4 hR0_0_5 hL0_0_5 hR0_2 hL0_2 b1 b2 b3 hc3 e1 hx4 b4 e2 hx6 q2 q4 q6 _ hq13 _ hS64 _ ?_)
          rintro _ a w1 ⟨_,rfl,hb⟩
          obtain rfl:=si h
          exact hb
         rw [hq11] at h
         simp only [] at h
         refine kp (pr_wrongStatement_p7 K w0 Z x0_0_0 x0_0_1 x0_0_2_0 x0_0_2_1 l0_0_2_2 A0_0_2_2 c0_0_2_2 x0_0_3_0 x0_0_3_1_0 x0_0_3_1_1 l0_0_3_1_2 A0_0_3_1_2 c0_0_3_1_2 x0_0_3_2_0 x0_0_3_2_1 l0_0_3_2_2 A0_0_3_2_2 c0_0_3_2_2 l0_0_4 A0_0_4 c0_0_4 l0_0_5 A0_0_5 c0_0_5 x0_1 l0_2 A0_2 c0_2 hZ hR0_0_2_2 hL0_0_2_2 hR0_0_3_1_2 hL0_0_3_1_2 hR0_0_3_2_2 hL0_0_3_2_2 hR0_0_4 hL0_0_4 hR0_0_5 hL0_0_5 hR0_2 hL0_2 b1 b2 b3 hc3 e1 hx4 b4 e2 hx6 q2 q4 q6 _ hq11 _ hS52 _ ?_)
         rintro _ a w1 ⟨_,rfl,hb⟩
         obtain rfl:=si h
         exact hb
        rw [hq10] at h
        simp only [] at h
        refine kp (pr_wrongStatement_p6 K w0 Z x0_0_0 x0_0_1 x0_0_2_0 x0_0_2_1 l0_0_2_2 A0_0_2_2 c0_0_2_2 x0_0_3_0 x0_0_3_1_0 x0_0_3_1_1 l0_0_3_1_2 A0_0_3_1_2 c0_0_3_1_2 x0_0_3_2_0 x0_0_3_2_1 l0_0_3_2_2 A0_0_3_2_2 c0_0_3_2_2 l0_0_4 A0_0_4 c0_0_4 l0_0_5 A0_0_5 c0_0_5 x0_1 l0_2 A0_2 c0_2 hZ hR0_0_2_2 hL0_0_2_2 hR0_0_3_1_2 hL0_0_3_1_2 hR0_0_3_2_2 hL0_0_3_2_2 hR0_0_4 hL0_0_4 hR0_0_5 hL0_0_5 hR0_2 hL0_2 b1 b2 b3 hc3 e1 hx4 b4 e2 hx6 q2 q4 q6 _ hq10 _ hS40 _ ?_)
        rintro _ a w1 ⟨_,rfl,hb⟩
        obtain rfl:=si h
        exact hb
       rw [hq7] at h
       simp only [] at h
       refine kp (pr_wrongStatement_p5 K w0 Z x0_0_0 x0_0_1 x0_0_2_0 x0_0_2_1 l0_0_2_2 A0_0_2_2 c0_0_2_2 x0_0_3_0 x0_0_3_1_0 x0_0_3_1_1 l0_0_3_1_2 A0_0_3_1_2 c0_0_3_1_2 x0_0_3_2_0 x0_0_3_2_1 l0_0_3_2_2 A0_0_3_2_2 c0_0_3_2_2 l0_0_4 A0_0_4 c0_0_4 l0_0_5 A0_0_5 c0_0_5 x0_1 l0_2 A0_2 c0_2 hZ hR0_0_2_2 hL0_0_2_2 hR0_0_3_1_2 hL0_0_3_1_2 hR0_0_3_2_2 hL0_0_3_2_2 hR0_0_4 hL0_0_4 hR0_0_5 hL0_0_5 hR0_2 hL0_2 b1 b2 b3 hc3 e1 hx4 b4 e2 hx6 q2 q4 q6 _ hq7 _ hS32 _ ?_)
       rintro _ a w1 ⟨_,rfl,hb⟩
       obtain rfl:=si h
       exact hb
      rw [hq5] at h
      simp only [] at h
      refine kp (pr_wrongStatement_p4 K w0 Z x0_0_0 x0_0_1 x0_0_2_0 x0_0_2_1 l0_0_2_2 A0_0_2_2 c0_0_2_2 x0_0_3_0 x0_0_3_1_0 x0_0_3_1_1 l0_0_3_1_2 A0_0_3_1_2 c0_0_3_1_2 x0_0_3_2_0 x0_0_3_2_1 l0_0_3_2_2 A0_0_3_2_2 c0_0_3_2_2 l0_0_4 A0_0_4 c0_0_4 l0_0_5 A0_0_5 c0_0_5 x0_1 l0_2 A0_2 c0_2 hZ hR0_0_2_2 hL0_0_2_2 hR0_0_3_1_2 hL0_0_3_1_2 hR0_0_3_2_2 hL0_0_3_2_2 hR0_0_4 hL0_0_4 hR0_0_5 hL0_0_5 hR0_2 hL0_2 b1 b2 b3 hc3 e1 hx4 b4 e2 hx6 q2 q4 _ hq5 _ hS27 _ ?_)
      rintro _ a w1 ⟨_,rfl,hb⟩
      obtain rfl:=si h
      exact hb
     rw [hq4] at h
     simp only [] at h
     refine kp (pr_wrongStatement_p3 K w0 Z x0_0_0 x0_0_1 x0_0_2_0 x0_0_2_1 l0_0_2_2 A0_0_2_2 c0_0_2_2 x0_0_3_0 x0_0_3_1_0 x0_0_3_1_1 l0_0_3_1_2 A0_0_3_1_2 c0_0_3_1_2 x0_0_3_2_0 x0_0_3_2_1 l0_0_3_2_2 A0_0_3_2_2 c0_0_3_2_2 l0_0_4 A0_0_4 c0_0_4 l0_0_5 A0_0_5 c0_0_5 x0_1 l0_2 A0_2 c0_2 hZ hR0_0_2_2 hL0_0_2_2 hR0_0_3_1_2 hL0_0_3_1_2 hR0_0_3_2_2 hL0_0_3_2_2 hR0_0_4 hL0_0_4 hR0_0_5 hL0_0_5 hR0_2 hL0_2 b1 b2 b3 hc3 e1 hx4 b4 e2 hx6 q2 _ hq4 _ hS22 _ ?_)
     rintro _ a w1 ⟨_,rfl,hb⟩
     obtain rfl:=si h
     exact hb
    rw [hq3] at h
    simp only [] at h
    refine kp (pr_wrongStatement_p2 K w0 Z x0_0_0 x0_0_1 x0_0_2_0 x0_0_2_1 l0_0_2_2 A0_0_2_2 c0_0_2_2 x0_0_3_0 x0_0_3_1_0 x0_0_3_1_1 l0_0_3_1_2 A0_0_3_1_2 c0_0_3_1_2 x0_0_3_2_0 x0_0_3_2_1 l0_0_3_2_2 A0_0_3_2_2 c0_0_3_2_2 l0_0_4 A0_0_4 c0_0_4 l0_0_5 A0_0_5 c0_0_5 x0_1 l0_2 A0_2 c0_2 hZ hR0_0_2_2 hL0_0_2_2 hR0_0_3_1_2 hL0_0_3_1_2 hR0_0_3_2_2 hL0_0_3_2_2 hR0_0_4 hL0_0_4 hR0_0_5 hL0_0_5 hR0_2 hL0_2 b1 b2 b3 hc3 e1 hx4 b4 e2 hx6 _ hq3 _ hS17 _ ?_)
    rintro _ a w1 ⟨_,rfl,hb⟩
    obtain rfl:=si h
    exact hb
   rw [hq2] at h
   simp only [] at h
   refine kp (pr_wrongStatement_p1 K w0 Z x0_0_0 x0_0_1 x0_0_2_0 x0_0_2_1 l0_0_2_2 A0_0_2_2 c0_0_2_2 x0_0_3_0 x0_0_3_1_0 x0_0_3_1_1 l0_0_3_1_2 A0_0_3_1_2 c0_0_3_1_2 x0_0_3_2_0 x0_0_3_2_1 l0_0_3_2_2 A0_0_3_2_2 c0_0_3_2_2 l0_0_4 A0_0_4 c0_0_4 l0_0_5 A0_0_5 c0_0_5 x0_1 l0_2 A0_2 c0_2 hZ hR0_0_2_2 hL0_0_2_2 hR0_0_3_1_2 hL0_0_3_1_2 hR0_0_3_2_2 hL0_0_3_2_2 hR0_0_4 hL0_0_4 hR0_0_5 hL0_0_5 hR0_2 hL0_2 b1 b2 b3 hc3 e1 hx4 b4 e2 hx6 _ hq2 _ hS11 _ ?_)
   rintro _ a w1 ⟨_,rfl,hb⟩
   obtain rfl:=si h
   exact hb
  rw [if_neg hc3] at h
  cases h
 rw [hq1] at h
 simp only [] at h
 refine kp (pr_wrongStatement_p0 K w0 Z x0_0_0 x0_0_1 x0_0_2_0 x0_0_2_1 l0_0_2_2 A0_0_2_2 c0_0_2_2 x0_0_3_0 x0_0_3_1_0 x0_0_3_1_1 l0_0_3_1_2 A0_0_3_1_2 c0_0_3_1_2 x0_0_3_2_0 x0_0_3_2_1 l0_0_3_2_2 A0_0_3_2_2 c0_0_3_2_2 l0_0_4 A0_0_4 c0_0_4 l0_0_5 A0_0_5 c0_0_5 x0_1 l0_2 A0_2 c0_2 hZ hR0_0_2_2 hL0_0_2_2 hR0_0_3_1_2 hL0_0_3_1_2 hR0_0_3_2_2 hL0_0_3_2_2 hR0_0_4 hL0_0_4 hR0_0_5 hL0_0_5 hR0_2 hL0_2 b1 b2 _ hq1 _ hS4 _ ?_)
 rintro _ a w1 ⟨_,rfl,hb⟩
 obtain rfl:=si h
 exact hb

/-! punctual/punctualref.CheckBody -/
abbrev pr_CheckBody.Post (w0:World) (r:SFault) (e:Ending) (w:World):Prop:=e=.returned (.agg #[vI r.Code,vI r.At])∧St w0 w []
def pr_CheckBody.r0 (K : Nat) (r2 : List Sstatement) : Nat → Option (Nat ⊕ (Unit ⊕ SFault))
 | i1 =>
  if (i1:Int)<(r2.length:Int) then
   match r2[i1]? with
   | none=>none
   | some e1 =>
    match pr_wrongStatement.f K e1.s.Kind e1.s.N e1.s.E.Kind e1.s.E.N e1.s.E.A e1.s.If.Kind e1.s.If.A.Kind e1.s.If.A.N e1.s.If.A.A e1.s.If.B.Kind e1.s.If.B.N e1.s.If.B.A e1.s.Body e1.s.Else e1.deep e1.locks with
    | none=>none
    | some r3 =>
     if r3=0 then
      some (.inl (i1+1))
     else
      some (.inr (.inr (pr_F.f r3 (i1:Int))))
  else
   some (.inr (.inl ()))
def pr_CheckBody.f (K : Nat) (l0 : List SStmt) : Option SFault :=
 match pr_Size.f K l0 with
 | none=>none
 | some r1 =>
  if r1 > 200 then
   some (pr_F.f 2 0)
  else
   match pr_Flat.f K l0 0 ([]:List Int) 200 with
   | none=>none
   | some r2 =>
    match iter (pr_CheckBody.r0 K r2) K 0 with
    | none=>none
    | some (.inl _) =>
     some (⟨0,0⟩:SFault)
    | some (.inr rr1) =>
     some rr1
abbrev pr_CheckBody.A0 (w0:World) (b1:Nat) (r2:List Sstatement) (Z1:OA) (cz1:Nat) (wf4:World):Nat→Act→World→Prop:=fun (s:Nat) a w=>∃ (ft5:List Nat) (wf5:World),Sub wf4 wf5∧St w0 w [bk b1 #[vI 0,vI 0] 31,Own.frz ft5 wf5]∧Frm 27 a [(2,pP b1 0),(11,.slice Z1 r2.length cz1),(12,vI (r2.length:Int)),(13,vI (s:Int))]
abbrev pr_CheckBody.B0 (w0:World) (b1:Nat) (wf4:World):(Unit ⊕ SFault)→Exit→Act→World→Prop:=Exits 0 (fun (s:Unit) a w=>∃ (ft6:List Nat) (wf6:World),Sub wf4 wf6∧St w0 w [bk b1 #[vI 0,vI 0] 31,Own.frz ft6 wf6]∧Frm 27 a [(2,pP b1 0)]) (Rets Try.prog Try.f28 (pr_CheckBody.Post w0))
theorem pr_CheckBody_r0 (K:Nat) (w0:World) (Z:Zone) (l0:List SStmt) (A0:OA) (c0:Nat) (hZ:∀ w,Sub w0 w→Z w) (hR0:RdZ Z A0 l0) (hL0:l0.length≤c0) (ft1:List Nat) (wf1:World) (b1:Nat) (r1:Int) (hc1:¬ (r1 > 200)) (r2:List Sstatement) (hds1:List Hstatement) (ft2:List Nat) (wf2:World) (ft3:List Nat) (wf3:World) (hsb1:Sub wf2 wf3) (hsb2:Sub wf1 wf3) (hd1:DRows (Zand Z wf3) hds1 r2) (Z1:OA) (cz1:Nat) (ft4:List Nat) (wf4:World) (hsb3:Sub wf3 wf4) (hRd1:RdZ (Zand Z wf4) Z1 r2) (hLd1:r2.length≤cz1) (s:Nat) (o:Nat ⊕ (Unit ⊕ SFault)) (h:pr_CheckBody.r0 K r2 s=some o) (a:Act) (w:World) (hA:pr_CheckBody.A0 w0 b1 r2 Z1 cz1 wf4 s a w) (Q:Exit→Act→World→Prop) (hQ:∀ x a w,Outs (pr_CheckBody.A0 w0 b1 r2 Z1 cz1 wf4) (pr_CheckBody.B0 w0 b1 wf4) o x a w→Q x a w):(subF Try.f28 [1,1,0,1,0,0]).wp Try.prog Q a w:=by
 obtain ⟨i1,hs⟩:∃ z,z=s:=⟨s,rfl⟩
 subst hs
 obtain ⟨ft5,wf5,hsb4,hS,hF⟩:=hA
 replace hS:St w0 w [bk b1 #[vI 0,vI 0] 31,Own.frz ft5 wf5]:=hS
 simp only [pr_CheckBody.r0] at h
 refine (?_:WE Try.prog 27 (subF Try.f28 [1,1,0,1,0,0]) Q [(2,pP b1 0),(11,.slice Z1 r2.length cz1),(12,vI (r2.length:Int)),(13,vI (i1:Int))] w) a hF
 clear hF a
 refine ws fun K7 hK7=>wr [(0,0)]<|gb0 [0] [(14,.bool (decide ((i1:Int)<(r2.length:Int))))]<|gn hK7<|ws fun K8 hK8=>?_
 by_cases hc2:(i1:Int)<(r2.length:Int)
 ·rw [if_pos hc2] at h
  refine wk 14 (decide ((i1:Int)<(r2.length:Int))) true (decide_eq_true hc2)<|wt<|we_skip fun a hF=>hK8 _ _ ?_ a hF
  refine ws fun K9 hK9=>we_block<|ws fun K10 hK10=>wr [(0,0),(1,0),(2,0),(3,1),(4,0),(5,2)]<|gb0 [0] [(15,vI (i1:Int))] ?_
  rcases hx2:r2[i1]? with _ | e1
  ·rw [hx2] at h; cases h
  rw [hx2] at h
  simp only [] at h
  obtain ⟨An1,cn1,An2,cn2,An3,cn3,An4,cn4,An5,cn5,An6,cn6,hCs1,hLn1,hRn1,hLn2,hRn2,hLn3,hRn3,hLn4,hRn4,hLn5,hRn5,hLn6,hRn6⟩:=Sstatement.getZ hRd1 hx2
  refine gi 16 0 98 101 16 r2.length cz1 (.tmp 11) (.tmp 13) Z1 .i64 (i1:Int) i1 (hRd1.eqSome ⟨(hZ _ hS.subw),(hsb4.trans (hS.frzSub 1 rfl))⟩ (pos_of_get hx2)) rfl (lt_of_get hx2) ?_
  refine gb [2] [(17,.agg #[vI e1.s.Kind,vI e1.s.N,vI e1.s.E.Kind,vI e1.s.E.N,.slice An1 e1.s.E.A.length cn1,vI e1.s.If.Kind,vI e1.s.If.A.Kind,vI e1.s.If.A.N,.slice An2 e1.s.If.A.A.length cn2,vI e1.s.If.B.Kind,vI e1.s.If.B.N,.slice An3 e1.s.If.B.A.length cn3,.slice An4 e1.s.Body.length cn4,.slice An5 e1.s.Else.length cn5,vI e1.deep,.slice An6 e1.locks.length cn6])] [.loaded ⟨blkOf Z1,offOf Z1+i1*16,none⟩ (vI e1.s.Kind),.loaded ⟨blkOf Z1,offOf Z1+i1*16+1,none⟩ (vI e1.s.N),.loaded ⟨blkOf Z1,offOf Z1+i1*16+2,none⟩ (vI e1.s.E.Kind),.loaded ⟨blkOf Z1,offOf Z1+i1*16+3,none⟩ (vI e1.s.E.N),.loaded ⟨blkOf Z1,offOf Z1+i1*16+4,none⟩ (.slice An1 e1.s.E.A.length cn1),.loaded ⟨blkOf Z1,offOf Z1+i1*16+5,none⟩ (vI e1.s.If.Kind),.loaded ⟨blkOf Z1,offOf Z1+i1*16+6,none⟩ (vI e1.s.If.A.Kind),.loaded ⟨blkOf Z1,offOf Z1+i1*16+7,none⟩ (vI e1.s.If.A.N),.loaded ⟨blkOf Z1,offOf Z1+i1*16+8,none⟩ (.slice An2 e1.s.If.A.A.length cn2),.loaded ⟨blkOf Z1,offOf Z1+i1*16+9,none⟩ (vI e1.s.If.B.Kind),.loaded ⟨blkOf Z1,offOf Z1+i1*16+10,none⟩ (vI e1.s.If.B.N),.loaded ⟨blkOf Z1,offOf Z1+i1*16+11,none⟩ (.slice An3 e1.s.If.B.A.length cn3),.loaded ⟨blkOf Z1,offOf Z1+i1*16+12,none⟩ (.slice An4 e1.s.Body.length cn4),.loaded ⟨blkOf Z1,offOf Z1+i1*16+13,none⟩ (.slice An5 e1.s.Else.length cn5),.loaded ⟨blkOf Z1,offOf Z1+i1*16+14,none⟩ (vI e1.deep),.loaded ⟨blkOf Z1,offOf Z1+i1*16+15,none⟩ (.slice An6 e1.locks.length cn6)] ⟨hCs1 _ ⟨(hZ _ hS.subw),(hsb4.trans (hS.frzSub 1 rfl))⟩ 0 _ rfl,hCs1 _ ⟨(hZ _ hS.subw),(hsb4.trans (hS.frzSub 1 rfl))⟩ 1 _ rfl,hCs1 _ ⟨(hZ _ hS.subw),(hsb4.trans (hS.frzSub 1 rfl))⟩ 2 _ rfl,hCs1 _ ⟨(hZ _ hS.subw),(hsb4.trans (hS.frzSub 1 rfl))⟩ 3 _ rfl,hCs1 _ ⟨(hZ _ hS.subw),(hsb4.trans (hS.frzSub 1 rfl))⟩ 4 _ rfl,hCs1 _ ⟨(hZ _ hS.subw),(hsb4.trans (hS.frzSub 1 rfl))⟩ 5 _ rfl,hCs1 _ ⟨(hZ _ hS.subw),(hsb4.trans (hS.frzSub 1 rfl))⟩ 6 _ rfl,hCs1 _ ⟨(hZ _ hS.subw),(hsb4.trans (hS.frzSub 1 rfl))⟩ 7 _ rfl,hCs1 _ ⟨(hZ _ hS.subw),(hsb4.trans (hS.frzSub 1 rfl))⟩ 8 _ rfl,hCs1 _ ⟨(hZ _ hS.subw),(hsb4.trans (hS.frzSub 1 rfl))⟩ 9 _ rfl,hCs1 _ ⟨(hZ _ hS.subw),(hsb4.trans (hS.frzSub 1 rfl))⟩ 10 _ rfl,hCs1 _ ⟨(hZ _ hS.subw),(hsb4.trans (hS.frzSub 1 rfl))⟩ 11 _ rfl,hCs1 _ ⟨(hZ _ hS.subw),(hsb4.trans (hS.frzSub 1 rfl))⟩ 12 _ rfl,hCs1 _ ⟨(hZ _ hS.subw),(hsb4.trans (hS.frzSub 1 rfl))⟩ 13 _ rfl,hCs1 _ ⟨(hZ _ hS.subw),(hsb4.trans (hS.frzSub 1 rfl))⟩ 14 _ rfl,hCs1 _ ⟨(hZ _ hS.subw),(hsb4.trans (hS.frzSub 1 rfl))⟩ 15 _ rfl,trivial⟩<|gw (some 4) (.cells #[vI 0,vI 0,vI 0,vI 0,.slice none 0 0,vI 0,vI 0,vI 0,.slice none 0 0,vI 0,vI 0,.slice none 0 0,.slice none 0 0,.slice none 0 0,vI 0,.slice none 0 0] 101) (fun b=>pP b 0) hS fun b2 w6 hx3 hS18=>?_
  refine gb0 [4] [(3,vI (i1:Int))]<|gs b2 0 #[vI 0,vI 0,vI 0,vI 0,.slice none 0 0,vI 0,vI 0,vI 0,.slice none 0 0,vI 0,vI 0,.slice none 0 0,.slice none 0 0,.slice none 0 0,vI 0,.slice none 0 0] 101 [vI e1.s.Kind,vI e1.s.N,vI e1.s.E.Kind,vI e1.s.E.N,.slice An1 e1.s.E.A.length cn1,vI e1.s.If.Kind,vI e1.s.If.A.Kind,vI e1.s.If.A.N,.slice An2 e1.s.If.A.A.length cn2,vI e1.s.If.B.Kind,vI e1.s.If.B.N,.slice An3 e1.s.If.B.A.length cn3,.slice An4 e1.s.Body.length cn4,.slice An5 e1.s.Else.length cn5,vI e1.deep,.slice An6 e1.locks.length cn6] hS18 fun w7 hS19=>?_
  have hS20:=hS19.nc #[vI e1.s.Kind,vI e1.s.N,vI e1.s.E.Kind,vI e1.s.E.N,.slice An1 e1.s.E.A.length cn1,vI e1.s.If.Kind,vI e1.s.If.A.Kind,vI e1.s.If.A.N,.slice An2 e1.s.If.A.A.length cn2,vI e1.s.If.B.Kind,vI e1.s.If.B.N,.slice An3 e1.s.If.B.A.length cn3,.slice An4 e1.s.Body.length cn4,.slice An5 e1.s.Else.length cn5,vI e1.deep,.slice An6 e1.locks.length cn6] (by kernel_rfl)
  refine gn hK10<|ws fun K11 hK11=>wr [(0,0),(1,1),(2,0)] ?_
  rcases hq4:pr_wrongStatement.f K e1.s.Kind e1.s.N e1.s.E.Kind e1.s.E.N e1.s.E.A e1.s.If.Kind e1.s.If.A.Kind e1.s.If.A.N e1.s.If.A.A e1.s.If.B.Kind e1.s.If.B.N e1.s.If.B.A e1.s.Body e1.s.Else e1.deep e1.locks with _ | r3
  ·rw [hq4] at h; cases h
  rw [hq4] at h
  simp only [] at h
  refine gb [0] [(18,.agg #[vI e1.s.Kind,vI e1.s.N,vI e1.s.E.Kind,vI e1.s.E.N,.slice An1 e1.s.E.A.length cn1,vI e1.s.If.Kind,vI e1.s.If.A.Kind,vI e1.s.If.A.N,.slice An2 e1.s.If.A.A.length cn2,vI e1.s.If.B.Kind,vI e1.s.If.B.N,.slice An3 e1.s.If.B.A.length cn3,.slice An4 e1.s.Body.length cn4,.slice An5 e1.s.Else.length cn5,vI e1.deep,.slice An6 e1.locks.length cn6])] [ld b2 0 (vI e1.s.Kind),ld b2 1 (vI e1.s.N),ld b2 2 (vI e1.s.E.Kind),ld b2 3 (vI e1.s.E.N),ld b2 4 (.slice An1 e1.s.E.A.length cn1),ld b2 5 (vI e1.s.If.Kind),ld b2 6 (vI e1.s.If.A.Kind),ld b2 7 (vI e1.s.If.A.N),ld b2 8 (.slice An2 e1.s.If.A.A.length cn2),ld b2 9 (vI e1.s.If.B.Kind),ld b2 10 (vI e1.s.If.B.N),ld b2 11 (.slice An3 e1.s.If.B.A.length cn3),ld b2 12 (.slice An4 e1.s.Body.length cn4),ld b2 13 (.slice An5 e1.s.Else.length cn5),ld b2 14 (vI e1.deep),ld b2 15 (.slice An6 e1.locks.length cn6)] ⟨hS20.c 0,hS20.c 0,hS20.c 0,hS20.c 0,hS20.c 0,hS20.c 0,hS20.c 0,hS20.c 0,hS20.c 0,hS20.c 0,hS20.c 0,hS20.c 0,hS20.c 0,hS20.c 0,hS20.c 0,hS20.c 0,trivial⟩<|ge_call (d:=some 19) (f:=45) (args:=#[.agg #[vI e1.s.Kind,vI e1.s.N,vI e1.s.E.Kind,vI e1.s.E.N,.slice An1 e1.s.E.A.length cn1,vI e1.s.If.Kind,vI e1.s.If.A.Kind,vI e1.s.If.A.N,.slice An2 e1.s.If.A.A.length cn2,vI e1.s.If.B.Kind,vI e1.s.If.B.N,.slice An3 e1.s.If.B.A.length cn3,.slice An4 e1.s.Body.length cn4,.slice An5 e1.s.Else.length cn5,vI e1.deep,.slice An6 e1.locks.length cn6]]) (by kernel_rfl) (pr_wrongStatement_ok K (Zand Z wf5) e1.s.Kind e1.s.N e1.s.E.Kind e1.s.E.N e1.s.E.A An1 cn1 e1.s.If.Kind e1.s.If.A.Kind e1.s.If.A.N e1.s.If.A.A An2 cn2 e1.s.If.B.Kind e1.s.If.B.N e1.s.If.B.A An3 cn3 e1.s.Body An4 cn4 e1.s.Else An5 cn5 e1.deep e1.locks An6 cn6 _ (fun w' k=>⟨(hZ w' (hS20.subw.trans k)),(hS20.frzSub 2 rfl).trans k⟩) (hRn1.up (ZLe.up hsb4)) hLn1 (hRn2.up (ZLe.up hsb4)) hLn2 (hRn3.up (ZLe.up hsb4)) hLn3 (hRn4.up (ZLe.up hsb4)) hLn4 (hRn5.up (ZLe.up hsb4)) hLn5 (hRn6 _ ⟨(hZ _ hS20.subw),(hsb4.trans (hS20.frzSub 2 rfl))⟩) hLn6 _ hq4) ?_
  rintro _ w8 ⟨rfl,hS21⟩
  refine ⟨_,rfl,hS21.below,?_⟩
  have hS22:=hS20.call hS21
  refine gb0 [2] [(5,vI r3)]<|gn hK11<|ws fun K12 hK12=>wr [(0,0),(1,0)]<|gb0 [0,1] [(21,.bool (r3 != 0)),(20,vI r3)]<|gn hK12 ?_
  by_cases hc3:r3=0
  ·rw [if_pos hc3] at h
   refine wk 21 (r3 != 0) false (bne_eq_false_iff_eq.2 hc3)<|wf<|we_skip fun a hF=>hK9 _ _ ?_ a hF
   refine wr [(0,0),(1,0)]<|ge_addn (d:=25) (ty:=3) (x:=(.tmp 13)) (y:=(.const (vI 1))) (t:=3) (t2:=3) (k:=.i64) (m:=i1) (by kernel_rfl) (by kernel_rfl) (by kernel_rfl) (by have h0:=RdZ.small hRd1 ⟨(hZ _ hS22.subw),(hsb4.trans (hS22.frzSub 2 rfl))⟩; omega) ?_
   refine gb0 [1] [(13,vI ((i1+1:Nat):Int))] ?_
   have hS25:=hS22.p [1,2] rfl
   obtain rfl:=si h
   exact ge_nil fun a hF=>hQ _ _ _ (Outs.again ⟨ft5,wf5,hsb4,hS25,hF.weaken ea⟩)
  rw [if_neg hc3] at h
  refine wk 21 (r3 != 0) true (bne_iff_ne.2 hc3)<|wt<|ws fun K13 hK13=>wr [(0,0),(1,0),(2,1),(3,2)]<|gb0 [0,1] [(23,vI (i1:Int)),(22,vI r3)]<|ge_call (d:=some 24) (f:=29) (args:=#[vI r3,vI (i1:Int)]) (by kernel_rfl) (pr_F_ok r3 (i1:Int) _ _ rfl) ?_
  rintro _ w9 ⟨rfl,hS26⟩
  refine ⟨_,rfl,hS26.below,?_⟩
  have hS28:=(hS22.call hS26).b 1
  refine gs b1 0 #[vI 0,vI 0] 31 [vI ((pr_F.f r3 (i1:Int)).Code),vI ((pr_F.f r3 (i1:Int)).At)] hS28 fun w10 hS29=>?_
  have hS30:=hS29.nc #[vI ((pr_F.f r3 (i1:Int)).Code),vI ((pr_F.f r3 (i1:Int)).At)] (by kernel_rfl)
  refine gn hK13 ?_
  have hS31:=hS30.takeN 0
  obtain rfl:=si h
  exact we_ret fun a hF=>hQ _ _ _ (Outs.out nofun (Exits.on ⟨rfl,(pr [.cell 2 31] [.agg #[vI ((pr_F.f r3 (i1:Int)).Code),vI ((pr_F.f r3 (i1:Int)).At)]] [ld b1 0 (vI ((pr_F.f r3 (i1:Int)).Code)),ld b1 1 (vI ((pr_F.f r3 (i1:Int)).At))] ⟨hS30.c 0,hS30.c 0,trivial⟩ ⟨rfl,hS31⟩) a hF⟩))
 rw [if_neg hc2] at h
 refine wk 14 (decide ((i1:Int)<(r2.length:Int))) false (decide_eq_false hc2)<|wf ?_
 have hS33:=(hS.b 1).b 1
 obtain rfl:=si h
 exact we_exit fun a hF=>hQ _ _ _ (Outs.out nofun (Exits.here ⟨ft5,wf5,hsb4,hS33,hF.weaken ea⟩))
theorem pr_CheckBody_ok (K:Nat) (Z:Zone) (l0:List SStmt) (A0:OA) (c0:Nat) (w0:World) (hZ:∀ w,Sub w0 w→Z w) (hR0:RdZ Z A0 l0) (hL0:l0.length≤c0) (r:SFault) (h:pr_CheckBody.f K l0=some r) :
  Calls Try.prog 28 #[.slice A0 l0.length c0] w0 (pr_CheckBody.Post w0 r):=by
 have hS:=St.start w0
 unfold pr_CheckBody.f at h
 refine calls_enter (n:=27) (args:=[.slice A0 l0.length c0]) (fn:=Try.f28) rfl rfl rfl rfl ?_
 show WE _ _ _ _ [(0,.slice A0 l0.length c0)] _
 obtain ⟨ft1,wf1,hS1⟩:=hS.frz0
 refine ws fun K1 hK1=>wr [(0,1)]<|gw (some 2) (.cells #[vI 0,vI 0] 31) (fun b=>pP b 0) hS1 fun b1 w1 hx1 hS2=>?_
 refine gn hK1<|ws fun K2 hK2=>ws fun K3 hK3=>wr [(0,0),(1,1),(2,0)] ?_
 rcases hq1:pr_Size.f K l0 with _ | r1
 ·rw [hq1] at h; cases h
 rw [hq1] at h
 simp only [] at h
 refine gb0 [0] [(6,.slice A0 l0.length c0)]<|ge_call (d:=some 7) (f:=17) (args:=#[.slice A0 l0.length c0]) (by kernel_rfl) (pr_Size_ok K (Zand Z wf1) l0 A0 c0 _ (fun w' k=>⟨(hZ w' (hS2.subw.trans k)),(hS2.frzSub 1 rfl).trans k⟩) (hR0.up (ZLe.in _ _)) hL0 _ hq1) ?_
 rintro _ w2 ⟨rfl,hS3⟩
 refine ⟨_,rfl,hS3.below,?_⟩
 have hS4:=hS2.call hS3
 refine gb0 [2] [(8,.bool (decide (r1 > 200)))]<|gn hK3 ?_
 by_cases hc1:r1 > 200
 ·rw [if_pos hc1] at h
  refine wk 8 (decide (r1 > 200)) true (decide_eq_true hc1)<|wt<|ws fun K4 hK4=>wr [(0,1),(1,2)]<|ge_call (d:=some 9) (f:=29) (args:=#[vI 2,vI 0]) (by kernel_rfl) (pr_F_ok 2 0 _ _ rfl) ?_
  rintro _ w3 ⟨rfl,hS5⟩
  refine ⟨_,rfl,hS5.below,?_⟩
  have hS6:=hS4.call hS5
  refine gs b1 0 #[vI 0,vI 0] 31 [vI ((pr_F.f 2 0).Code),vI ((pr_F.f 2 0).At)] hS6 fun w4 hS7=>?_
  have hS8:=hS7.nc #[vI ((pr_F.f 2 0).Code),vI ((pr_F.f 2 0).At)] (by kernel_rfl)
  refine gn hK4 ?_
  have hS9:=hS8.takeN 0
  obtain rfl:=si h
  exact we_ret (pr [.cell 2 31] [.agg #[vI ((pr_F.f 2 0).Code),vI ((pr_F.f 2 0).At)]] [ld b1 0 (vI ((pr_F.f 2 0).Code)),ld b1 1 (vI ((pr_F.f 2 0).At))] ⟨hS8.c 0,hS8.c 0,trivial⟩ ⟨rfl,hS9⟩)
 rw [if_neg hc1] at h
 refine wk 8 (decide (r1 > 200)) false (decide_eq_false hc1)<|wf<|we_skip fun a hF=>hK2 _ _ ?_ a hF
 refine ws fun K5 hK5=>ws fun K6 hK6=>wr [(0,0),(1,1),(2,0),(3,0)] ?_
 rcases hq3:pr_Flat.f K l0 0 ([]:List Int) 200 with _ | r2
 ·rw [hq3] at h; cases h
 rw [hq3] at h
 simp only [] at h
 refine gb0 [0] [(10,.slice A0 l0.length c0)]<|ge_call (d:=some 11) (f:=44) (args:=#[.slice A0 l0.length c0,vI 0,.slice none 0 0,vI 200]) (by kernel_rfl) (pr_Flat_ok K (Zand Z wf1) l0 A0 c0 0 ([]:List Int) none 0 200 _ (fun w' k=>⟨(hZ w' (hS4.subw.trans k)),(hS4.frzSub 1 rfl).trans k⟩) (hR0.up (ZLe.in _ _)) hL0 (by first | exact RdL.nil _ | exact RdF.nil _ | exact RdZ.nil _) (Nat.zero_le _) _ hq3) ?_
 rintro _ w5 ⟨v1,hds1,ft2,wf2,rfl,hd1,hS10⟩
 refine ⟨_,rfl,hS10.below,?_⟩
 have hS13:=((hS4.call hS10).b 3).b 2
 obtain ⟨ft3,wf3,hsb1,hsb2,hS14⟩:=hS13.frzMerge
 replace hd1:DRows (Zand Z wf3) hds1 r2:=hd1.up (ZLe.both hsb2 hsb1)
 obtain ⟨Z1,cz1,rfl⟩:=hS14.dopen 1 rfl hd1
 refine gb0 [2,3] [(13,vI 0),(12,vI (r2.length:Int))]<|gn hK6<|we_block ?_
 have hS15:=hS14.b 1
 obtain ⟨ft4,wf4,hsb3,-,hRd1,hLd1,hS16⟩:=hS15.dfrz (Z:=Z) hd1
 have hS17:=hS16.b 1
 rcases hq6:iter (pr_CheckBody.r0 K r2) K 0 with _ | (_ | rr1)
 ·rw [hq6] at h; cases h
 ·rw [hq6] at h
  simp only [] at h
  refine we_iter (A:=pr_CheckBody.A0 w0 b1 r2 Z1 cz1 wf4) (B:=pr_CheckBody.B0 w0 b1 wf4) hq6 (fun a hF=>⟨ft4,wf4,(Sub.refl _),hS17,hF.weaken ea⟩) (fun s o hf a w hA Q hQ=>pr_CheckBody_r0 K w0 Z l0 A0 c0 hZ hR0 hL0 ft1 wf1 b1 r1 hc1 r2 hds1 ft2 wf2 ft3 wf3 hsb1 hsb2 hd1 Z1 cz1 ft4 wf4 hsb3 hRd1 hLd1 s o hf a w hA Q hQ) ?_
  rintro _ a w11 _ ⟨rfl,ft7,wf7,hRz1,hS34,hF⟩
  replace hS34:St w0 w11 [bk b1 #[vI 0,vI 0] 31,Own.frz ft7 wf7]:=hS34
  refine hK5 [(2,pP b1 0)] w11 ?_ a hF
  refine ws fun K14 hK14=>wr [(0,0),(1,2)]<|gb0 [0] [(26,.agg #[vI 0,vI 0])]<|gs b1 0 #[vI 0,vI 0] 31 [vI 0,vI 0] hS34 fun w12 hS35=>?_
  have hS36:=hS35.nc #[vI 0,vI 0] (by kernel_rfl)
  refine gn hK14 ?_
  have hS37:=hS36.takeN 0
  obtain rfl:=si h
  exact we_ret (pr [.cell 2 31] [.agg #[vI 0,vI 0]] [ld b1 0 (vI 0),ld b1 1 (vI 0)] ⟨hS36.c 0,hS36.c 0,trivial⟩ ⟨rfl,hS37⟩)
 rw [hq6] at h
 simp only [] at h
 refine we_iter (A:=pr_CheckBody.A0 w0 b1 r2 Z1 cz1 wf4) (B:=pr_CheckBody.B0 w0 b1 wf4) hq6 (fun a hF=>⟨ft4,wf4,(Sub.refl _),hS17,hF.weaken ea⟩) (fun s o hf a w hA Q hQ=>pr_CheckBody_r0 K w0 Z l0 A0 c0 hZ hR0 hL0 ft1 wf1 b1 r1 hc1 r2 hds1 ft2 wf2 ft3 wf3 hsb1 hsb2 hd1 Z1 cz1 ft4 wf4 hsb3 hRd1 hLd1 s o hf a w hA Q hQ) ?_
 rintro _ a w1 _ ⟨rfl,hb⟩
 obtain rfl:=si h
 exact hb
end Go.Proofs.Ytcjphfmmmlgcbaa.GV
