/- Walks of single functions, written by a program of this work. -/
import Derived.Test.YtcjphfmmmlgcbaaGv42
import Derived.Test.YtcjphfmmmlgcbaaProg
namespace Go.Proofs.Ytcjphfmmmlgcbaa.GV
open Go Go.RowKit
set_option linter.unusedVariables false
set_option linter.unusedSimpArgs false
set_option maxRecDepth 100000

structure SExpr where
 Kind:Int
 N:Int
 A:List SExpr

structure HExpr where
 f0:Int
 f1:Int
 f2:Hdr
instance : Flat HExpr := ⟨3, fun x => [vI x.f0, vI x.f1, .slice x.f2.A x.f2.n x.f2.c], fun _ => rfl, fun _ => rfl, by decide⟩
inductive RExpr (Z:Zone):HExpr→SExpr→Prop
 | mk (h:HExpr) (x:SExpr) (e0:h.f0=x.Kind) (e1:h.f1=x.N) (q2:h.f2.n=x.A.length) (k2:x.A.length≤h.f2.c) (hs2:List HExpr) (g2:hs2.length=x.A.length) (r2:RdF Z h.f2.A hs2) (each2:∀ (i:Nat) (y:HExpr) (z:SExpr),hs2[i]?=some y→x.A[i]?=some z→RExpr Z y z):RExpr Z h x
theorem RExpr.up  {Z Z':Zone} {h:HExpr} {x:SExpr} (k:ZLe Z Z') (r:RExpr Z h x):RExpr Z' h x:=by
 induction r with
 | mk h x e0 e1 q2 k2 hs2 g2 r2 each2 ih2=>exact .mk h x e0 e1 q2 k2 hs2 g2 (r2.up k) ih2
instance : DRep SExpr := ⟨HExpr, inferInstance, RExpr, fun k r => RExpr.up k r⟩
theorem SExpr.getZ  {Z:Zone} {A:Option Addr} {l:List SExpr} (h:RdZ Z A l) {k:Nat} {x:SExpr} (hx:l[k]?=some x):∃ (A2:OA) (c2:Nat),CellsAt Z A (k*3) [vI x.Kind,vI x.N,.slice A2 x.A.length c2]∧x.A.length≤c2∧RdZ Z A2 x.A:=by
 obtain ⟨(y:HExpr),r,hc⟩:=h.get hx
 have r':RExpr Z y x:=r
 have hc':CellsAt Z A (k*3) [vI y.f0,vI y.f1,.slice y.f2.A y.f2.n y.f2.c]:=hc
 obtain ⟨_,_,e0,e1,q2,k2,hs2,g2,r2,each2⟩:=r'
 rw [e0,e1,q2] at hc'
 exact ⟨y.f2.A,y.f2.c,hc',k2,⟨hs2,⟨g2,each2⟩,r2⟩⟩
inductive OkExpr:SExpr→Prop
 | mk (x:SExpr) (o0:Ok.ok x.Kind) (o1:Ok.ok x.N) (b2:x.A.length*40≤140737488351232) (o2:∀ z ∈ x.A,OkExpr z):OkExpr x
instance : Ok SExpr := ⟨OkExpr⟩
theorem SExpr.mkZ  {Z:Zone} (x:SExpr) {A2:Option Addr} {c2:Nat} (k2:x.A.length≤c2) (r2:RdZ Z A2 x.A):DRep.rel (α:=SExpr) Z (⟨x.Kind,x.N,⟨A2,x.A.length,c2⟩⟩:HExpr) x:=by
 obtain ⟨hs2,hd2,hr2⟩:=r2.ex
 exact RExpr.mk _ _ rfl rfl rfl k2 hs2 hd2.len hr2 hd2.each
mutual
def SExpr.blk : SExpr → Nat
 | ⟨_,_,a2⟩=>1+SExpr.blkL a2
def SExpr.blkL : List SExpr → Nat
 | []=>0
 | x::l=>x.blk+SExpr.blkL l
end
theorem SExpr.blkL_sum:∀ l:List SExpr,SExpr.blkL l=(l.map SExpr.blk).sum
 | []=>by simp [SExpr.blkL]
 | x::l=>by simp [SExpr.blkL,SExpr.blkL_sum l]

structure SCond where
 Kind:Int
 A:SExpr
 B:SExpr

structure SStmt where
 Kind:Int
 N:Int
 E:SExpr
 If:SCond
 Body:List SStmt
 Else:List SStmt

structure HStmt where
 f0:Int
 f1:Int
 f2:Int
 f3:Int
 f4:Hdr
 f5:Int
 f6:Int
 f7:Int
 f8:Hdr
 f9:Int
 f10:Int
 f11:Hdr
 f12:Hdr
 f13:Hdr
instance : Flat HStmt := ⟨14, fun x => [vI x.f0, vI x.f1, vI x.f2, vI x.f3, .slice x.f4.A x.f4.n x.f4.c, vI x.f5, vI x.f6, vI x.f7, .slice x.f8.A x.f8.n x.f8.c, vI x.f9, vI x.f10, .slice x.f11.A x.f11.n x.f11.c, .slice x.f12.A x.f12.n x.f12.c, .slice x.f13.A x.f13.n x.f13.c], fun _ => rfl, fun _ => rfl, by decide⟩
inductive RStmt (Z:Zone):HStmt→SStmt→Prop
 | mk (h:HStmt) (x:SStmt) (e0:h.f0=x.Kind) (e1:h.f1=x.N) (e2:h.f2=x.E.Kind) (e3:h.f3=x.E.N) (q4:h.f4.n=x.E.A.length) (k4:x.E.A.length≤h.f4.c) (r4:RdZ Z h.f4.A x.E.A) (e5:h.f5=x.If.Kind) (e6:h.f6=x.If.A.Kind) (e7:h.f7=x.If.A.N) (q8:h.f8.n=x.If.A.A.length) (k8:x.If.A.A.length≤h.f8.c) (r8:RdZ Z h.f8.A x.If.A.A) (e9:h.f9=x.If.B.Kind) (e10:h.f10=x.If.B.N) (q11:h.f11.n=x.If.B.A.length) (k11:x.If.B.A.length≤h.f11.c) (r11:RdZ Z h.f11.A x.If.B.A) (q12:h.f12.n=x.Body.length) (k12:x.Body.length≤h.f12.c) (hs12:List HStmt) (g12:hs12.length=x.Body.length) (r12:RdF Z h.f12.A hs12) (each12:∀ (i:Nat) (y:HStmt) (z:SStmt),hs12[i]?=some y→x.Body[i]?=some z→RStmt Z y z) (q13:h.f13.n=x.Else.length) (k13:x.Else.length≤h.f13.c) (hs13:List HStmt) (g13:hs13.length=x.Else.length) (r13:RdF Z h.f13.A hs13) (each13:∀ (i:Nat) (y:HStmt) (z:SStmt),hs13[i]?=some y→x.Else[i]?=some z→RStmt Z y z):RStmt Z h x
theorem RStmt.up  {Z Z':Zone} {h:HStmt} {x:SStmt} (k:ZLe Z Z') (r:RStmt Z h x):RStmt Z' h x:=by
 induction r with
 | mk h x e0 e1 e2 e3 q4 k4 r4 e5 e6 e7 q8 k8 r8 e9 e10 q11 k11 r11 q12 k12 hs12 g12 r12 each12 q13 k13 hs13 g13 r13 each13 ih12 ih13=>exact .mk h x e0 e1 e2 e3 q4 k4 (r4.up k) e5 e6 e7 q8 k8 (r8.up k) e9 e10 q11 k11 (r11.up k) q12 k12 hs12 g12 (r12.up k) ih12 q13 k13 hs13 g13 (r13.up k) ih13
instance : DRep SStmt := ⟨HStmt, inferInstance, RStmt, fun k r => RStmt.up k r⟩
theorem SStmt.getZ  {Z:Zone} {A:Option Addr} {l:List SStmt} (h:RdZ Z A l) {k:Nat} {x:SStmt} (hx:l[k]?=some x):∃ (A4:OA) (c4:Nat) (A8:OA) (c8:Nat) (A11:OA) (c11:Nat) (A12:OA) (c12:Nat) (A13:OA) (c13:Nat),CellsAt Z A (k*14) [vI x.Kind,vI x.N,vI x.E.Kind,vI x.E.N,.slice A4 x.E.A.length c4,vI x.If.Kind,vI x.If.A.Kind,vI x.If.A.N,.slice A8 x.If.A.A.length c8,vI x.If.B.Kind,vI x.If.B.N,.slice A11 x.If.B.A.length c11,.slice A12 x.Body.length c12,.slice A13 x.Else.length c13]∧x.E.A.length≤c4∧RdZ Z A4 x.E.A∧x.If.A.A.length≤c8∧RdZ Z A8 x.If.A.A∧x.If.B.A.length≤c11∧RdZ Z A11 x.If.B.A∧x.Body.length≤c12∧RdZ Z A12 x.Body∧x.Else.length≤c13∧RdZ Z A13 x.Else:=by
 obtain ⟨(y:HStmt),r,hc⟩:=h.get hx
 have r':RStmt Z y x:=r
 have hc':CellsAt Z A (k*14) [vI y.f0,vI y.f1,vI y.f2,vI y.f3,.slice y.f4.A y.f4.n y.f4.c,vI y.f5,vI y.f6,vI y.f7,.slice y.f8.A y.f8.n y.f8.c,vI y.f9,vI y.f10,.slice y.f11.A y.f11.n y.f11.c,.slice y.f12.A y.f12.n y.f12.c,.slice y.f13.A y.f13.n y.f13.c]:=hc
 obtain ⟨_,_,e0,e1,e2,e3,q4,k4,r4,e5,e6,e7,q8,k8,r8,e9,e10,q11,k11,r11,q12,k12,hs12,g12,r12,each12,q13,k13,hs13,g13,r13,each13⟩:=r'
 rw [e0,e1,e2,e3,q4,e5,e6,e7,q8,e9,e10,q11,q12,q13] at hc'
 exact ⟨y.f4.A,y.f4.c,y.f8.A,y.f8.c,y.f11.A,y.f11.c,y.f12.A,y.f12.c,y.f13.A,y.f13.c,hc',k4,r4,k8,r8,k11,r11,k12,⟨hs12,⟨g12,each12⟩,r12⟩,k13,⟨hs13,⟨g13,each13⟩,r13⟩⟩
inductive OkStmt:SStmt→Prop
 | mk (x:SStmt) (o0:Ok.ok x.Kind) (o1:Ok.ok x.N) (o2:Ok.ok x.E.Kind) (o3:Ok.ok x.E.N) (b4:x.E.A.length*40≤140737488351232) (o4:∀ z ∈ x.E.A,Ok.ok z) (o5:Ok.ok x.If.Kind) (o6:Ok.ok x.If.A.Kind) (o7:Ok.ok x.If.A.N) (b8:x.If.A.A.length*40≤140737488351232) (o8:∀ z ∈ x.If.A.A,Ok.ok z) (o9:Ok.ok x.If.B.Kind) (o10:Ok.ok x.If.B.N) (b11:x.If.B.A.length*40≤140737488351232) (o11:∀ z ∈ x.If.B.A,Ok.ok z) (b12:x.Body.length*192≤140737488351232) (o12:∀ z ∈ x.Body,OkStmt z) (b13:x.Else.length*192≤140737488351232) (o13:∀ z ∈ x.Else,OkStmt z):OkStmt x
instance : Ok SStmt := ⟨OkStmt⟩
theorem SStmt.mkZ  {Z:Zone} (x:SStmt) {A4:Option Addr} {c4:Nat} {A8:Option Addr} {c8:Nat} {A11:Option Addr} {c11:Nat} {A12:Option Addr} {c12:Nat} {A13:Option Addr} {c13:Nat} (k4:x.E.A.length≤c4) (r4:RdZ Z A4 x.E.A) (k8:x.If.A.A.length≤c8) (r8:RdZ Z A8 x.If.A.A) (k11:x.If.B.A.length≤c11) (r11:RdZ Z A11 x.If.B.A) (k12:x.Body.length≤c12) (r12:RdZ Z A12 x.Body) (k13:x.Else.length≤c13) (r13:RdZ Z A13 x.Else):DRep.rel (α:=SStmt) Z (⟨x.Kind,x.N,x.E.Kind,x.E.N,⟨A4,x.E.A.length,c4⟩,x.If.Kind,x.If.A.Kind,x.If.A.N,⟨A8,x.If.A.A.length,c8⟩,x.If.B.Kind,x.If.B.N,⟨A11,x.If.B.A.length,c11⟩,⟨A12,x.Body.length,c12⟩,⟨A13,x.Else.length,c13⟩⟩:HStmt) x:=by
 obtain ⟨hs12,hd12,hr12⟩:=r12.ex
 obtain ⟨hs13,hd13,hr13⟩:=r13.ex
 exact RStmt.mk _ _ rfl rfl rfl rfl rfl k4 r4 rfl rfl rfl rfl k8 r8 rfl rfl rfl k11 r11 rfl k12 hs12 hd12.len hr12 hd12.each rfl k13 hs13 hd13.len hr13 hd13.each
mutual
def SStmt.blk : SStmt → Nat
 | ⟨_,_,⟨_,_,a4⟩,⟨_,⟨_,_,a8⟩,⟨_,_,a11⟩⟩,a12,a13⟩=>1+SExpr.blkL a4+SExpr.blkL a8+SExpr.blkL a11+SStmt.blkL a12+SStmt.blkL a13
def SStmt.blkL : List SStmt → Nat
 | []=>0
 | x::l=>x.blk+SStmt.blkL l
end
theorem SStmt.blkL_sum:∀ l:List SStmt,SStmt.blkL l=(l.map SStmt.blk).sum
 | []=>by simp [SStmt.blkL]
 | x::l=>by simp [SStmt.blkL,SStmt.blkL_sum l]

/-! punctual/punctuallaw.plain -/
abbrev plain.Post (w0:World) (Z:Zone) (r:List SStmt) (e:Ending) (w:World):Prop:=∃ (v1:Value) (hds1:List HStmt) (ft:List Nat) (wf:World),e=.returned (v1)∧DRows (Zand Z wf) hds1 r∧St w0 w [Own.of v1 70 hds1,Own.frz ft wf]
def plain.f : List SStmt :=
 ([(⟨4,3,(⟨0,0,([]:List SExpr)⟩:SExpr),(⟨0,(⟨0,0,([]:List SExpr)⟩:SExpr),(⟨0,0,([]:List SExpr)⟩:SExpr)⟩:SCond),([(⟨1,0,(⟨5,0,([(⟨2,0,([]:List SExpr)⟩:SExpr),(⟨3,0,([]:List SExpr)⟩:SExpr)]:List SExpr)⟩:SExpr),(⟨0,(⟨0,0,([]:List SExpr)⟩:SExpr),(⟨0,0,([]:List SExpr)⟩:SExpr)⟩:SCond),([]:List SStmt),([]:List SStmt)⟩:SStmt)]:List SStmt),([]:List SStmt)⟩:SStmt),(⟨2,1,(⟨7,0,([(⟨2,0,([]:List SExpr)⟩:SExpr),(⟨1,2,([]:List SExpr)⟩:SExpr)]:List SExpr)⟩:SExpr),(⟨0,(⟨0,0,([]:List SExpr)⟩:SExpr),(⟨0,0,([]:List SExpr)⟩:SExpr)⟩:SCond),([]:List SStmt),([]:List SStmt)⟩:SStmt)]:List SStmt)
theorem plain_ok (Z:Zone) (w0:World) (hZ:∀ w,Sub w0 w→Z w) (r:List SStmt) (h:plain.f=r) :
  Calls Try.prog 21 #[] w0 (plain.Post w0 Z r):=by
 have hS:=St.start w0
 unfold plain.f at h
 refine calls_enter (n:=16) (args:=[]) (fn:=Try.f21) rfl rfl rfl rfl ?_
 show WE _ _ _ _ [] _
 obtain ⟨ft1,wf1,hS1⟩:=hS.frz0
 refine ws fun K1 hK1=>wr [(0,0)]<|gb0 [0] [(0,.slice none 0 0)]<|gn hK1<|ws fun K2 hK2=>wr [(0,0),(1,1),(2,2)]<|gb0 [0] [(2,.agg #[vI 2,vI 0,.slice none 0 0])]<|gw (some 1) (.cells #[vI 0,vI 0,.slice none 0 0] 66) (fun b=>pP b 0) hS1 fun b1 w1 hx1 hS2=>?_
 refine gs b1 0 #[vI 0,vI 0,.slice none 0 0] 66 [vI 2,vI 0,.slice none 0 0] hS2 fun w2 hS3=>?_
 have hS4:=hS3.nc #[vI 2,vI 0,.slice none 0 0] (by kernel_rfl)
 refine gn hK2<|ws fun K3 hK3=>wr [(0,0),(1,0),(2,1),(3,0),(4,0),(5,1),(6,0),(7,0),(8,0),(9,1),(10,0),(11,0),(12,1),(13,0)]<|gb [0,1] [(4,.agg #[vI 3,vI 0,.slice none 0 0]),(3,.agg #[vI 2,vI 0,.slice none 0 0])] [ld b1 0 (vI 2),ld b1 1 (vI 0),ld b1 2 (.slice none 0 0)] ⟨hS4.c 0,hS4.c 0,hS4.c 0,trivial⟩<|gw (some 5) (.cells #[vI 2,vI 0,.slice none 0 0,vI 3,vI 0,.slice none 0 0] 66) (fun b=>.slice (some ⟨b,0,none⟩) 2 2) hS4 fun b2 w3 hx2 hS5=>?_
 have hS6:=hS5.asRow (α:=HExpr) (c:=2) ([(⟨2,0,⟨none,0,0⟩⟩:HExpr),(⟨3,0,⟨none,0,0⟩⟩:HExpr)]:List HExpr) (Nat.le_refl _) (by decide) rfl rfl
 have hd1:DRows (Zand Z wf1) ([(⟨2,0,⟨none,0,0⟩⟩:HExpr),(⟨3,0,⟨none,0,0⟩⟩:HExpr)]:List HExpr) ([(⟨2,0,([]:List SExpr)⟩:SExpr),(⟨3,0,([]:List SExpr)⟩:SExpr)]:List SExpr):=(DRows.add (DRows.add (DRows.nil _) (SExpr.mkZ (⟨2,0,([]:List SExpr)⟩:SExpr) (Nat.zero_le _) (RdZ.nil _))) (SExpr.mkZ (⟨3,0,([]:List SExpr)⟩:SExpr) (Nat.zero_le _) (RdZ.nil _)))
 have hS8:=(hS6.b 2).b 1
 obtain ⟨ft2,wf2,hsb1,-,hRd1,hLd1,hS9⟩:=hS8.dfrz (Z:=Z) hd1
 refine ge_same (t:=5) (v:=.slice (some ⟨b2,0,none⟩) 2 2) (v':=.slice (some ⟨b2,0,none⟩) (([(⟨2,0,([]:List SExpr)⟩:SExpr),(⟨3,0,([]:List SExpr)⟩:SExpr)]:List SExpr).length) 2) (by kernel_rfl) rfl ?_
 refine gb0 [3,4] [(7,.agg #[vI 1,vI 0,vI 5,vI 0,.slice (some ⟨b2,0,none⟩) (([(⟨2,0,([]:List SExpr)⟩:SExpr),(⟨3,0,([]:List SExpr)⟩:SExpr)]:List SExpr).length) 2,vI 0,vI 0,vI 0,.slice none 0 0,vI 0,vI 0,.slice none 0 0,.slice none 0 0,.slice none 0 0]),(6,.agg #[vI 5,vI 0,.slice (some ⟨b2,0,none⟩) (([(⟨2,0,([]:List SExpr)⟩:SExpr),(⟨3,0,([]:List SExpr)⟩:SExpr)]:List SExpr).length) 2])]<|gw (some 8) (.cells #[vI 1,vI 0,vI 5,vI 0,.slice (some ⟨b2,0,none⟩) (([(⟨2,0,([]:List SExpr)⟩:SExpr),(⟨3,0,([]:List SExpr)⟩:SExpr)]:List SExpr).length) 2,vI 0,vI 0,vI 0,.slice none 0 0,vI 0,vI 0,.slice none 0 0,.slice none 0 0,.slice none 0 0] 70) (fun b=>.slice (some ⟨b,0,none⟩) 1 1) hS9 fun b3 w4 hx3 hS10=>?_
 have hS11:=hS10.asRow (α:=HStmt) (c:=1) ([(⟨1,0,5,0,⟨(some ⟨b2,0,none⟩),([(⟨2,0,([]:List SExpr)⟩:SExpr),(⟨3,0,([]:List SExpr)⟩:SExpr)]:List SExpr).length,2⟩,0,0,0,⟨none,0,0⟩,0,0,⟨none,0,0⟩,⟨none,0,0⟩,⟨none,0,0⟩⟩:HStmt)]:List HStmt) (Nat.le_refl _) (by decide) rfl rfl
 have hd2:DRows (Zand Z wf2) ([(⟨1,0,5,0,⟨(some ⟨b2,0,none⟩),([(⟨2,0,([]:List SExpr)⟩:SExpr),(⟨3,0,([]:List SExpr)⟩:SExpr)]:List SExpr).length,2⟩,0,0,0,⟨none,0,0⟩,0,0,⟨none,0,0⟩,⟨none,0,0⟩,⟨none,0,0⟩⟩:HStmt)]:List HStmt) ([(⟨1,0,(⟨5,0,([(⟨2,0,([]:List SExpr)⟩:SExpr),(⟨3,0,([]:List SExpr)⟩:SExpr)]:List SExpr)⟩:SExpr),(⟨0,(⟨0,0,([]:List SExpr)⟩:SExpr),(⟨0,0,([]:List SExpr)⟩:SExpr)⟩:SCond),([]:List SStmt),([]:List SStmt)⟩:SStmt)]:List SStmt):=(DRows.add (DRows.nil _) (SStmt.mkZ (⟨1,0,(⟨5,0,([(⟨2,0,([]:List SExpr)⟩:SExpr),(⟨3,0,([]:List SExpr)⟩:SExpr)]:List SExpr)⟩:SExpr),(⟨0,(⟨0,0,([]:List SExpr)⟩:SExpr),(⟨0,0,([]:List SExpr)⟩:SExpr)⟩:SCond),([]:List SStmt),([]:List SStmt)⟩:SStmt) hLd1 hRd1 (Nat.zero_le _) (RdZ.nil _) (Nat.zero_le _) (RdZ.nil _) (Nat.zero_le _) (RdZ.nil _) (Nat.zero_le _) (RdZ.nil _)))
 have hS13:=(hS11.b 1).b 1
 obtain ⟨ft3,wf3,hsb2,-,hRd2,hLd2,hS14⟩:=hS13.dfrz (Z:=Z) hd2
 refine ge_same (t:=8) (v:=.slice (some ⟨b3,0,none⟩) 1 1) (v':=.slice (some ⟨b3,0,none⟩) (([(⟨1,0,(⟨5,0,([(⟨2,0,([]:List SExpr)⟩:SExpr),(⟨3,0,([]:List SExpr)⟩:SExpr)]:List SExpr)⟩:SExpr),(⟨0,(⟨0,0,([]:List SExpr)⟩:SExpr),(⟨0,0,([]:List SExpr)⟩:SExpr)⟩:SCond),([]:List SStmt),([]:List SStmt)⟩:SStmt)]:List SStmt).length) 1) (by kernel_rfl) rfl ?_
 refine gb [6,7,8] [(11,.agg #[vI 1,vI 2,.slice none 0 0]),(10,.agg #[vI 2,vI 0,.slice none 0 0]),(9,.agg #[vI 4,vI 3,vI 0,vI 0,.slice none 0 0,vI 0,vI 0,vI 0,.slice none 0 0,vI 0,vI 0,.slice none 0 0,.slice (some ⟨b3,0,none⟩) (([(⟨1,0,(⟨5,0,([(⟨2,0,([]:List SExpr)⟩:SExpr),(⟨3,0,([]:List SExpr)⟩:SExpr)]:List SExpr)⟩:SExpr),(⟨0,(⟨0,0,([]:List SExpr)⟩:SExpr),(⟨0,0,([]:List SExpr)⟩:SExpr)⟩:SCond),([]:List SStmt),([]:List SStmt)⟩:SStmt)]:List SStmt).length) 1,.slice none 0 0])] [ld b1 0 (vI 2),ld b1 1 (vI 0),ld b1 2 (.slice none 0 0)] ⟨hS14.c 1,hS14.c 1,hS14.c 1,trivial⟩<|gw (some 12) (.cells #[vI 2,vI 0,.slice none 0 0,vI 1,vI 2,.slice none 0 0] 66) (fun b=>.slice (some ⟨b,0,none⟩) 2 2) hS14 fun b4 w5 hx4 hS15=>?_
 have hS16:=hS15.asRow (α:=HExpr) (c:=2) ([(⟨2,0,⟨none,0,0⟩⟩:HExpr),(⟨1,2,⟨none,0,0⟩⟩:HExpr)]:List HExpr) (Nat.le_refl _) (by decide) rfl rfl
 have hd3:DRows (Zand Z wf3) ([(⟨2,0,⟨none,0,0⟩⟩:HExpr),(⟨1,2,⟨none,0,0⟩⟩:HExpr)]:List HExpr) ([(⟨2,0,([]:List SExpr)⟩:SExpr),(⟨1,2,([]:List SExpr)⟩:SExpr)]:List SExpr):=(DRows.add (DRows.add (DRows.nil _) (SExpr.mkZ (⟨2,0,([]:List SExpr)⟩:SExpr) (Nat.zero_le _) (RdZ.nil _))) (SExpr.mkZ (⟨1,2,([]:List SExpr)⟩:SExpr) (Nat.zero_le _) (RdZ.nil _)))
 have hS18:=(hS16.b 1).b 1
 obtain ⟨ft4,wf4,hsb3,-,hRd3,hLd3,hS19⟩:=hS18.dfrz (Z:=Z) hd3
 refine ge_same (t:=12) (v:=.slice (some ⟨b4,0,none⟩) 2 2) (v':=.slice (some ⟨b4,0,none⟩) (([(⟨2,0,([]:List SExpr)⟩:SExpr),(⟨1,2,([]:List SExpr)⟩:SExpr)]:List SExpr).length) 2) (by kernel_rfl) rfl ?_
 refine gb0 [10,11] [(14,.agg #[vI 2,vI 1,vI 7,vI 0,.slice (some ⟨b4,0,none⟩) (([(⟨2,0,([]:List SExpr)⟩:SExpr),(⟨1,2,([]:List SExpr)⟩:SExpr)]:List SExpr).length) 2,vI 0,vI 0,vI 0,.slice none 0 0,vI 0,vI 0,.slice none 0 0,.slice none 0 0,.slice none 0 0]),(13,.agg #[vI 7,vI 0,.slice (some ⟨b4,0,none⟩) (([(⟨2,0,([]:List SExpr)⟩:SExpr),(⟨1,2,([]:List SExpr)⟩:SExpr)]:List SExpr).length) 2])]<|gw (some 15) (.cells #[vI 4,vI 3,vI 0,vI 0,.slice none 0 0,vI 0,vI 0,vI 0,.slice none 0 0,vI 0,vI 0,.slice none 0 0,.slice (some ⟨b3,0,none⟩) (([(⟨1,0,(⟨5,0,([(⟨2,0,([]:List SExpr)⟩:SExpr),(⟨3,0,([]:List SExpr)⟩:SExpr)]:List SExpr)⟩:SExpr),(⟨0,(⟨0,0,([]:List SExpr)⟩:SExpr),(⟨0,0,([]:List SExpr)⟩:SExpr)⟩:SCond),([]:List SStmt),([]:List SStmt)⟩:SStmt)]:List SStmt).length) 1,.slice none 0 0,vI 2,vI 1,vI 7,vI 0,.slice (some ⟨b4,0,none⟩) (([(⟨2,0,([]:List SExpr)⟩:SExpr),(⟨1,2,([]:List SExpr)⟩:SExpr)]:List SExpr).length) 2,vI 0,vI 0,vI 0,.slice none 0 0,vI 0,vI 0,.slice none 0 0,.slice none 0 0,.slice none 0 0] 70) (fun b=>.slice (some ⟨b,0,none⟩) 2 2) hS19 fun b5 w6 hx5 hS20=>?_
 refine gb0 [13] [(0,.slice (some ⟨b5,0,none⟩) 2 2)]<|gn hK3 ?_
 have hS21:=hS20.asRow (α:=HStmt) (c:=2) ([(⟨4,3,0,0,⟨none,0,0⟩,0,0,0,⟨none,0,0⟩,0,0,⟨none,0,0⟩,⟨(some ⟨b3,0,none⟩),([(⟨1,0,(⟨5,0,([(⟨2,0,([]:List SExpr)⟩:SExpr),(⟨3,0,([]:List SExpr)⟩:SExpr)]:List SExpr)⟩:SExpr),(⟨0,(⟨0,0,([]:List SExpr)⟩:SExpr),(⟨0,0,([]:List SExpr)⟩:SExpr)⟩:SCond),([]:List SStmt),([]:List SStmt)⟩:SStmt)]:List SStmt).length,1⟩,⟨none,0,0⟩⟩:HStmt),(⟨2,1,7,0,⟨(some ⟨b4,0,none⟩),([(⟨2,0,([]:List SExpr)⟩:SExpr),(⟨1,2,([]:List SExpr)⟩:SExpr)]:List SExpr).length,2⟩,0,0,0,⟨none,0,0⟩,0,0,⟨none,0,0⟩,⟨none,0,0⟩,⟨none,0,0⟩⟩:HStmt)]:List HStmt) (Nat.le_refl _) (by decide) rfl rfl
 have hd4:DRows (Zand Z wf4) ([(⟨4,3,0,0,⟨none,0,0⟩,0,0,0,⟨none,0,0⟩,0,0,⟨none,0,0⟩,⟨(some ⟨b3,0,none⟩),([(⟨1,0,(⟨5,0,([(⟨2,0,([]:List SExpr)⟩:SExpr),(⟨3,0,([]:List SExpr)⟩:SExpr)]:List SExpr)⟩:SExpr),(⟨0,(⟨0,0,([]:List SExpr)⟩:SExpr),(⟨0,0,([]:List SExpr)⟩:SExpr)⟩:SCond),([]:List SStmt),([]:List SStmt)⟩:SStmt)]:List SStmt).length,1⟩,⟨none,0,0⟩⟩:HStmt),(⟨2,1,7,0,⟨(some ⟨b4,0,none⟩),([(⟨2,0,([]:List SExpr)⟩:SExpr),(⟨1,2,([]:List SExpr)⟩:SExpr)]:List SExpr).length,2⟩,0,0,0,⟨none,0,0⟩,0,0,⟨none,0,0⟩,⟨none,0,0⟩,⟨none,0,0⟩⟩:HStmt)]:List HStmt) ([(⟨4,3,(⟨0,0,([]:List SExpr)⟩:SExpr),(⟨0,(⟨0,0,([]:List SExpr)⟩:SExpr),(⟨0,0,([]:List SExpr)⟩:SExpr)⟩:SCond),([(⟨1,0,(⟨5,0,([(⟨2,0,([]:List SExpr)⟩:SExpr),(⟨3,0,([]:List SExpr)⟩:SExpr)]:List SExpr)⟩:SExpr),(⟨0,(⟨0,0,([]:List SExpr)⟩:SExpr),(⟨0,0,([]:List SExpr)⟩:SExpr)⟩:SCond),([]:List SStmt),([]:List SStmt)⟩:SStmt)]:List SStmt),([]:List SStmt)⟩:SStmt),(⟨2,1,(⟨7,0,([(⟨2,0,([]:List SExpr)⟩:SExpr),(⟨1,2,([]:List SExpr)⟩:SExpr)]:List SExpr)⟩:SExpr),(⟨0,(⟨0,0,([]:List SExpr)⟩:SExpr),(⟨0,0,([]:List SExpr)⟩:SExpr)⟩:SCond),([]:List SStmt),([]:List SStmt)⟩:SStmt)]:List SStmt):=(DRows.add (DRows.add (DRows.nil _) (SStmt.mkZ (⟨4,3,(⟨0,0,([]:List SExpr)⟩:SExpr),(⟨0,(⟨0,0,([]:List SExpr)⟩:SExpr),(⟨0,0,([]:List SExpr)⟩:SExpr)⟩:SCond),([(⟨1,0,(⟨5,0,([(⟨2,0,([]:List SExpr)⟩:SExpr),(⟨3,0,([]:List SExpr)⟩:SExpr)]:List SExpr)⟩:SExpr),(⟨0,(⟨0,0,([]:List SExpr)⟩:SExpr),(⟨0,0,([]:List SExpr)⟩:SExpr)⟩:SCond),([]:List SStmt),([]:List SStmt)⟩:SStmt)]:List SStmt),([]:List SStmt)⟩:SStmt) (Nat.zero_le _) (RdZ.nil _) (Nat.zero_le _) (RdZ.nil _) (Nat.zero_le _) (RdZ.nil _) hLd2 (hRd2.up (ZLe.up hsb3)) (Nat.zero_le _) (RdZ.nil _))) (SStmt.mkZ (⟨2,1,(⟨7,0,([(⟨2,0,([]:List SExpr)⟩:SExpr),(⟨1,2,([]:List SExpr)⟩:SExpr)]:List SExpr)⟩:SExpr),(⟨0,(⟨0,0,([]:List SExpr)⟩:SExpr),(⟨0,0,([]:List SExpr)⟩:SExpr)⟩:SCond),([]:List SStmt),([]:List SStmt)⟩:SStmt) hLd3 hRd3 (Nat.zero_le _) (RdZ.nil _) (Nat.zero_le _) (RdZ.nil _) (Nat.zero_le _) (RdZ.nil _) (Nat.zero_le _) (RdZ.nil _)))
 have hS24:=hS21.p [0,1] rfl
 subst h
 exact we_ret (pr0 [.tmp 0] [(.slice (some ⟨b5,0,none⟩) ([(⟨4,3,(⟨0,0,([]:List SExpr)⟩:SExpr),(⟨0,(⟨0,0,([]:List SExpr)⟩:SExpr),(⟨0,0,([]:List SExpr)⟩:SExpr)⟩:SCond),([(⟨1,0,(⟨5,0,([(⟨2,0,([]:List SExpr)⟩:SExpr),(⟨3,0,([]:List SExpr)⟩:SExpr)]:List SExpr)⟩:SExpr),(⟨0,(⟨0,0,([]:List SExpr)⟩:SExpr),(⟨0,0,([]:List SExpr)⟩:SExpr)⟩:SCond),([]:List SStmt),([]:List SStmt)⟩:SStmt)]:List SStmt),([]:List SStmt)⟩:SStmt),(⟨2,1,(⟨7,0,([(⟨2,0,([]:List SExpr)⟩:SExpr),(⟨1,2,([]:List SExpr)⟩:SExpr)]:List SExpr)⟩:SExpr),(⟨0,(⟨0,0,([]:List SExpr)⟩:SExpr),(⟨0,0,([]:List SExpr)⟩:SExpr)⟩:SCond),([]:List SStmt),([]:List SStmt)⟩:SStmt)]:List SStmt).length 2)] ⟨(.slice (some ⟨b5,0,none⟩) ([(⟨4,3,(⟨0,0,([]:List SExpr)⟩:SExpr),(⟨0,(⟨0,0,([]:List SExpr)⟩:SExpr),(⟨0,0,([]:List SExpr)⟩:SExpr)⟩:SCond),([(⟨1,0,(⟨5,0,([(⟨2,0,([]:List SExpr)⟩:SExpr),(⟨3,0,([]:List SExpr)⟩:SExpr)]:List SExpr)⟩:SExpr),(⟨0,(⟨0,0,([]:List SExpr)⟩:SExpr),(⟨0,0,([]:List SExpr)⟩:SExpr)⟩:SCond),([]:List SStmt),([]:List SStmt)⟩:SStmt)]:List SStmt),([]:List SStmt)⟩:SStmt),(⟨2,1,(⟨7,0,([(⟨2,0,([]:List SExpr)⟩:SExpr),(⟨1,2,([]:List SExpr)⟩:SExpr)]:List SExpr)⟩:SExpr),(⟨0,(⟨0,0,([]:List SExpr)⟩:SExpr),(⟨0,0,([]:List SExpr)⟩:SExpr)⟩:SCond),([]:List SStmt),([]:List SStmt)⟩:SStmt)]:List SStmt).length 2),([(⟨4,3,0,0,⟨none,0,0⟩,0,0,0,⟨none,0,0⟩,0,0,⟨none,0,0⟩,⟨(some ⟨b3,0,none⟩),([(⟨1,0,(⟨5,0,([(⟨2,0,([]:List SExpr)⟩:SExpr),(⟨3,0,([]:List SExpr)⟩:SExpr)]:List SExpr)⟩:SExpr),(⟨0,(⟨0,0,([]:List SExpr)⟩:SExpr),(⟨0,0,([]:List SExpr)⟩:SExpr)⟩:SCond),([]:List SStmt),([]:List SStmt)⟩:SStmt)]:List SStmt).length,1⟩,⟨none,0,0⟩⟩:HStmt),(⟨2,1,7,0,⟨(some ⟨b4,0,none⟩),([(⟨2,0,([]:List SExpr)⟩:SExpr),(⟨1,2,([]:List SExpr)⟩:SExpr)]:List SExpr).length,2⟩,0,0,0,⟨none,0,0⟩,0,0,⟨none,0,0⟩,⟨none,0,0⟩,⟨none,0,0⟩⟩:HStmt)]:List HStmt),ft4,wf4,rfl,hd4,hS24⟩)

/-! punctual/tongue.Count -/
abbrev tongue_Count.Post (w0:World) (r:Int) (e:Ending) (w:World):Prop:=e=.returned (vI r)∧St w0 w []
abbrev tongue_Count.Rec (rec_tongue_Count:(List SStmt)→Option Int):Prop:=∀ (Z:Zone) (l0:List SStmt) (A0:OA) (c0:Nat) (w0:World) (hZ:∀ w,Sub w0 w→Z w) (hR0:RdZ Z A0 l0) (hL0:l0.length≤c0) (r:Int) (h:rec_tongue_Count l0=some r),Calls Try.prog 47 #[.slice A0 l0.length c0] w0 (tongue_Count.Post w0 r)
def tongue_Count.r0 (l0 : List SStmt) (rec_tongue_Count : (List SStmt) → Option Int) : Int × Nat → Option ((Int × Nat) ⊕ (Int ⊕ Int))
 | (z1,i1) =>
  if (i1:Int)<(l0.length:Int) then
   match l0[i1]? with
   | none=>none
   | some e1 =>
    match rec_tongue_Count e1.Body with
    | none=>none
    | some r1 =>
     match rec_tongue_Count e1.Else with
     | none=>none
     | some r2 =>
      some (.inl (IntKind.i64.wrap (z1+(IntKind.i64.wrap ((IntKind.i64.wrap (1+r1))+r2))),(i1+1)))
  else
   some (.inr (.inl z1))
def tongue_Count.b (K : Nat) (rec_tongue_Count : (List SStmt) → Option Int) (l0 : List SStmt) : Option Int :=
 match iter (tongue_Count.r0 l0 rec_tongue_Count) K (0,0) with
 | none=>none
 | some (.inl z3) =>
  some z3
 | some (.inr rr1) =>
  some rr1
abbrev tongue_Count.A0 (w0:World) (l0:List SStmt) (A0:OA) (c0:Nat):(Int×Nat)→Act→World→Prop:=fun (s:Int×Nat) a w=>St w0 w []∧Frm 24 a [(3,vI s.1),(6,.slice A0 l0.length c0),(7,vI (l0.length:Int)),(8,vI (s.2:Int))]
abbrev tongue_Count.B0 (w0:World):(Int ⊕ Int)→Exit→Act→World→Prop:=Exits 0 (fun (s:Int) a w=>St w0 w []∧Frm 24 a [(3,vI s)]) (Rets Try.prog Try.f47 (tongue_Count.Post w0))
theorem tongue_Count_r0 (K:Nat) (w0:World) (Z:Zone) (l0:List SStmt) (A0:OA) (c0:Nat) (hZ:∀ w,Sub w0 w→Z w) (hR0:RdZ Z A0 l0) (hL0:l0.length≤c0) (rec_tongue_Count:(List SStmt)→Option Int) (hr_tongue_Count:tongue_Count.Rec rec_tongue_Count) (s:Int×Nat) (o:(Int×Nat) ⊕ (Int ⊕ Int)) (h:tongue_Count.r0 l0 rec_tongue_Count s=some o) (a:Act) (w:World) (hA:tongue_Count.A0 w0 l0 A0 c0 s a w) (Q:Exit→Act→World→Prop) (hQ:∀ x a w,Outs (tongue_Count.A0 w0 l0 A0 c0) (tongue_Count.B0 w0) o x a w→Q x a w):(subF Try.f47 [1,1,0,1,0,0]).wp Try.prog Q a w:=by
 obtain ⟨z1,i1⟩:=s
 obtain ⟨hS,hF⟩:=hA
 replace hS:St w0 w []:=hS
 simp only [tongue_Count.r0] at h
 refine (?_:WE Try.prog 24 (subF Try.f47 [1,1,0,1,0,0]) Q [(3,vI z1),(6,.slice A0 l0.length c0),(7,vI (l0.length:Int)),(8,vI (i1:Int))] w) a hF
 clear hF a
 refine ws fun K5 hK5=>wr [(0,0)]<|gb0 [0] [(9,.bool (decide ((i1:Int)<(l0.length:Int))))]<|gn hK5<|ws fun K6 hK6=>?_
 by_cases hc1:(i1:Int)<(l0.length:Int)
 ·rw [if_pos hc1] at h
  refine wk 9 (decide ((i1:Int)<(l0.length:Int))) true (decide_eq_true hc1)<|wt<|we_skip fun a hF=>hK6 _ _ ?_ a hF
  refine ws fun K7 hK7=>we_block<|ws fun K8 hK8=>wr [(0,0),(1,0),(2,1),(3,2)] ?_
  rcases hx1:l0[i1]? with _ | e1
  ·rw [hx1] at h; cases h
  rw [hx1] at h
  simp only [] at h
  obtain ⟨An1,cn1,An2,cn2,An3,cn3,An4,cn4,An5,cn5,hCs1,hLn1,hRn1,hLn2,hRn2,hLn3,hRn3,hLn4,hRn4,hLn5,hRn5⟩:=SStmt.getZ hR0 hx1
  refine gi 10 0 22 70 14 l0.length c0 (.tmp 6) (.tmp 8) A0 .i64 (i1:Int) i1 (hR0.eqSome (hZ _ hS.subw) (pos_of_get hx1)) rfl (lt_of_get hx1) ?_
  refine gb [1] [(11,.agg #[vI e1.Kind,vI e1.N,vI e1.E.Kind,vI e1.E.N,.slice An1 e1.E.A.length cn1,vI e1.If.Kind,vI e1.If.A.Kind,vI e1.If.A.N,.slice An2 e1.If.A.A.length cn2,vI e1.If.B.Kind,vI e1.If.B.N,.slice An3 e1.If.B.A.length cn3,.slice An4 e1.Body.length cn4,.slice An5 e1.Else.length cn5])] [.loaded ⟨blkOf A0,offOf A0+i1*14,none⟩ (vI e1.Kind),.loaded ⟨blkOf A0,offOf A0+i1*14+1,none⟩ (vI e1.N),.loaded ⟨blkOf A0,offOf A0+i1*14+2,none⟩ (vI e1.E.Kind),.loaded ⟨blkOf A0,offOf A0+i1*14+3,none⟩ (vI e1.E.N),.loaded ⟨blkOf A0,offOf A0+i1*14+4,none⟩ (.slice An1 e1.E.A.length cn1),.loaded ⟨blkOf A0,offOf A0+i1*14+5,none⟩ (vI e1.If.Kind),.loaded ⟨blkOf A0,offOf A0+i1*14+6,none⟩ (vI e1.If.A.Kind),.loaded ⟨blkOf A0,offOf A0+i1*14+7,none⟩ (vI e1.If.A.N),.loaded ⟨blkOf A0,offOf A0+i1*14+8,none⟩ (.slice An2 e1.If.A.A.length cn2),.loaded ⟨blkOf A0,offOf A0+i1*14+9,none⟩ (vI e1.If.B.Kind),.loaded ⟨blkOf A0,offOf A0+i1*14+10,none⟩ (vI e1.If.B.N),.loaded ⟨blkOf A0,offOf A0+i1*14+11,none⟩ (.slice An3 e1.If.B.A.length cn3),.loaded ⟨blkOf A0,offOf A0+i1*14+12,none⟩ (.slice An4 e1.Body.length cn4),.loaded ⟨blkOf A0,offOf A0+i1*14+13,none⟩ (.slice An5 e1.Else.length cn5)] ⟨hCs1 _ (hZ _ hS.subw) 0 _ rfl,hCs1 _ (hZ _ hS.subw) 1 _ rfl,hCs1 _ (hZ _ hS.subw) 2 _ rfl,hCs1 _ (hZ _ hS.subw) 3 _ rfl,hCs1 _ (hZ _ hS.subw) 4 _ rfl,hCs1 _ (hZ _ hS.subw) 5 _ rfl,hCs1 _ (hZ _ hS.subw) 6 _ rfl,hCs1 _ (hZ _ hS.subw) 7 _ rfl,hCs1 _ (hZ _ hS.subw) 8 _ rfl,hCs1 _ (hZ _ hS.subw) 9 _ rfl,hCs1 _ (hZ _ hS.subw) 10 _ rfl,hCs1 _ (hZ _ hS.subw) 11 _ rfl,hCs1 _ (hZ _ hS.subw) 12 _ rfl,hCs1 _ (hZ _ hS.subw) 13 _ rfl,trivial⟩<|gw (some 5) (.cells #[vI 0,vI 0,vI 0,vI 0,.slice none 0 0,vI 0,vI 0,vI 0,.slice none 0 0,vI 0,vI 0,.slice none 0 0,.slice none 0 0,.slice none 0 0] 70) (fun b=>pP b 0) hS fun b1 w1 hx2 hS1=>?_
  refine gs b1 0 #[vI 0,vI 0,vI 0,vI 0,.slice none 0 0,vI 0,vI 0,vI 0,.slice none 0 0,vI 0,vI 0,.slice none 0 0,.slice none 0 0,.slice none 0 0] 70 [vI e1.Kind,vI e1.N,vI e1.E.Kind,vI e1.E.N,.slice An1 e1.E.A.length cn1,vI e1.If.Kind,vI e1.If.A.Kind,vI e1.If.A.N,.slice An2 e1.If.A.A.length cn2,vI e1.If.B.Kind,vI e1.If.B.N,.slice An3 e1.If.B.A.length cn3,.slice An4 e1.Body.length cn4,.slice An5 e1.Else.length cn5] hS1 fun w2 hS2=>?_
  have hS3:=hS2.nc #[vI e1.Kind,vI e1.N,vI e1.E.Kind,vI e1.E.N,.slice An1 e1.E.A.length cn1,vI e1.If.Kind,vI e1.If.A.Kind,vI e1.If.A.N,.slice An2 e1.If.A.A.length cn2,vI e1.If.B.Kind,vI e1.If.B.N,.slice An3 e1.If.B.A.length cn3,.slice An4 e1.Body.length cn4,.slice An5 e1.Else.length cn5] (by kernel_rfl)
  refine gn hK8<|we_draws (by kernel_rfl) [(0,0),(1,0),(2,0),(5,0),(6,0),(3,1),(4,0),(7,1),(8,0),(9,0),(10,0)] (by kernel_rfl) ?_
  have hS4:=hS3.drew
  rcases hq1:rec_tongue_Count e1.Body with _ | r1
  ·rw [hq1] at h; cases h
  rw [hq1] at h
  simp only [] at h
  refine gb [0,1,2,5,6] [(18,.slice An5 e1.Else.length cn5),(17,pP b1 13),(14,.slice An4 e1.Body.length cn4),(13,pP b1 12),(12,vI z1)] [ld b1 12 (.slice An4 e1.Body.length cn4),ld b1 13 (.slice An5 e1.Else.length cn5)] ⟨hS4.c 0,hS4.c 0,trivial⟩<|ge_call (d:=some 15) (f:=47) (args:=#[.slice An4 e1.Body.length cn4]) (by kernel_rfl) (hr_tongue_Count Z e1.Body An4 cn4 _ (fun w' k=>(hZ w' (hS4.subw.trans k))) hRn4 hLn4 _ hq1) ?_
  rintro _ w3 ⟨rfl,hS5⟩
  refine ⟨_,rfl,hS5.below,?_⟩
  have hS6:=hS4.call hS5
  rcases hq2:rec_tongue_Count e1.Else with _ | r2
  ·rw [hq2] at h; cases h
  rw [hq2] at h
  simp only [] at h
  refine gb0 [4] [(16,vI (IntKind.i64.wrap (1+r1)))]<|ge_call (d:=some 19) (f:=47) (args:=#[.slice An5 e1.Else.length cn5]) (by kernel_rfl) (hr_tongue_Count Z e1.Else An5 cn5 _ (fun w' k=>(hZ w' (hS6.subw.trans k))) hRn5 hLn5 _ hq2) ?_
  rintro _ w4 ⟨rfl,hS7⟩
  refine ⟨_,rfl,hS7.below,?_⟩
  have hS8:=hS6.call hS7
  refine gb0 [8,9,10] [(3,vI (IntKind.i64.wrap (z1+(IntKind.i64.wrap ((IntKind.i64.wrap (1+r1))+r2))))),(21,vI (IntKind.i64.wrap (z1+(IntKind.i64.wrap ((IntKind.i64.wrap (1+r1))+r2))))),(20,vI (IntKind.i64.wrap ((IntKind.i64.wrap (1+r1))+r2)))]<|gn hK7<|wr [(0,0),(1,0)]<|ge_addn (d:=22) (ty:=3) (x:=(.tmp 8)) (y:=(.const (vI 1))) (t:=3) (t2:=3) (k:=.i64) (m:=i1) (by kernel_rfl) (by kernel_rfl) (by kernel_rfl) (by have h0:=RdZ.small hR0 (hZ _ hS8.subw); omega) ?_
  refine gb0 [1] [(8,vI ((i1+1:Nat):Int))] ?_
  have hS9:=hS8.takeN 0
  obtain rfl:=si h
  exact ge_nil fun a hF=>hQ _ _ _ (Outs.again ⟨hS9,hF.weaken ea⟩)
 rw [if_neg hc1] at h
 refine wk 9 (decide ((i1:Int)<(l0.length:Int))) false (decide_eq_false hc1)<|wf ?_
 obtain rfl:=si h
 exact we_exit fun a hF=>hQ _ _ _ (Outs.out nofun (Exits.here ⟨hS,hF.weaken ea⟩))
theorem tongue_Count_step (K:Nat) (rec_tongue_Count:(List SStmt)→Option Int) (hr_tongue_Count:tongue_Count.Rec rec_tongue_Count) (Z:Zone) (l0:List SStmt) (A0:OA) (c0:Nat) (w0:World) (hZ:∀ w,Sub w0 w→Z w) (hR0:RdZ Z A0 l0) (hL0:l0.length≤c0) (r:Int) (h:tongue_Count.b K rec_tongue_Count l0=some r) :
  Calls Try.prog 47 #[.slice A0 l0.length c0] w0 (tongue_Count.Post w0 r):=by
 have hS:=St.start w0
 unfold tongue_Count.b at h
 refine calls_enter (n:=24) (args:=[.slice A0 l0.length c0]) (fn:=Try.f47) rfl rfl rfl rfl ?_
 show WE _ _ _ _ [(0,.slice A0 l0.length c0)] _
 refine ws fun K1 hK1=>wr [(0,0)]<|gb0 [0] [(2,vI 0)]<|gn hK1<|ws fun K2 hK2=>wr [(0,0)]<|gb0 [0] [(3,vI 0)]<|gn hK2<|ws fun K3 hK3=>ws fun K4 hK4=>wr [(0,0),(1,0),(2,0)]<|gb0 [0,1,2] [(8,vI 0),(7,vI (l0.length:Int)),(6,.slice A0 l0.length c0)]<|gn hK4<|we_block ?_
 rcases hq3:iter (tongue_Count.r0 l0 rec_tongue_Count) K (0,0) with _ | (z3 | rr1)
 ·rw [hq3] at h; cases h
 ·rw [hq3] at h
  simp only [] at h
  refine we_iter (A:=tongue_Count.A0 w0 l0 A0 c0) (B:=tongue_Count.B0 w0) hq3 (fun a hF=>⟨hS,hF.weaken ea⟩) (fun s o hf a w hA Q hQ=>tongue_Count_r0 K w0 Z l0 A0 c0 hZ hR0 hL0 rec_tongue_Count hr_tongue_Count s o hf a w hA Q hQ) ?_
  rintro _ a w5 _ ⟨rfl,hS10,hF⟩
  replace hS10:St w0 w5 []:=hS10
  refine hK3 [(3,vI z3)] w5 ?_ a hF
  refine ws fun K9 hK9=>wr [(0,0),(1,0)]<|gb0 [0,1] [(2,vI z3),(23,vI z3)]<|gn hK9 ?_
  obtain rfl:=si h
  exact we_ret (pr0 [.tmp 2] [vI z3] ⟨rfl,hS10⟩)
 rw [hq3] at h
 simp only [] at h
 refine we_iter (A:=tongue_Count.A0 w0 l0 A0 c0) (B:=tongue_Count.B0 w0) hq3 (fun a hF=>⟨hS,hF.weaken ea⟩) (fun s o hf a w hA Q hQ=>tongue_Count_r0 K w0 Z l0 A0 c0 hZ hR0 hL0 rec_tongue_Count hr_tongue_Count s o hf a w hA Q hQ) ?_
 rintro _ a w1 _ ⟨rfl,hb⟩
 obtain rfl:=si h
 exact hb
def tongue_Count.recs (K : Nat) : Nat → ((List SStmt) → Option Int)
 | 0=>fun _=>none
 | n+1=>tongue_Count.b K (tongue_Count.recs K n)
theorem tongue_Count_all (K n:Nat):tongue_Count.Rec (tongue_Count.recs K n):=by
 induction n with
 | zero=>exact (by unfold tongue_Count.Rec; intros; rename_i h; cases (show none=some _ from h))
 | succ n ih=>exact tongue_Count_step K _ ih
def tongue_Count.f (K : Nat) (l0 : List SStmt) : Option Int := (tongue_Count.recs K K) l0
theorem tongue_Count_ok (K:Nat) (Z:Zone) (l0:List SStmt) (A0:OA) (c0:Nat) (w0:World) (hZ:∀ w,Sub w0 w→Z w) (hR0:RdZ Z A0 l0) (hL0:l0.length≤c0) (r:Int) (h:tongue_Count.f K l0=some r):Calls Try.prog 47 #[.slice A0 l0.length c0] w0 (tongue_Count.Post w0 r):=(tongue_Count_all K K) Z l0 A0 c0 w0 hZ hR0 hL0 r h

/-! (*punctual/tongue.checker).say -/
abbrev tc_say.Post (w0:World) (bp0:Nat) (sp0_0 sp0_1 sp0_2:Int) (sp0_3 sp0_4 sp0_5 sp0_6:Bool) (x1:Int) (LT:List Own) (r:Bool×Int×Int) (e:Ending) (w:World):Prop:=e=.returned (.bool r.1)∧St w0 w [bk bp0 #[vI sp0_0,vI r.2.1,vI r.2.2,.bool sp0_3,.bool sp0_4,.bool sp0_5,.bool sp0_6] 107,Own.all LT]
def tc_say.f (sp0_0 : Int) (sp0_1 : Int) (sp0_2 : Int) (sp0_3 : Bool) (sp0_4 : Bool) (sp0_5 : Bool) (sp0_6 : Bool) (x1 : Int) : Bool × Int × Int :=
 (false,x1,sp0_0)
theorem tc_say_ok (bp0:Nat) (sp0_0 sp0_1 sp0_2:Int) (sp0_3 sp0_4 sp0_5 sp0_6:Bool) (x1:Int) (w0 wE:World) (LT:List Own) (hS:St w0 wE [bk bp0 #[vI sp0_0,vI sp0_1,vI sp0_2,.bool sp0_3,.bool sp0_4,.bool sp0_5,.bool sp0_6] 107,Own.all LT]) (r:Bool×Int×Int) (h:tc_say.f sp0_0 sp0_1 sp0_2 sp0_3 sp0_4 sp0_5 sp0_6 x1=r) :
  Calls Try.prog 89 #[pP bp0 0,vI x1] wE (tc_say.Post w0 bp0 sp0_0 sp0_1 sp0_2 sp0_3 sp0_4 sp0_5 sp0_6 x1 LT r):=by
 unfold tc_say.f at h
 refine calls_enter (n:=14) (args:=[pP bp0 0,vI x1]) (fn:=Try.f89) rfl rfl rfl rfl ?_
 show WE _ _ _ _ [(0,pP bp0 0),(1,vI x1)] _
 refine ws fun K1 hK1=>wr [(0,0)]<|gb0 [0] [(4,.bool false)]<|gn hK1<|ws fun K2 hK2=>wr [(0,0),(1,0),(2,0),(3,0),(4,0),(5,0),(6,0),(7,0),(8,0),(9,2)]<|gb [0,1,2,3,4,5,6,7,8] [(13,pP bp0 1),(12,pP bp0 0),(11,.agg #[vI x1,vI sp0_0]),(10,vI sp0_0),(9,pP bp0 0),(8,pP bp0 0),(7,pP bp0 0),(6,vI x1),(5,pP bp0 0)] [ld bp0 0 (vI sp0_0)] ⟨hS.c 0,trivial⟩<|gs bp0 1 #[vI sp0_0,vI sp0_1,vI sp0_2,.bool sp0_3,.bool sp0_4,.bool sp0_5,.bool sp0_6] 107 [vI x1,vI sp0_0] hS fun w1 hS1=>?_
 have hS2:=hS1.nc #[vI sp0_0,vI x1,vI sp0_0,.bool sp0_3,.bool sp0_4,.bool sp0_5,.bool sp0_6] (by kernel_rfl)
 refine gn hK2<|ws fun K3 hK3=>wr [(0,0)]<|gb0 [0] [(4,.bool false)]<|gn hK3 ?_
 have hS4:=(hS2.b 1).b 1
 subst h
 exact we_ret (pr0 [.tmp 4] [.bool false] ⟨rfl,hS4⟩)

/-! punctual/tongue.uses -/
abbrev tongue_uses.Post (w0:World) (r:Bool×Bool×Bool×Int×Int) (e:Ending) (w:World):Prop:=e=.returned (.tuple #[.bool r.1,.bool r.2.1,.bool r.2.2.1,vI r.2.2.2.1,vI r.2.2.2.2])∧St w0 w []
def tongue_uses.f (x0 : Int) : Bool × Bool × Bool × Int × Int :=
 if x0=1 then
  (true,false,false,0,7)
 else
  if x0=2 then
   (true,false,false,0,3)
  else
   if x0=3 then
    (false,true,true,0,0)
   else
    if x0=4 then
     (false,false,true,0,1000)
    else
     if x0=5 then
      (false,true,true,0,1000)
     else
      if x0=6 then
       (false,false,true,0,3)
      else
       (false,false,false,1,1000)
theorem tongue_uses_ok (x0:Int) (w0:World) (r:Bool×Bool×Bool×Int×Int) (h:tongue_uses.f x0=r) :
  Calls Try.prog 90 #[vI x0] w0 (tongue_uses.Post w0 r):=by
 have hS:=St.start w0
 unfold tongue_uses.f at h
 refine calls_enter (n:=20) (args:=[vI x0]) (fn:=Try.f90) rfl rfl rfl rfl ?_
 show WE _ _ _ _ [(0,vI x0)] _
 refine ws fun K1 hK1=>wr [(0,0),(1,0),(2,0),(3,0),(4,0)]<|gb0 [0,1,2,3,4] [(6,vI 0),(5,vI 0),(4,.bool false),(3,.bool false),(2,.bool false)]<|gn hK1<|ws fun K2 hK2=>ws fun K3 hK3=>wr [(0,0)]<|gb0 [0] [(7,vI x0)]<|gn hK3<|we_block<|ws fun K4 hK4=>wr [(0,0),(1,0)]<|gb0 [0,1] [(8,.bool (x0==1)),(9,.bool (x0==1))]<|gn hK4 ?_
 by_cases hc1:x0=1
 ·rw [if_pos hc1] at h
  refine wk 8 (x0==1) true (beq_iff_eq.2 hc1)<|wt<|ws fun K5 hK5=>wr [(0,0),(1,0),(2,0),(3,0),(4,0)]<|gb0 [0,1,2,3,4] [(6,vI 7),(5,vI 0),(4,.bool false),(3,.bool false),(2,.bool true)]<|gn hK5 ?_
  subst h
  exact we_ret (pr0 [.tmp 2,.tmp 3,.tmp 4,.tmp 5,.tmp 6] [.bool true,.bool false,.bool false,vI 0,vI 7] ⟨rfl,hS⟩)
 rw [if_neg hc1] at h
 refine wk 8 (x0==1) false (beq_eq_false_iff_ne.2 hc1)<|wf<|ws fun K6 hK6=>wr [(0,0),(1,0)]<|gb0 [0,1] [(10,.bool (x0==2)),(11,.bool (x0==2))]<|gn hK6 ?_
 by_cases hc2:x0=2
 ·rw [if_pos hc2] at h
  refine wk 10 (x0==2) true (beq_iff_eq.2 hc2)<|wt<|ws fun K7 hK7=>wr [(0,0),(1,0),(2,0),(3,0),(4,0)]<|gb0 [0,1,2,3,4] [(6,vI 3),(5,vI 0),(4,.bool false),(3,.bool false),(2,.bool true)]<|gn hK7 ?_
  subst h
  exact we_ret (pr0 [.tmp 2,.tmp 3,.tmp 4,.tmp 5,.tmp 6] [.bool true,.bool false,.bool false,vI 0,vI 3] ⟨rfl,hS⟩)
 rw [if_neg hc2] at h
 refine wk 10 (x0==2) false (beq_eq_false_iff_ne.2 hc2)<|wf<|ws fun K8 hK8=>wr [(0,0),(1,0)]<|gb0 [0,1] [(12,.bool (x0==3)),(13,.bool (x0==3))]<|gn hK8 ?_
 by_cases hc3:x0=3
 ·rw [if_pos hc3] at h
  refine wk 12 (x0==3) true (beq_iff_eq.2 hc3)<|wt<|ws fun K9 hK9=>wr [(0,0),(1,0),(2,0),(3,0),(4,0)]<|gb0 [0,1,2,3,4] [(6,vI 0),(5,vI 0),(4,.bool true),(3,.bool true),(2,.bool false)]<|gn hK9 ?_
  subst h
  exact we_ret (pr0 [.tmp 2,.tmp 3,.tmp 4,.tmp 5,.tmp 6] [.bool false,.bool true,.bool true,vI 0,vI 0] ⟨rfl,hS⟩)
 rw [if_neg hc3] at h
 refine wk 12 (x0==3) false (beq_eq_false_iff_ne.2 hc3)<|wf<|ws fun K10 hK10=>wr [(0,0),(1,0)]<|gb0 [0,1] [(14,.bool (x0==4)),(15,.bool (x0==4))]<|gn hK10 ?_
 by_cases hc4:x0=4
 ·rw [if_pos hc4] at h
  refine wk 14 (x0==4) true (beq_iff_eq.2 hc4)<|wt<|ws fun K11 hK11=>wr [(0,0),(1,0),(2,0),(3,0),(4,0)]<|gb0 [0,1,2,3,4] [(6,vI 1000),(5,vI 0),(4,.bool true),(3,.bool false),(2,.bool false)]<|gn hK11 ?_
  subst h
  exact we_ret (pr0 [.tmp 2,.tmp 3,.tmp 4,.tmp 5,.tmp 6] [.bool false,.bool false,.bool true,vI 0,vI 1000] ⟨rfl,hS⟩)
 rw [if_neg hc4] at h
 refine wk 14 (x0==4) false (beq_eq_false_iff_ne.2 hc4)<|wf<|ws fun K12 hK12=>wr [(0,0),(1,0)]<|gb0 [0,1] [(16,.bool (x0==5)),(17,.bool (x0==5))]<|gn hK12 ?_
 by_cases hc5:x0=5
 ·rw [if_pos hc5] at h
  refine wk 16 (x0==5) true (beq_iff_eq.2 hc5)<|wt<|ws fun K13 hK13=>wr [(0,0),(1,0),(2,0),(3,0),(4,0)]<|gb0 [0,1,2,3,4] [(6,vI 1000),(5,vI 0),(4,.bool true),(3,.bool true),(2,.bool false)]<|gn hK13 ?_
  subst h
  exact we_ret (pr0 [.tmp 2,.tmp 3,.tmp 4,.tmp 5,.tmp 6] [.bool false,.bool true,.bool true,vI 0,vI 1000] ⟨rfl,hS⟩)
 rw [if_neg hc5] at h
 refine wk 16 (x0==5) false (beq_eq_false_iff_ne.2 hc5)<|wf<|ws fun K14 hK14=>wr [(0,0),(1,0)]<|gb0 [0,1] [(18,.bool (x0==6)),(19,.bool (x0==6))]<|gn hK14 ?_
 by_cases hc6:x0=6
 ·rw [if_pos hc6] at h
  refine wk 18 (x0==6) true (beq_iff_eq.2 hc6)<|wt<|ws fun K15 hK15=>wr [(0,0),(1,0),(2,0),(3,0),(4,0)]<|gb0 [0,1,2,3,4] [(6,vI 3),(5,vI 0),(4,.bool true),(3,.bool false),(2,.bool false)]<|gn hK15 ?_
  subst h
  exact we_ret (pr0 [.tmp 2,.tmp 3,.tmp 4,.tmp 5,.tmp 6] [.bool false,.bool false,.bool true,vI 0,vI 3] ⟨rfl,hS⟩)
 rw [if_neg hc6] at h
 refine wk 18 (x0==6) false (beq_eq_false_iff_ne.2 hc6)<|wf<|we_skip fun a hF=>hK2 _ _ ?_ a hF
 refine ws fun K16 hK16=>wr [(0,0),(1,0),(2,0),(3,0),(4,0)]<|gb0 [0,1,2,3,4] [(6,vI 1000),(5,vI 1),(4,.bool false),(3,.bool false),(2,.bool false)]<|gn hK16 ?_
 subst h
 exact we_ret (pr0 [.tmp 2,.tmp 3,.tmp 4,.tmp 5,.tmp 6] [.bool false,.bool false,.bool false,vI 1,vI 1000] ⟨rfl,hS⟩)

/-! punctual/tongue.none -/
abbrev tongue_none.Post (w0:World) (r:Bool) (e:Ending) (w:World):Prop:=e=.returned (.bool r)∧St w0 w []
def tongue_none.f (x0_0 : Int) (x0_1 : Int) (l0_2 : List SExpr) : Bool :=
 if x0_0=0 then
  if x0_1=0 then
   ((l0_2.length:Int)==0)
  else
   false
 else
  false
theorem tongue_none_ok (Z:Zone) (x0_0 x0_1:Int) (l0_2:List SExpr) (A0_2:OA) (c0_2:Nat) (w0:World) (hZ:∀ w,Sub w0 w→Z w) (hR0_2:RdZ Z A0_2 l0_2) (hL0_2:l0_2.length≤c0_2) (r:Bool) (h:tongue_none.f x0_0 x0_1 l0_2=r) :
  Calls Try.prog 91 #[.agg #[vI x0_0,vI x0_1,.slice A0_2 l0_2.length c0_2]] w0 (tongue_none.Post w0 r):=by
 have hS:=St.start w0
 unfold tongue_none.f at h
 refine calls_enter (n:=17) (args:=[.agg #[vI x0_0,vI x0_1,.slice A0_2 l0_2.length c0_2]]) (fn:=Try.f91) rfl rfl rfl rfl ?_
 show WE _ _ _ _ [(0,.agg #[vI x0_0,vI x0_1,.slice A0_2 l0_2.length c0_2])] _
 refine ws fun K1 hK1=>wr [(0,1),(1,0)]<|gw (some 1) (.cells #[vI x0_0,vI x0_1,.slice A0_2 l0_2.length c0_2] 66) (fun b=>pP b 0) hS fun b1 w1 hx1 hS1=>?_
 refine gb0 [1] [(2,.bool false)]<|gn hK1<|ws fun K2 hK2=>wr [(0,0),(1,0),(2,0),(3,0),(4,0),(5,0),(6,0),(7,0),(8,0),(9,0),(10,0),(11,0),(12,0),(13,0),(14,0)]<|gb [0,1,2,3] [(6,.bool (x0_0==0)),(5,.bool (x0_0==0)),(4,vI x0_0),(3,pP b1 0)] [ld b1 0 (vI x0_0)] ⟨hS1.c 0,trivial⟩ ?_
 by_cases hc1:x0_0=0
 ·rw [if_pos hc1] at h
  refine gk 6 (x0_0==0) true (beq_iff_eq.2 hc1)<|gb [4,5,6,7,8] [(11,.bool (x0_1==0)),(10,.bool (x0_1==0)),(9,.bool (x0_1==0)),(8,vI x0_1),(7,pP b1 1)] [ld b1 1 (vI x0_1)] ⟨hS1.c 0,trivial⟩ ?_
  by_cases hc2:x0_1=0
  ·rw [if_pos hc2] at h
   refine gk 11 (x0_1==0) true (beq_iff_eq.2 hc2)<|gb [9,10,11,12,13,14] [(2,.bool ((l0_2.length:Int)==0)),(16,.bool ((l0_2.length:Int)==0)),(15,.bool ((l0_2.length:Int)==0)),(14,vI (l0_2.length:Int)),(13,.slice A0_2 l0_2.length c0_2),(12,pP b1 2)] [ld b1 2 (.slice A0_2 l0_2.length c0_2)] ⟨hS1.c 0,trivial⟩<|gn hK2 ?_
   have hS2:=hS1.takeN 0
   subst h
   exact we_ret (pr0 [.tmp 2] [.bool ((l0_2.length:Int)==0)] ⟨rfl,hS2⟩)
  rw [if_neg hc2] at h
  refine gk 11 (x0_1==0) false (beq_eq_false_iff_ne.2 hc2)<|gb0 [9,10,11,12,13,14] [(2,.bool false),(16,.bool false),(15,undef),(14,undef),(13,undef),(12,undef)]<|gn hK2 ?_
  have hS3:=hS1.takeN 0
  subst h
  exact we_ret (pr0 [.tmp 2] [.bool false] ⟨rfl,hS3⟩)
 rw [if_neg hc1] at h
 refine gk 6 (x0_0==0) false (beq_eq_false_iff_ne.2 hc1)<|gb0 [4,5,6,7,8,9,10,11,12,13,14] [(2,.bool false),(16,.bool false),(15,undef),(14,undef),(13,undef),(12,undef),(11,.bool false),(10,.bool false),(9,undef),(8,undef),(7,undef)]<|gn hK2 ?_
 have hS4:=hS1.takeN 0
 subst h
 exact we_ret (pr0 [.tmp 2] [.bool false] ⟨rfl,hS4⟩)

/-! punctual/tongue.arity -/
abbrev tongue_arity.Post (w0:World) (r:Int) (e:Ending) (w:World):Prop:=e=.returned (vI r)∧St w0 w []
def tongue_arity.f (x0 : Int) : Int :=
 if x0=1 then
  0
 else
  if x0=2 then
   0
  else
   if x0=3 then
    0
   else
    if x0=4 then
     1
    else
     if x0=5 then
      2
     else
      if x0=6 then
       2
      else
       if x0=7 then
        2
       else
        (-1)
theorem tongue_arity_ok (x0:Int) (w0:World) (r:Int) (h:tongue_arity.f x0=r) :
  Calls Try.prog 95 #[vI x0] w0 (tongue_arity.Post w0 r):=by
 have hS:=St.start w0
 unfold tongue_arity.f at h
 refine calls_enter (n:=14) (args:=[vI x0]) (fn:=Try.f95) rfl rfl rfl rfl ?_
 show WE _ _ _ _ [(0,vI x0)] _
 refine ws fun K1 hK1=>wr [(0,0)]<|gb0 [0] [(2,vI 0)]<|gn hK1<|ws fun K2 hK2=>ws fun K3 hK3=>wr [(0,0)]<|gb0 [0] [(3,vI x0)]<|gn hK3<|we_block<|ws fun K4 hK4=>ws fun K5 hK5=>wr [(0,0),(1,0)]<|gb0 [0,1] [(4,.bool (x0==1)),(5,.bool (x0==1))]<|gn hK5 ?_
 by_cases hc1:x0=1
 ·rw [if_pos hc1] at h
  refine wk 4 (x0==1) true (beq_iff_eq.2 hc1)<|wt<|we_skip fun a hF=>hK4 _ _ ?_ a hF
  refine wt<|ws fun K6 hK6=>wr [(0,0)]<|gb0 [0] [(2,vI 0)]<|gn hK6 ?_
  subst h
  exact we_ret (pr0 [.tmp 2] [vI 0] ⟨rfl,hS⟩)
 rw [if_neg hc1] at h
 refine wk 4 (x0==1) false (beq_eq_false_iff_ne.2 hc1)<|wf<|ws fun K7 hK7=>wr [(0,0),(1,0)]<|gb0 [0,1] [(4,.bool (x0==2)),(6,.bool (x0==2))]<|gn hK7 ?_
 by_cases hc2:x0=2
 ·rw [if_pos hc2] at h
  refine wk 4 (x0==2) true (beq_iff_eq.2 hc2)<|wt<|we_skip fun a hF=>hK4 _ _ ?_ a hF
  refine wt<|ws fun K8 hK8=>wr [(0,0)]<|gb0 [0] [(2,vI 0)]<|gn hK8 ?_
  subst h
  exact we_ret (pr0 [.tmp 2] [vI 0] ⟨rfl,hS⟩)
 rw [if_neg hc2] at h
 refine wk 4 (x0==2) false (beq_eq_false_iff_ne.2 hc2)<|wf<|wr [(0,0),(1,0)]<|gb0 [0,1] [(4,.bool (x0==3)),(7,.bool (x0==3))]<|gn hK4 ?_
 by_cases hc3:x0=3
 ·rw [if_pos hc3] at h
  refine wk 4 (x0==3) true (beq_iff_eq.2 hc3)<|wt<|ws fun K9 hK9=>wr [(0,0)]<|gb0 [0] [(2,vI 0)]<|gn hK9 ?_
  subst h
  exact we_ret (pr0 [.tmp 2] [vI 0] ⟨rfl,hS⟩)
 rw [if_neg hc3] at h
 refine wk 4 (x0==3) false (beq_eq_false_iff_ne.2 hc3)<|wf<|ws fun K10 hK10=>wr [(0,0),(1,0)]<|gb0 [0,1] [(8,.bool (x0==4)),(9,.bool (x0==4))]<|gn hK10 ?_
 by_cases hc4:x0=4
 ·rw [if_pos hc4] at h
  refine wk 8 (x0==4) true (beq_iff_eq.2 hc4)<|wt<|ws fun K11 hK11=>wr [(0,0)]<|gb0 [0] [(2,vI 1)]<|gn hK11 ?_
  subst h
  exact we_ret (pr0 [.tmp 2] [vI 1] ⟨rfl,hS⟩)
 rw [if_neg hc4] at h
 refine wk 8 (x0==4) false (beq_eq_false_iff_ne.2 hc4)<|wf<|ws fun K12 hK12=>ws fun K13 hK13=>wr [(0,0),(1,0)]<|gb0 [0,1] [(10,.bool (x0==5)),(11,.bool (x0==5))]<|gn hK13 ?_
 by_cases hc5:x0=5
 ·rw [if_pos hc5] at h
  refine wk 10 (x0==5) true (beq_iff_eq.2 hc5)<|wt<|we_skip fun a hF=>hK12 _ _ ?_ a hF
  refine wt<|ws fun K14 hK14=>wr [(0,0)]<|gb0 [0] [(2,vI 2)]<|gn hK14 ?_
  subst h
  exact we_ret (pr0 [.tmp 2] [vI 2] ⟨rfl,hS⟩)
 rw [if_neg hc5] at h
 refine wk 10 (x0==5) false (beq_eq_false_iff_ne.2 hc5)<|wf<|ws fun K15 hK15=>wr [(0,0),(1,0)]<|gb0 [0,1] [(10,.bool (x0==6)),(12,.bool (x0==6))]<|gn hK15 ?_
 by_cases hc6:x0=6
 ·rw [if_pos hc6] at h
  refine wk 10 (x0==6) true (beq_iff_eq.2 hc6)<|wt<|we_skip fun a hF=>hK12 _ _ ?_ a hF
  refine wt<|ws fun K16 hK16=>wr [(0,0)]<|gb0 [0] [(2,vI 2)]<|gn hK16 ?_
  subst h
  exact we_ret (pr0 [.tmp 2] [vI 2] ⟨rfl,hS⟩)
 rw [if_neg hc6] at h
 refine wk 10 (x0==6) false (beq_eq_false_iff_ne.2 hc6)<|wf<|wr [(0,0),(1,0)]<|gb0 [0,1] [(10,.bool (x0==7)),(13,.bool (x0==7))]<|gn hK12 ?_
 by_cases hc7:x0=7
 ·rw [if_pos hc7] at h
  refine wk 10 (x0==7) true (beq_iff_eq.2 hc7)<|wt<|ws fun K17 hK17=>wr [(0,0)]<|gb0 [0] [(2,vI 2)]<|gn hK17 ?_
  subst h
  exact we_ret (pr0 [.tmp 2] [vI 2] ⟨rfl,hS⟩)
 rw [if_neg hc7] at h
 refine wk 10 (x0==7) false (beq_eq_false_iff_ne.2 hc7)<|wf<|we_skip fun a hF=>hK2 _ _ ?_ a hF
 refine ws fun K18 hK18=>wr [(0,0)]<|gb0 [0] [(2,vI (-1))]<|gn hK18 ?_
 subst h
 exact we_ret (pr0 [.tmp 2] [vI (-1)] ⟨rfl,hS⟩)

/-! punctual/tongue.expr -/
abbrev tongue_expr.Post (w0:World) (Z:Zone) (x0_0 x0_1:Int) (l0_2:List SExpr) (A0_2:OA) (c0_2 bp1:Nat) (sp1_0:Int) (LT:List Own) (r:Int×Int) (e:Ending) (w:World):Prop:=e=.returned (vI r.1)∧St w0 w [bk bp1 #[vI r.2] 3,Own.all LT]
abbrev tongue_expr.Rec (rec_tongue_expr:Int→Int→(List SExpr)→Int→Option (Int×Int)):Prop:=∀ (Z:Zone) (x0_0:Int) (x0_1:Int) (l0_2:List SExpr) (A0_2:OA) (c0_2:Nat) (bp1:Nat) (sp1_0:Int) (w0 wE:World) (LT:List Own) (hS:St w0 wE [bk bp1 #[vI sp1_0] 3,Own.all LT]) (hZ:∀ w L,St w0 w (Own.all LT::L)→∀ w',Sub w w'→Z w') (hR0_2:RdZ Z A0_2 l0_2) (hL0_2:l0_2.length≤c0_2) (r:Int×Int) (h:rec_tongue_expr x0_0 x0_1 l0_2 sp1_0=some r),Calls Try.prog 94 #[.agg #[vI x0_0,vI x0_1,.slice A0_2 l0_2.length c0_2],pP bp1 0] wE (tongue_expr.Post w0 Z x0_0 x0_1 l0_2 A0_2 c0_2 bp1 sp1_0 LT r)
def tongue_expr.p2 (x0_0 : Int) (x0_1 : Int) : Option (Bool ⊕ (Int × Int)) :=
  if x0_0=1 then
   if x0_1<0 then
    some (.inl true)
   else
    some (.inl (decide (x0_1 > 999999999)))
  else
   some (.inl false)
def tongue_expr.p1 (x0_0 : Int) (x0_1 : Int) : Option (Bool ⊕ (Int × Int)) :=
  match tongue_expr.p2 x0_0 x0_1 with
  | none=>none
  | some (.inl q3) =>
   if q3=true then
    some (.inl true)
   else
    if x0_0=2 then
     if x0_1<0 then
      some (.inl true)
     else
      if x0_1 > 7 then
       some (.inl true)
      else
       if x0_0=3 then
        if x0_1 > 3 then
         some (.inl true)
        else
         if x0_0 > 3 then
          some (.inl (x0_1 != 0))
         else
          some (.inl false)
       else
        if x0_0 > 3 then
         some (.inl (x0_1 != 0))
        else
         some (.inl false)
    else
     if x0_0=3 then
      if x0_1<0 then
       some (.inl true)
      else
       if x0_1 > 3 then
        some (.inl true)
       else
        if x0_0 > 3 then
         some (.inl (x0_1 != 0))
        else
         some (.inl false)
     else
      if x0_0 > 3 then
       some (.inl (x0_1 != 0))
      else
       some (.inl false)
  | some (.inr rr1) =>
   some (.inr rr1)
def tongue_expr.p0 (x0_0 : Int) (x0_1 : Int) (sp1_0 : Int) : Option (Unit ⊕ (Int × Int)) :=
  match tongue_expr.p1 x0_0 x0_1 with
  | none=>none
  | some (.inl q4) =>
   if q4=true then
    some (.inr (3,IntKind.i64.wrap (sp1_0-1)))
   else
    some (.inl ())
  | some (.inr rr2) =>
   some (.inr rr2)
def tongue_expr.r3 (l0_2 : List SExpr) (rec_tongue_expr : Int → Int → (List SExpr) → Int → Option (Int × Int)) : Nat × Int → Option ((Nat × Int) ⊕ (Int ⊕ (Int × Int)))
 | (i1,z1) =>
  if (i1:Int)<(l0_2.length:Int) then
   match l0_2[i1]? with
   | none=>none
   | some e1 =>
    match rec_tongue_expr e1.Kind e1.N e1.A z1 with
    | none=>none
    | some r1 =>
     if r1.1=0 then
      some (.inl ((i1+1),r1.2))
     else
      some (.inr (.inr (r1.1,r1.2)))
  else
   some (.inr (.inl z1))
def tongue_expr.b (K : Nat) (rec_tongue_expr : Int → Int → (List SExpr) → Int → Option (Int × Int)) (x0_0 : Int) (x0_1 : Int) (l0_2 : List SExpr) (sp1_0 : Int) : Option (Int × Int) :=
 if (IntKind.i64.wrap (sp1_0-1))<0 then
  some (2,IntKind.i64.wrap (sp1_0-1))
 else
  if (tongue_arity.f x0_0)=(l0_2.length:Int) then
   match tongue_expr.p0 x0_0 x0_1 sp1_0 with
   | none=>none
   | some (.inl _) =>
    match iter (tongue_expr.r3 l0_2 rec_tongue_expr) K (0,IntKind.i64.wrap (sp1_0-1)) with
    | none=>none
    | some (.inl z3) =>
     some (0,z3)
    | some (.inr rr3) =>
     some rr3
   | some (.inr rr4) =>
    some rr4
  else
   some (6,IntKind.i64.wrap (sp1_0-1))
abbrev tongue_expr.A2 (w0:World) (x0_0 x0_1:Int) (l0_2:List SExpr) (A0_2:OA) (c0_2 bp1:Nat) (sp1_0:Int) (LT:List Own) (b1:Nat):Bool→Act→World→Prop:=fun (s:Bool) a w=>St w0 w [bk bp1 #[vI (IntKind.i64.wrap (sp1_0-1))] 3,bk b1 #[vI x0_0,vI x0_1,.slice A0_2 l0_2.length c0_2] 66,Own.all LT]∧Frm 86 a [(1,pP bp1 0),(2,pP b1 0),(24,.bool s)]
abbrev tongue_expr.B2 (w0:World) (Z:Zone) (x0_0 x0_1:Int) (l0_2:List SExpr) (A0_2:OA) (c0_2 bp1:Nat) (sp1_0:Int) (LT:List Own):(Int×Int)→Exit→Act→World→Prop:=Rets Try.prog Try.f94 (tongue_expr.Post w0 Z x0_0 x0_1 l0_2 A0_2 c0_2 bp1 sp1_0 LT)
theorem tongue_expr_p2 (K:Nat) (w0:World) (Z:Zone) (x0_0 x0_1:Int) (l0_2:List SExpr) (A0_2:OA) (c0_2 bp1:Nat) (sp1_0:Int) (LT:List Own) (hZ:∀ w L,St w0 w (Own.all LT::L)→∀ w',Sub w w'→Z w') (hR0_2:RdZ Z A0_2 l0_2) (hL0_2:l0_2.length≤c0_2) (rec_tongue_expr:Int→Int→(List SExpr)→Int→Option (Int×Int)) (hr_tongue_expr:tongue_expr.Rec rec_tongue_expr) (b1:Nat) (hc1:¬ ((IntKind.i64.wrap (sp1_0-1))<0)) (hc2:(tongue_arity.f x0_0)=(l0_2.length:Int)) (o:Bool ⊕ (Int×Int)) (h:tongue_expr.p2 x0_0 x0_1=some o) (w:World) (hS:St w0 w [bk bp1 #[vI (IntKind.i64.wrap (sp1_0-1))] 3,bk b1 #[vI x0_0,vI x0_1,.slice A0_2 l0_2.length c0_2] 66,Own.all LT]) (Q:Exit→Act→World→Prop) (hQ:∀ x a w,Outs (tongue_expr.A2 w0 x0_0 x0_1 l0_2 A0_2 c0_2 bp1 sp1_0 LT b1) (tongue_expr.B2 w0 Z x0_0 x0_1 l0_2 A0_2 c0_2 bp1 sp1_0 LT) o x a w→Q x a w):WE Try.prog 86 (subF Try.f94 [1,1,1,1,0,0,0,0]) Q [(0,.agg #[vI x0_0,vI x0_1,.slice A0_2 l0_2.length c0_2]),(1,pP bp1 0),(2,pP b1 0),(4,vI 0),(8,pP bp1 0),(9,pP bp1 0),(10,vI sp1_0),(11,vI (IntKind.i64.wrap (sp1_0-1))),(12,pP bp1 0),(13,pP bp1 0),(14,pP bp1 0),(15,vI (IntKind.i64.wrap (sp1_0-1))),(16,.bool false),(17,pP b1 0),(18,vI x0_0),(19,vI (tongue_arity.f x0_0)),(20,pP b1 2),(21,.slice A0_2 l0_2.length c0_2),(22,vI (l0_2.length:Int)),(23,.bool false)] w:=by
 simp only [tongue_expr.p2] at h
 refine wr [(0,0),(1,0),(2,0),(3,0),(4,0),(5,0),(6,0),(7,0),(8,0),(9,0),(10,0),(11,0),(12,0),(13,0)]<|gb [0,1,2,3] [(28,.bool (x0_0==1)),(27,.bool (x0_0==1)),(26,vI x0_0),(25,pP b1 0)] [ld b1 0 (vI x0_0)] ⟨hS.c 1,trivial⟩ ?_
 by_cases hc3:x0_0=1
 ·rw [if_pos hc3] at h
  refine gk 28 (x0_0==1) true (beq_iff_eq.2 hc3)<|gb [4,5,6,7] [(32,.bool (decide (x0_1<0))),(31,.bool (decide (x0_1<0))),(30,vI x0_1),(29,pP b1 1)] [ld b1 1 (vI x0_1)] ⟨hS.c 1,trivial⟩ ?_
  by_cases hc4:x0_1<0
  ·rw [if_pos hc4] at h
   refine gk 32 (decide (x0_1<0)) true (decide_eq_true hc4)<|gb0 [8,9,10,11,12,13] [(24,.bool true),(37,.bool true),(36,.bool true),(35,undef),(34,undef),(33,undef)] ?_
   have hS13:=((hS.b 2).b 2).b 2
   obtain rfl:=si h
   exact ge_nil fun a hF=>hQ _ _ _ (Outs.again ⟨hS13,hF.weaken ea⟩)
  rw [if_neg hc4] at h
  refine gk 32 (decide (x0_1<0)) false (decide_eq_false hc4)<|gb [8,9,10,11,12,13] [(24,.bool (decide (x0_1 > 999999999))),(37,.bool (decide (x0_1 > 999999999))),(36,.bool (decide (x0_1 > 999999999))),(35,.bool (decide (x0_1 > 999999999))),(34,vI x0_1),(33,pP b1 1)] [ld b1 1 (vI x0_1)] ⟨hS.c 1,trivial⟩ ?_
  have hS16:=((hS.b 2).b 2).b 2
  obtain rfl:=si h
  exact ge_nil fun a hF=>hQ _ _ _ (Outs.again ⟨hS16,hF.weaken ea⟩)
 rw [if_neg hc3] at h
 refine gk 28 (x0_0==1) false (beq_eq_false_iff_ne.2 hc3)<|gb0 [4,5,6,7,8,9,10,11,12,13] [(24,.bool false),(37,.bool false),(36,undef),(35,undef),(34,undef),(33,undef),(32,undef),(31,undef),(30,undef),(29,undef)] ?_
 have hS19:=((hS.b 2).b 2).b 2
 obtain rfl:=si h
 exact ge_nil fun a hF=>hQ _ _ _ (Outs.again ⟨hS19,hF.weaken ea⟩)
abbrev tongue_expr.A1 (w0:World) (x0_0 x0_1:Int) (l0_2:List SExpr) (A0_2:OA) (c0_2 bp1:Nat) (sp1_0:Int) (LT:List Own) (b1:Nat):Bool→Act→World→Prop:=fun (s:Bool) a w=>St w0 w [bk bp1 #[vI (IntKind.i64.wrap (sp1_0-1))] 3,bk b1 #[vI x0_0,vI x0_1,.slice A0_2 l0_2.length c0_2] 66,Own.all LT]∧Frm 86 a [(1,pP bp1 0),(2,pP b1 0),(24,.bool s)]
abbrev tongue_expr.B1 (w0:World) (Z:Zone) (x0_0 x0_1:Int) (l0_2:List SExpr) (A0_2:OA) (c0_2 bp1:Nat) (sp1_0:Int) (LT:List Own):(Int×Int)→Exit→Act→World→Prop:=Rets Try.prog Try.f94 (tongue_expr.Post w0 Z x0_0 x0_1 l0_2 A0_2 c0_2 bp1 sp1_0 LT)
theorem tongue_expr_p1 (K:Nat) (w0:World) (Z:Zone) (x0_0 x0_1:Int) (l0_2:List SExpr) (A0_2:OA) (c0_2 bp1:Nat) (sp1_0:Int) (LT:List Own) (hZ:∀ w L,St w0 w (Own.all LT::L)→∀ w',Sub w w'→Z w') (hR0_2:RdZ Z A0_2 l0_2) (hL0_2:l0_2.length≤c0_2) (rec_tongue_expr:Int→Int→(List SExpr)→Int→Option (Int×Int)) (hr_tongue_expr:tongue_expr.Rec rec_tongue_expr) (b1:Nat) (hc1:¬ ((IntKind.i64.wrap (sp1_0-1))<0)) (hc2:(tongue_arity.f x0_0)=(l0_2.length:Int)) (o:Bool ⊕ (Int×Int)) (h:tongue_expr.p1 x0_0 x0_1=some o) (w:World) (hS:St w0 w [bk bp1 #[vI (IntKind.i64.wrap (sp1_0-1))] 3,bk b1 #[vI x0_0,vI x0_1,.slice A0_2 l0_2.length c0_2] 66,Own.all LT]) (Q:Exit→Act→World→Prop) (hQ:∀ x a w,Outs (tongue_expr.A1 w0 x0_0 x0_1 l0_2 A0_2 c0_2 bp1 sp1_0 LT b1) (tongue_expr.B1 w0 Z x0_0 x0_1 l0_2 A0_2 c0_2 bp1 sp1_0 LT) o x a w→Q x a w):WE Try.prog 86 (subF Try.f94 [1,1,1,1,0,0,0]) Q [(0,.agg #[vI x0_0,vI x0_1,.slice A0_2 l0_2.length c0_2]),(1,pP bp1 0),(2,pP b1 0),(4,vI 0),(8,pP bp1 0),(9,pP bp1 0),(10,vI sp1_0),(11,vI (IntKind.i64.wrap (sp1_0-1))),(12,pP bp1 0),(13,pP bp1 0),(14,pP bp1 0),(15,vI (IntKind.i64.wrap (sp1_0-1))),(16,.bool false),(17,pP b1 0),(18,vI x0_0),(19,vI (tongue_arity.f x0_0)),(20,pP b1 2),(21,.slice A0_2 l0_2.length c0_2),(22,vI (l0_2.length:Int)),(23,.bool false)] w:=by
 simp only [tongue_expr.p1] at h
 refine ws fun K10 hK10=>?_
 rcases hq2:tongue_expr.p2 x0_0 x0_1 with _ | (q3 | rr1)
 ·rw [hq2] at h; cases h
 ·rw [hq2] at h
  simp only [] at h
  refine kp (tongue_expr_p2 K w0 Z x0_0 x0_1 l0_2 A0_2 c0_2 bp1 sp1_0 LT hZ hR0_2 hL0_2 rec_tongue_expr hr_tongue_expr b1 hc1 hc2 _ hq2 _ hS _ ?_)
  rintro _ a w4 ⟨rfl,hS20,hF⟩
  replace hS20:St w0 w4 [bk bp1 #[vI (IntKind.i64.wrap (sp1_0-1))] 3,bk b1 #[vI x0_0,vI x0_1,.slice A0_2 l0_2.length c0_2] 66,Own.all LT]:=hS20
  refine hK10 [(1,pP bp1 0),(2,pP b1 0),(24,.bool q3)] w4 ?_ a hF
  by_cases hc5:q3=true
  ·rw [if_pos hc5] at h
   refine wk 24 q3 true hc5<|wt ?_
   have hS23:=((hS20.b 2).b 2).b 2
   obtain rfl:=si h
   exact we_skip fun a hF=>hQ _ _ _ (Outs.again ⟨hS23,hF.weaken ea⟩)
  rw [if_neg hc5] at h
  refine wk 24 q3 false (Bool.eq_false_iff.2 hc5)<|wf<|ws fun K11 hK11=>wr [(0,0),(1,0),(2,0),(3,0),(4,0),(5,0),(6,0),(7,0),(8,0),(9,0),(10,0),(11,0),(12,0),(13,0)]<|gb [0,1,2,3] [(41,.bool (x0_0==2)),(40,.bool (x0_0==2)),(39,vI x0_0),(38,pP b1 0)] [ld b1 0 (vI x0_0)] ⟨hS20.c 1,trivial⟩ ?_
  by_cases hc6:x0_0=2
  ·rw [if_pos hc6] at h
   refine gk 41 (x0_0==2) true (beq_iff_eq.2 hc6)<|gb [4,5,6,7] [(45,.bool (decide (x0_1<0))),(44,.bool (decide (x0_1<0))),(43,vI x0_1),(42,pP b1 1)] [ld b1 1 (vI x0_1)] ⟨hS20.c 1,trivial⟩ ?_
   by_cases hc7:x0_1<0
   ·rw [if_pos hc7] at h
    refine gk 45 (decide (x0_1<0)) true (decide_eq_true hc7)<|gb0 [8,9,10,11,12,13] [(24,.bool true),(50,.bool true),(49,.bool true),(48,undef),(47,undef),(46,undef)]<|gn hK11<|wt ?_
    have hS26:=((hS20.b 2).b 2).b 2
    obtain rfl:=si h
    exact we_skip fun a hF=>hQ _ _ _ (Outs.again ⟨hS26,hF.weaken ea⟩)
   rw [if_neg hc7] at h
   refine gk 45 (decide (x0_1<0)) false (decide_eq_false hc7)<|gb [8,9,10,11,12,13] [(24,.bool (decide (x0_1 > 7))),(50,.bool (decide (x0_1 > 7))),(49,.bool (decide (x0_1 > 7))),(48,.bool (decide (x0_1 > 7))),(47,vI x0_1),(46,pP b1 1)] [ld b1 1 (vI x0_1)] ⟨hS20.c 1,trivial⟩<|gn hK11 ?_
   by_cases hc8:x0_1 > 7
   ·rw [if_pos hc8] at h
    refine wk 24 (decide (x0_1 > 7)) true (decide_eq_true hc8)<|wt ?_
    have hS29:=((hS20.b 2).b 2).b 2
    obtain rfl:=si h
    exact we_skip fun a hF=>hQ _ _ _ (Outs.again ⟨hS29,hF.weaken ea⟩)
   rw [if_neg hc8] at h
   refine wk 24 (decide (x0_1 > 7)) false (decide_eq_false hc8)<|wf<|ws fun K12 hK12=>wr [(0,0),(1,0),(2,0),(3,0),(4,0),(5,0),(6,0),(7,0),(8,0),(9,0),(10,0),(11,0),(12,0),(13,0)]<|gb [0,1,2,3] [(54,.bool (x0_0==3)),(53,.bool (x0_0==3)),(52,vI x0_0),(51,pP b1 0)] [ld b1 0 (vI x0_0)] ⟨hS20.c 1,trivial⟩ ?_
   by_cases hc9:x0_0=3
   ·rw [if_pos hc9] at h
    refine gk 54 (x0_0==3) true (beq_iff_eq.2 hc9)<|gb [4,5,6,7] [(58,.bool (decide (x0_1<0))),(57,.bool (decide (x0_1<0))),(56,vI x0_1),(55,pP b1 1)] [ld b1 1 (vI x0_1)] ⟨hS20.c 1,trivial⟩<|gk 58 (decide (x0_1<0)) false (decide_eq_false hc7)<|gb [8,9,10,11,12,13] [(24,.bool (decide (x0_1 > 3))),(63,.bool (decide (x0_1 > 3))),(62,.bool (decide (x0_1 > 3))),(61,.bool (decide (x0_1 > 3))),(60,vI x0_1),(59,pP b1 1)] [ld b1 1 (vI x0_1)] ⟨hS20.c 1,trivial⟩<|gn hK12 ?_
    by_cases hc10:x0_1 > 3
    ·rw [if_pos hc10] at h
     refine wk 24 (decide (x0_1 > 3)) true (decide_eq_true hc10)<|wt ?_
     have hS32:=((hS20.b 2).b 2).b 2
     obtain rfl:=si h
     exact we_skip fun a hF=>hQ _ _ _ (Outs.again ⟨hS32,hF.weaken ea⟩)
    rw [if_neg hc10] at h
    refine wk 24 (decide (x0_1 > 3)) false (decide_eq_false hc10)<|wf<|wr [(0,0),(1,0),(2,0),(3,0),(4,0),(5,0),(6,0),(7,0),(8,0)]<|gb [0,1,2,3] [(67,.bool (decide (x0_0 > 3))),(66,.bool (decide (x0_0 > 3))),(65,vI x0_0),(64,pP b1 0)] [ld b1 0 (vI x0_0)] ⟨hS20.c 1,trivial⟩ ?_
    by_cases hc11:x0_0 > 3
    ·rw [if_pos hc11] at h
     refine gk 67 (decide (x0_0 > 3)) true (decide_eq_true hc11)<|gb [4,5,6,7,8] [(24,.bool (x0_1 != 0)),(71,.bool (x0_1 != 0)),(70,.bool (x0_1 != 0)),(69,vI x0_1),(68,pP b1 1)] [ld b1 1 (vI x0_1)] ⟨hS20.c 1,trivial⟩ ?_
     have hS35:=((hS20.b 2).b 2).b 2
     obtain rfl:=si h
     exact ge_nil fun a hF=>hQ _ _ _ (Outs.again ⟨hS35,hF.weaken ea⟩)
    rw [if_neg hc11] at h
    refine gk 67 (decide (x0_0 > 3)) false (decide_eq_false hc11)<|gb0 [4,5,6,7,8] [(24,.bool false),(71,.bool false),(70,undef),(69,undef),(68,undef)] ?_
    have hS38:=((hS20.b 2).b 2).b 2
    obtain rfl:=si h
    exact ge_nil fun a hF=>hQ _ _ _ (Outs.again ⟨hS38,hF.weaken ea⟩)
   rw [if_neg hc9] at h
   refine gk 54 (x0_0==3) false (beq_eq_false_iff_ne.2 hc9)<|gb0 [4,5,6,7,8,9,10,11,12,13] [(24,.bool false),(63,.bool false),(62,undef),(61,undef),(60,undef),(59,undef),(58,undef),(57,undef),(56,undef),(55,undef)]<|gn hK12<|wf<|wr [(0,0),(1,0),(2,0),(3,0),(4,0),(5,0),(6,0),(7,0),(8,0)]<|gb [0,1,2,3] [(67,.bool (decide (x0_0 > 3))),(66,.bool (decide (x0_0 > 3))),(65,vI x0_0),(64,pP b1 0)] [ld b1 0 (vI x0_0)] ⟨hS20.c 1,trivial⟩ ?_
   by_cases hc12:x0_0 > 3
   ·rw [if_pos hc12] at h
    refine gk 67 (decide (x0_0 > 3)) true (decide_eq_true hc12)<|gb [4,5,6,7,8] [(24,.bool (x0_1 != 0)),(71,.bool (x0_1 != 0)),(70,.bool (x0_1 != 0)),(69,vI x0_1),(68,pP b1 1)] [ld b1 1 (vI x0_1)] ⟨hS20.c 1,trivial⟩ ?_
    have hS41:=((hS20.b 2).b 2).b 2
    obtain rfl:=si h
    exact ge_nil fun a hF=>hQ _ _ _ (Outs.again ⟨hS41,hF.weaken ea⟩)
   rw [if_neg hc12] at h
   refine gk 67 (decide (x0_0 > 3)) false (decide_eq_false hc12)<|gb0 [4,5,6,7,8] [(24,.bool false),(71,.bool false),(70,undef),(69,undef),(68,undef)] ?_
   have hS44:=((hS20.b 2).b 2).b 2
   obtain rfl:=si h
   exact ge_nil fun a hF=>hQ _ _ _ (Outs.again ⟨hS44,hF.weaken ea⟩)
  rw [if_neg hc6] at h
  refine gk 41 (x0_0==2) false (beq_eq_false_iff_ne.2 hc6)<|gb0 [4,5,6,7,8,9,10,11,12,13] [(24,.bool false),(50,.bool false),(49,undef),(48,undef),(47,undef),(46,undef),(45,undef),(44,undef),(43,undef),(42,undef)]<|gn hK11<|wf<|ws fun K13 hK13=>wr [(0,0),(1,0),(2,0),(3,0),(4,0),(5,0),(6,0),(7,0),(8,0),(9,0),(10,0),(11,0),(12,0),(13,0)]<|gb [0,1,2,3] [(54,.bool (x0_0==3)),(53,.bool (x0_0==3)),(52,vI x0_0),(51,pP b1 0)] [ld b1 0 (vI x0_0)] ⟨hS20.c 1,trivial⟩ ?_
  by_cases hc13:x0_0=3
  ·rw [if_pos hc13] at h
   refine gk 54 (x0_0==3) true (beq_iff_eq.2 hc13)<|gb [4,5,6,7] [(58,.bool (decide (x0_1<0))),(57,.bool (decide (x0_1<0))),(56,vI x0_1),(55,pP b1 1)] [ld b1 1 (vI x0_1)] ⟨hS20.c 1,trivial⟩ ?_
   by_cases hc14:x0_1<0
   ·rw [if_pos hc14] at h
    refine gk 58 (decide (x0_1<0)) true (decide_eq_true hc14)<|gb0 [8,9,10,11,12,13] [(24,.bool true),(63,.bool true),(62,.bool true),(61,undef),(60,undef),(59,undef)]<|gn hK13<|wt ?_
    have hS47:=((hS20.b 2).b 2).b 2
    obtain rfl:=si h
    exact we_skip fun a hF=>hQ _ _ _ (Outs.again ⟨hS47,hF.weaken ea⟩)
   rw [if_neg hc14] at h
   refine gk 58 (decide (x0_1<0)) false (decide_eq_false hc14)<|gb [8,9,10,11,12,13] [(24,.bool (decide (x0_1 > 3))),(63,.bool (decide (x0_1 > 3))),(62,.bool (decide (x0_1 > 3))),(61,.bool (decide (x0_1 > 3))),(60,vI x0_1),(59,pP b1 1)] [ld b1 1 (vI x0_1)] ⟨hS20.c 1,trivial⟩<|gn hK13 ?_
   by_cases hc15:x0_1 > 3
   ·rw [if_pos hc15] at h
    refine wk 24 (decide (x0_1 > 3)) true (decide_eq_true hc15)<|wt ?_
    have hS50:=((hS20.b 2).b 2).b 2
    obtain rfl:=si h
    exact we_skip fun a hF=>hQ _ _ _ (Outs.again ⟨hS50,hF.weaken ea⟩)
   rw [if_neg hc15] at h
   refine wk 24 (decide (x0_1 > 3)) false (decide_eq_false hc15)<|wf<|wr [(0,0),(1,0),(2,0),(3,0),(4,0),(5,0),(6,0),(7,0),(8,0)]<|gb [0,1,2,3] [(67,.bool (decide (x0_0 > 3))),(66,.bool (decide (x0_0 > 3))),(65,vI x0_0),(64,pP b1 0)] [ld b1 0 (vI x0_0)] ⟨hS20.c 1,trivial⟩ ?_
   by_cases hc16:x0_0 > 3
   ·rw [if_pos hc16] at h
    refine gk 67 (decide (x0_0 > 3)) true (decide_eq_true hc16)<|gb [4,5,6,7,8] [(24,.bool (x0_1 != 0)),(71,.bool (x0_1 != 0)),(70,.bool (x0_1 != 0)),(69,vI x0_1),(68,pP b1 1)] [ld b1 1 (vI x0_1)] ⟨hS20.c 1,trivial⟩ ?_
    have hS53:=((hS20.b 2).b 2).b 2
    obtain rfl:=si h
    exact ge_nil fun a hF=>hQ _ _ _ (Outs.again ⟨hS53,hF.weaken ea⟩)
   rw [if_neg hc16] at h
   refine gk 67 (decide (x0_0 > 3)) false (decide_eq_false hc16)<|gb0 [4,5,6,7,8] [(24,.bool false),(71,.bool false),(70,undef),(69,undef),(68,undef)] ?_
   have hS56:=((hS20.b 2).b 2).b 2
   obtain rfl:=si h
   exact ge_nil fun a hF=>hQ _ _ _ (Outs.again ⟨hS56,hF.weaken ea⟩)
  rw [if_neg hc13] at h
  refine gk 54 (x0_0==3) false (beq_eq_false_iff_ne.2 hc13)<|gb0 [4,5,6,7,8,9,10,11,12,13] [(24,.bool false),(63,.bool false),(62,undef),(61,undef),(60,undef),(59,undef),(58,undef),(57,undef),(56,undef),(55,undef)]<|gn hK13<|wf<|wr [(0,0),(1,0),(2,0),(3,0),(4,0),(5,0),(6,0),(7,0),(8,0)]<|gb [0,1,2,3] [(67,.bool (decide (x0_0 > 3))),(66,.bool (decide (x0_0 > 3))),(65,vI x0_0),(64,pP b1 0)] [ld b1 0 (vI x0_0)] ⟨hS20.c 1,trivial⟩ ?_
  by_cases hc17:x0_0 > 3
  ·rw [if_pos hc17] at h
   refine gk 67 (decide (x0_0 > 3)) true (decide_eq_true hc17)<|gb [4,5,6,7,8] [(24,.bool (x0_1 != 0)),(71,.bool (x0_1 != 0)),(70,.bool (x0_1 != 0)),(69,vI x0_1),(68,pP b1 1)] [ld b1 1 (vI x0_1)] ⟨hS20.c 1,trivial⟩ ?_
   have hS59:=((hS20.b 2).b 2).b 2
   obtain rfl:=si h
   exact ge_nil fun a hF=>hQ _ _ _ (Outs.again ⟨hS59,hF.weaken ea⟩)
  rw [if_neg hc17] at h
  refine gk 67 (decide (x0_0 > 3)) false (decide_eq_false hc17)<|gb0 [4,5,6,7,8] [(24,.bool false),(71,.bool false),(70,undef),(69,undef),(68,undef)] ?_
  have hS62:=((hS20.b 2).b 2).b 2
  obtain rfl:=si h
  exact ge_nil fun a hF=>hQ _ _ _ (Outs.again ⟨hS62,hF.weaken ea⟩)
 rw [hq2] at h
 simp only [] at h
 refine kp (tongue_expr_p2 K w0 Z x0_0 x0_1 l0_2 A0_2 c0_2 bp1 sp1_0 LT hZ hR0_2 hL0_2 rec_tongue_expr hr_tongue_expr b1 hc1 hc2 _ hq2 _ hS _ ?_)
 rintro _ a w1 ⟨_,rfl,hb⟩
 obtain rfl:=si h
 exact hQ _ _ _ (Outs.out nofun ⟨rfl,hb⟩)
abbrev tongue_expr.A0 (w0:World) (x0_0 x0_1:Int) (l0_2:List SExpr) (A0_2:OA) (c0_2 bp1:Nat) (sp1_0:Int) (LT:List Own) (b1:Nat):Unit→Act→World→Prop:=fun (s:Unit) a w=>St w0 w [bk bp1 #[vI (IntKind.i64.wrap (sp1_0-1))] 3,bk b1 #[vI x0_0,vI x0_1,.slice A0_2 l0_2.length c0_2] 66,Own.all LT]∧Frm 86 a [(1,pP bp1 0),(2,pP b1 0)]
abbrev tongue_expr.B0 (w0:World) (Z:Zone) (x0_0 x0_1:Int) (l0_2:List SExpr) (A0_2:OA) (c0_2 bp1:Nat) (sp1_0:Int) (LT:List Own):(Int×Int)→Exit→Act→World→Prop:=Rets Try.prog Try.f94 (tongue_expr.Post w0 Z x0_0 x0_1 l0_2 A0_2 c0_2 bp1 sp1_0 LT)
theorem tongue_expr_p0 (K:Nat) (w0:World) (Z:Zone) (x0_0 x0_1:Int) (l0_2:List SExpr) (A0_2:OA) (c0_2 bp1:Nat) (sp1_0:Int) (LT:List Own) (hZ:∀ w L,St w0 w (Own.all LT::L)→∀ w',Sub w w'→Z w') (hR0_2:RdZ Z A0_2 l0_2) (hL0_2:l0_2.length≤c0_2) (rec_tongue_expr:Int→Int→(List SExpr)→Int→Option (Int×Int)) (hr_tongue_expr:tongue_expr.Rec rec_tongue_expr) (b1:Nat) (hc1:¬ ((IntKind.i64.wrap (sp1_0-1))<0)) (hc2:(tongue_arity.f x0_0)=(l0_2.length:Int)) (o:Unit ⊕ (Int×Int)) (h:tongue_expr.p0 x0_0 x0_1 sp1_0=some o) (w:World) (hS:St w0 w [bk bp1 #[vI (IntKind.i64.wrap (sp1_0-1))] 3,bk b1 #[vI x0_0,vI x0_1,.slice A0_2 l0_2.length c0_2] 66,Own.all LT]) (Q:Exit→Act→World→Prop) (hQ:∀ x a w,Outs (tongue_expr.A0 w0 x0_0 x0_1 l0_2 A0_2 c0_2 bp1 sp1_0 LT b1) (tongue_expr.B0 w0 Z x0_0 x0_1 l0_2 A0_2 c0_2 bp1 sp1_0 LT) o x a w→Q x a w):WE Try.prog 86 (subF Try.f94 [1,1,1,1,0]) Q [(0,.agg #[vI x0_0,vI x0_1,.slice A0_2 l0_2.length c0_2]),(1,pP bp1 0),(2,pP b1 0),(4,vI 0),(8,pP bp1 0),(9,pP bp1 0),(10,vI sp1_0),(11,vI (IntKind.i64.wrap (sp1_0-1))),(12,pP bp1 0),(13,pP bp1 0),(14,pP bp1 0),(15,vI (IntKind.i64.wrap (sp1_0-1))),(16,.bool false),(17,pP b1 0),(18,vI x0_0),(19,vI (tongue_arity.f x0_0)),(20,pP b1 2),(21,.slice A0_2 l0_2.length c0_2),(22,vI (l0_2.length:Int)),(23,.bool false)] w:=by
 simp only [tongue_expr.p0] at h
 refine we_block<|ws fun K9 hK9=>?_
 rcases hq3:tongue_expr.p1 x0_0 x0_1 with _ | (q4 | rr2)
 ·rw [hq3] at h; cases h
 ·rw [hq3] at h
  simp only [] at h
  refine kp (tongue_expr_p1 K w0 Z x0_0 x0_1 l0_2 A0_2 c0_2 bp1 sp1_0 LT hZ hR0_2 hL0_2 rec_tongue_expr hr_tongue_expr b1 hc1 hc2 _ hq3 _ hS _ ?_)
  rintro _ a w5 ⟨rfl,hS63,hF⟩
  replace hS63:St w0 w5 [bk bp1 #[vI (IntKind.i64.wrap (sp1_0-1))] 3,bk b1 #[vI x0_0,vI x0_1,.slice A0_2 l0_2.length c0_2] 66,Own.all LT]:=hS63
  refine hK9 [(1,pP bp1 0),(2,pP b1 0),(24,.bool q4)] w5 ?_ a hF
  by_cases hc18:q4=true
  ·rw [if_pos hc18] at h
   refine wk 24 q4 true hc18<|wt<|ws fun K14 hK14=>wr [(0,0)]<|gb0 [0] [(4,vI 3)]<|gn hK14 ?_
   have hS66:=hS63.p [0,2] rfl
   obtain rfl:=si h
   exact rq hQ fun a hF=>⟨rfl,(pr0 [.tmp 4] [vI 3] ⟨rfl,hS66⟩) a hF⟩
  rw [if_neg hc18] at h
  refine wk 24 q4 false (Bool.eq_false_iff.2 hc18)<|wf ?_
  have hS69:=((hS63.b 2).b 2).b 2
  obtain rfl:=si h
  exact we_skip fun a hF=>hQ _ _ _ (Outs.again ⟨hS69,hF.weaken ea⟩)
 rw [hq3] at h
 simp only [] at h
 refine kp (tongue_expr_p1 K w0 Z x0_0 x0_1 l0_2 A0_2 c0_2 bp1 sp1_0 LT hZ hR0_2 hL0_2 rec_tongue_expr hr_tongue_expr b1 hc1 hc2 _ hq3 _ hS _ ?_)
 rintro _ a w1 ⟨_,rfl,hb⟩
 obtain rfl:=si h
 exact hQ _ _ _ (Outs.out nofun ⟨rfl,hb⟩)
abbrev tongue_expr.A3 (w0:World) (l0_2:List SExpr) (A0_2:OA) (c0_2 bp1:Nat) (LT:List Own):(Nat×Int)→Act→World→Prop:=fun (s:Nat×Int) a w=>St w0 w [bk bp1 #[vI s.2] 3,Own.all LT]∧Frm 86 a [(1,pP bp1 0),(73,.slice A0_2 l0_2.length c0_2),(74,vI (l0_2.length:Int)),(75,vI (s.1:Int))]
abbrev tongue_expr.B3 (w0:World) (Z:Zone) (x0_0 x0_1:Int) (l0_2:List SExpr) (A0_2:OA) (c0_2 bp1:Nat) (sp1_0:Int) (LT:List Own):(Int ⊕ (Int×Int))→Exit→Act→World→Prop:=Exits 1 (fun (s:Int) a w=>St w0 w [bk bp1 #[vI s] 3,Own.all LT]∧Frm 86 a [(1,pP bp1 0)]) (Rets Try.prog Try.f94 (tongue_expr.Post w0 Z x0_0 x0_1 l0_2 A0_2 c0_2 bp1 sp1_0 LT))
theorem tongue_expr_r3 (K:Nat) (w0:World) (Z:Zone) (x0_0 x0_1:Int) (l0_2:List SExpr) (A0_2:OA) (c0_2 bp1:Nat) (sp1_0:Int) (LT:List Own) (hZ:∀ w L,St w0 w (Own.all LT::L)→∀ w',Sub w w'→Z w') (hR0_2:RdZ Z A0_2 l0_2) (hL0_2:l0_2.length≤c0_2) (rec_tongue_expr:Int→Int→(List SExpr)→Int→Option (Int×Int)) (hr_tongue_expr:tongue_expr.Rec rec_tongue_expr) (b1:Nat) (hc1:¬ ((IntKind.i64.wrap (sp1_0-1))<0)) (hc2:(tongue_arity.f x0_0)=(l0_2.length:Int)) (s:Nat×Int) (o:(Nat×Int) ⊕ (Int ⊕ (Int×Int))) (h:tongue_expr.r3 l0_2 rec_tongue_expr s=some o) (a:Act) (w:World) (hA:tongue_expr.A3 w0 l0_2 A0_2 c0_2 bp1 LT s a w) (Q:Exit→Act→World→Prop) (hQ:∀ x a w,Outs (tongue_expr.A3 w0 l0_2 A0_2 c0_2 bp1 LT) (tongue_expr.B3 w0 Z x0_0 x0_1 l0_2 A0_2 c0_2 bp1 sp1_0 LT) o x a w→Q x a w):(subF Try.f94 [1,1,1,1,1,0,1,0,0]).wp Try.prog Q a w:=by
 obtain ⟨i1,z1⟩:=s
 obtain ⟨hS,hF⟩:=hA
 replace hS:St w0 w [bk bp1 #[vI z1] 3,Own.all LT]:=hS
 simp only [tongue_expr.r3] at h
 refine (?_:WE Try.prog 86 (subF Try.f94 [1,1,1,1,1,0,1,0,0]) Q [(1,pP bp1 0),(73,.slice A0_2 l0_2.length c0_2),(74,vI (l0_2.length:Int)),(75,vI (i1:Int))] w) a hF
 clear hF a
 refine ws fun K17 hK17=>wr [(0,0)]<|gb0 [0] [(76,.bool (decide ((i1:Int)<(l0_2.length:Int))))]<|gn hK17<|ws fun K18 hK18=>?_
 by_cases hc19:(i1:Int)<(l0_2.length:Int)
 ·rw [if_pos hc19] at h
  refine wk 76 (decide ((i1:Int)<(l0_2.length:Int))) true (decide_eq_true hc19)<|wt<|we_skip fun a hF=>hK18 _ _ ?_ a hF
  refine ws fun K19 hK19=>we_block<|ws fun K20 hK20=>wr [(0,0),(1,0),(2,1),(3,2)] ?_
  rcases hx2:l0_2[i1]? with _ | e1
  ·rw [hx2] at h; cases h
  rw [hx2] at h
  simp only [] at h
  obtain ⟨An1,cn1,hCs1,hLn1,hRn1⟩:=SExpr.getZ hR0_2 hx2
  refine gi 77 0 64 66 3 l0_2.length c0_2 (.tmp 73) (.tmp 75) A0_2 .i64 (i1:Int) i1 (hR0_2.eqSome (hZ _ _ (hS.bring 1 rfl) _ (Sub.refl _)) (pos_of_get hx2)) rfl (lt_of_get hx2) ?_
  refine gb [1] [(78,.agg #[vI e1.Kind,vI e1.N,.slice An1 e1.A.length cn1])] [.loaded ⟨blkOf A0_2,offOf A0_2+i1*3,none⟩ (vI e1.Kind),.loaded ⟨blkOf A0_2,offOf A0_2+i1*3+1,none⟩ (vI e1.N),.loaded ⟨blkOf A0_2,offOf A0_2+i1*3+2,none⟩ (.slice An1 e1.A.length cn1)] ⟨hCs1 _ (hZ _ _ (hS.bring 1 rfl) _ (Sub.refl _)) 0 _ rfl,hCs1 _ (hZ _ _ (hS.bring 1 rfl) _ (Sub.refl _)) 1 _ rfl,hCs1 _ (hZ _ _ (hS.bring 1 rfl) _ (Sub.refl _)) 2 _ rfl,trivial⟩<|gw (some 6) (.cells #[vI 0,vI 0,.slice none 0 0] 66) (fun b=>pP b 0) hS fun b2 w7 hx3 hS74=>?_
  refine gs b2 0 #[vI 0,vI 0,.slice none 0 0] 66 [vI e1.Kind,vI e1.N,.slice An1 e1.A.length cn1] hS74 fun w8 hS75=>?_
  have hS76:=hS75.nc #[vI e1.Kind,vI e1.N,.slice An1 e1.A.length cn1] (by kernel_rfl)
  refine gn hK20<|ws fun K21 hK21=>wr [(0,0),(1,0),(2,2),(3,0)]<|gb [0,1] [(80,pP bp1 0),(79,.agg #[vI e1.Kind,vI e1.N,.slice An1 e1.A.length cn1])] [ld b2 0 (vI e1.Kind),ld b2 1 (vI e1.N),ld b2 2 (.slice An1 e1.A.length cn1)] ⟨hS76.c 0,hS76.c 0,hS76.c 0,trivial⟩ ?_
  rcases hq5:rec_tongue_expr e1.Kind e1.N e1.A z1 with _ | r1
  ·rw [hq5] at h; cases h
  rw [hq5] at h
  simp only [] at h
  have hS79:=(hS76.b 1).packN 1
  refine ge_call2 (m:=0) (d:=some 81) (f:=94) (args:=#[.agg #[vI e1.Kind,vI e1.N,.slice An1 e1.A.length cn1],pP bp1 0]) (by kernel_rfl) (hr_tongue_expr Z e1.Kind e1.N e1.A An1 cn1 bp1 z1 _ _ _ hS79 (fun w L h w' k=>(hZ _ _ (h.spread.bring 1 rfl) w' k)) hRn1 hLn1 _ hq5) ?_
  rintro _ w9 ⟨rfl,hS78⟩
  refine ⟨_,rfl,?_⟩
  have hS80:=hS78.unpack [bk bp1 #[vI r1.2] 3]
  refine gb0 [3] [(7,vI r1.1)]<|gn hK21<|ws fun K22 hK22=>wr [(0,0),(1,0)]<|gb0 [0,1] [(83,.bool (r1.1 != 0)),(82,vI r1.1)]<|gn hK22 ?_
  by_cases hc20:r1.1=0
  ·rw [if_pos hc20] at h
   refine wk 83 (r1.1 != 0) false (bne_eq_false_iff_eq.2 hc20)<|wf<|we_skip fun a hF=>hK19 _ _ ?_ a hF
   refine wr [(0,0),(1,0)]<|ge_addn (d:=85) (ty:=3) (x:=(.tmp 75)) (y:=(.const (vI 1))) (t:=3) (t2:=3) (k:=.i64) (m:=i1) (by kernel_rfl) (by kernel_rfl) (by kernel_rfl) (by have h0:=RdZ.small hR0_2 (hZ _ _ (hS80.bring 2 rfl) _ (Sub.refl _)); omega) ?_
   refine gb0 [1] [(75,vI ((i1+1:Nat):Int))] ?_
   have hS83:=hS80.p [0,2] rfl
   obtain rfl:=si h
   exact ge_nil fun a hF=>hQ _ _ _ (Outs.again ⟨hS83,hF.weaken ea⟩)
  rw [if_neg hc20] at h
  refine wk 83 (r1.1 != 0) true (bne_iff_ne.2 hc20)<|wt<|ws fun K23 hK23=>wr [(0,0),(1,0)]<|gb0 [0,1] [(4,vI r1.1),(84,vI r1.1)]<|gn hK23 ?_
  have hS86:=hS80.p [0,2] rfl
  obtain rfl:=si h
  exact we_ret fun a hF=>hQ _ _ _ (Outs.out nofun (Exits.on ⟨rfl,(pr0 [.tmp 4] [vI r1.1] ⟨rfl,hS86⟩) a hF⟩))
 rw [if_neg hc19] at h
 refine wk 76 (decide ((i1:Int)<(l0_2.length:Int))) false (decide_eq_false hc19)<|wf ?_
 have hS88:=(hS.b 1).b 1
 obtain rfl:=si h
 exact we_exit fun a hF=>hQ _ _ _ (Outs.out nofun (Exits.here ⟨hS88,hF.weaken ea⟩))
theorem tongue_expr_step (K:Nat) (rec_tongue_expr:Int→Int→(List SExpr)→Int→Option (Int×Int)) (hr_tongue_expr:tongue_expr.Rec rec_tongue_expr) (Z:Zone) (x0_0 x0_1:Int) (l0_2:List SExpr) (A0_2:OA) (c0_2 bp1:Nat) (sp1_0:Int) (w0 wE:World) (LT:List Own) (hS:St w0 wE [bk bp1 #[vI sp1_0] 3,Own.all LT]) (hZ:∀ w L,St w0 w (Own.all LT::L)→∀ w',Sub w w'→Z w') (hR0_2:RdZ Z A0_2 l0_2) (hL0_2:l0_2.length≤c0_2) (r:Int×Int) (h:tongue_expr.b K rec_tongue_expr x0_0 x0_1 l0_2 sp1_0=some r) :
  Calls Try.prog 94 #[.agg #[vI x0_0,vI x0_1,.slice A0_2 l0_2.length c0_2],pP bp1 0] wE (tongue_expr.Post w0 Z x0_0 x0_1 l0_2 A0_2 c0_2 bp1 sp1_0 LT r):=by
 unfold tongue_expr.b at h
 refine calls_enter (n:=86) (args:=[.agg #[vI x0_0,vI x0_1,.slice A0_2 l0_2.length c0_2],pP bp1 0]) (fn:=Try.f94) rfl rfl rfl rfl ?_
 show WE _ _ _ _ [(0,.agg #[vI x0_0,vI x0_1,.slice A0_2 l0_2.length c0_2]),(1,pP bp1 0)] _
 refine ws fun K1 hK1=>wr [(0,1),(1,0)]<|gw (some 2) (.cells #[vI x0_0,vI x0_1,.slice A0_2 l0_2.length c0_2] 66) (fun b=>pP b 0) hS fun b1 w1 hx1 hS1=>?_
 refine gb0 [1] [(4,vI 0)]<|gn hK1<|ws fun K2 hK2=>wr [(0,0),(1,0),(2,0),(3,0),(4,0),(5,2)]<|gb [0,1,2,3,4] [(12,pP bp1 0),(11,vI (IntKind.i64.wrap (sp1_0-1))),(10,vI sp1_0),(9,pP bp1 0),(8,pP bp1 0)] [ld bp1 0 (vI sp1_0)] ⟨hS1.c 1,trivial⟩ ?_
 have hS2:=hS1.b 1
 refine gs bp1 0 #[vI sp1_0] 3 [vI (IntKind.i64.wrap (sp1_0-1))] hS2 fun w2 hS3=>?_
 have hS4:=hS3.nc #[vI (IntKind.i64.wrap (sp1_0-1))] (by kernel_rfl)
 refine gn hK2<|ws fun K3 hK3=>ws fun K4 hK4=>wr [(0,0),(1,0),(2,0),(3,0)]<|gb [0,1,2,3] [(16,.bool (decide ((IntKind.i64.wrap (sp1_0-1))<0))),(15,vI (IntKind.i64.wrap (sp1_0-1))),(14,pP bp1 0),(13,pP bp1 0)] [ld bp1 0 (vI (IntKind.i64.wrap (sp1_0-1)))] ⟨hS4.c 0,trivial⟩<|gn hK4 ?_
 by_cases hc1:(IntKind.i64.wrap (sp1_0-1))<0
 ·rw [if_pos hc1] at h
  refine wk 16 (decide ((IntKind.i64.wrap (sp1_0-1))<0)) true (decide_eq_true hc1)<|wt<|ws fun K5 hK5=>wr [(0,0)]<|gb0 [0] [(4,vI 2)]<|gn hK5 ?_
  have hS7:=hS4.p [0,2] rfl
  obtain rfl:=si h
  exact we_ret (pr0 [.tmp 4] [vI 2] ⟨rfl,hS7⟩)
 rw [if_neg hc1] at h
 refine wk 16 (decide ((IntKind.i64.wrap (sp1_0-1))<0)) false (decide_eq_false hc1)<|wf<|we_skip fun a hF=>hK3 _ _ ?_ a hF
 refine ws fun K6 hK6=>ws fun K7 hK7=>we_draws (by kernel_rfl) [(0,0),(1,0),(3,0),(4,0),(5,0),(2,1),(6,0)] (by kernel_rfl) ?_
 have hS8:=hS4.drew
 refine gb [0,1,3,4,5] [(22,vI (l0_2.length:Int)),(21,.slice A0_2 l0_2.length c0_2),(20,pP b1 2),(18,vI x0_0),(17,pP b1 0)] [ld b1 0 (vI x0_0),ld b1 2 (.slice A0_2 l0_2.length c0_2)] ⟨hS8.c 1,hS8.c 1,trivial⟩<|ge_call (d:=some 19) (f:=95) (args:=#[vI x0_0]) (by kernel_rfl) (tongue_arity_ok x0_0 _ _ rfl) ?_
 rintro _ w3 ⟨rfl,hS9⟩
 refine ⟨_,rfl,hS9.below,?_⟩
 have hS10:=hS8.call hS9
 refine gb0 [6] [(23,.bool ((tongue_arity.f x0_0) != (l0_2.length:Int)))]<|gn hK7 ?_
 by_cases hc2:(tongue_arity.f x0_0)=(l0_2.length:Int)
 ·rw [if_pos hc2] at h
  refine wk 23 ((tongue_arity.f x0_0) != (l0_2.length:Int)) false (bne_eq_false_iff_eq.2 hc2)<|wf<|we_skip fun a hF=>hK6 _ _ ?_ a hF
  refine ws fun K8 hK8=>?_
  rcases hq4:tongue_expr.p0 x0_0 x0_1 sp1_0 with _ | (_ | rr4)
  ·rw [hq4] at h; cases h
  ·rw [hq4] at h
   simp only [] at h
   refine kp (tongue_expr_p0 K w0 Z x0_0 x0_1 l0_2 A0_2 c0_2 bp1 sp1_0 LT hZ hR0_2 hL0_2 rec_tongue_expr hr_tongue_expr b1 hc1 hc2 _ hq4 _ hS10 _ ?_)
   rintro _ a w6 ⟨rfl,hS70,hF⟩
   replace hS70:St w0 w6 [bk bp1 #[vI (IntKind.i64.wrap (sp1_0-1))] 3,bk b1 #[vI x0_0,vI x0_1,.slice A0_2 l0_2.length c0_2] 66,Own.all LT]:=hS70
   refine hK8 [(1,pP bp1 0),(2,pP b1 0)] w6 ?_ a hF
   refine ws fun K15 hK15=>ws fun K16 hK16=>wr [(0,0),(1,0),(2,0),(3,0)]<|gb [0,1,2,3] [(75,vI 0),(74,vI (l0_2.length:Int)),(73,.slice A0_2 l0_2.length c0_2),(72,pP b1 2)] [ld b1 2 (.slice A0_2 l0_2.length c0_2)] ⟨hS70.c 1,trivial⟩<|gn hK16<|we_block ?_
   have hS73:=hS70.p [0,2] rfl
   rcases hq6:iter (tongue_expr.r3 l0_2 rec_tongue_expr) K (0,IntKind.i64.wrap (sp1_0-1)) with _ | (z3 | rr3)
   ·rw [hq6] at h; cases h
   ·rw [hq6] at h
    simp only [] at h
    refine we_iter (A:=tongue_expr.A3 w0 l0_2 A0_2 c0_2 bp1 LT) (B:=tongue_expr.B3 w0 Z x0_0 x0_1 l0_2 A0_2 c0_2 bp1 sp1_0 LT) hq6 (fun a hF=>⟨hS73,hF.weaken ea⟩) (fun s o hf a w hA Q hQ=>tongue_expr_r3 K w0 Z x0_0 x0_1 l0_2 A0_2 c0_2 bp1 sp1_0 LT hZ hR0_2 hL0_2 rec_tongue_expr hr_tongue_expr b1 hc1 hc2 s o hf a w hA Q hQ) ?_
    rintro _ a w10 _ ⟨rfl,hS89,hF⟩
    replace hS89:St w0 w10 [bk bp1 #[vI z3] 3,Own.all LT]:=hS89
    refine hK15 [(1,pP bp1 0)] w10 ?_ a hF
    refine ws fun K24 hK24=>wr [(0,0)]<|gb0 [0] [(4,vI 0)]<|gn hK24 ?_
    have hS91:=(hS89.b 1).b 1
    obtain rfl:=si h
    exact we_ret (pr0 [.tmp 4] [vI 0] ⟨rfl,hS91⟩)
   rw [hq6] at h
   simp only [] at h
   refine we_iter (A:=tongue_expr.A3 w0 l0_2 A0_2 c0_2 bp1 LT) (B:=tongue_expr.B3 w0 Z x0_0 x0_1 l0_2 A0_2 c0_2 bp1 sp1_0 LT) hq6 (fun a hF=>⟨hS73,hF.weaken ea⟩) (fun s o hf a w hA Q hQ=>tongue_expr_r3 K w0 Z x0_0 x0_1 l0_2 A0_2 c0_2 bp1 sp1_0 LT hZ hR0_2 hL0_2 rec_tongue_expr hr_tongue_expr b1 hc1 hc2 s o hf a w hA Q hQ) ?_
   rintro _ a w1 _ ⟨rfl,hb⟩
   obtain rfl:=si h
   exact hb
  rw [hq4] at h
  simp only [] at h
  refine kp (tongue_expr_p0 K w0 Z x0_0 x0_1 l0_2 A0_2 c0_2 bp1 sp1_0 LT hZ hR0_2 hL0_2 rec_tongue_expr hr_tongue_expr b1 hc1 hc2 _ hq4 _ hS10 _ ?_)
  rintro _ a w1 ⟨_,rfl,hb⟩
  obtain rfl:=si h
  exact hb
 rw [if_neg hc2] at h
 refine wk 23 ((tongue_arity.f x0_0) != (l0_2.length:Int)) true (bne_iff_ne.2 hc2)<|wt<|ws fun K25 hK25=>wr [(0,0)]<|gb0 [0] [(4,vI 6)]<|gn hK25 ?_
 have hS94:=hS10.p [0,2] rfl
 obtain rfl:=si h
 exact we_ret (pr0 [.tmp 4] [vI 6] ⟨rfl,hS94⟩)
def tongue_expr.recs (K : Nat) : Nat → (Int → Int → (List SExpr) → Int → Option (Int × Int))
 | 0=>fun _ _ _ _=>none
 | n+1=>tongue_expr.b K (tongue_expr.recs K n)
theorem tongue_expr_all (K n:Nat):tongue_expr.Rec (tongue_expr.recs K n):=by
 induction n with
 | zero=>exact (by unfold tongue_expr.Rec; intros; rename_i h; cases (show none=some _ from h))
 | succ n ih=>exact tongue_expr_step K _ ih
def tongue_expr.f (K : Nat) (x0_0 : Int) (x0_1 : Int) (l0_2 : List SExpr) (sp1_0 : Int) : Option (Int × Int) := (tongue_expr.recs K K) x0_0 x0_1 l0_2 sp1_0
theorem tongue_expr_ok (K:Nat) (Z:Zone) (x0_0 x0_1:Int) (l0_2:List SExpr) (A0_2:OA) (c0_2 bp1:Nat) (sp1_0:Int) (w0 wE:World) (LT:List Own) (hS:St w0 wE [bk bp1 #[vI sp1_0] 3,Own.all LT]) (hZ:∀ w L,St w0 w (Own.all LT::L)→∀ w',Sub w w'→Z w') (hR0_2:RdZ Z A0_2 l0_2) (hL0_2:l0_2.length≤c0_2) (r:Int×Int) (h:tongue_expr.f K x0_0 x0_1 l0_2 sp1_0=some r):Calls Try.prog 94 #[.agg #[vI x0_0,vI x0_1,.slice A0_2 l0_2.length c0_2],pP bp1 0] wE (tongue_expr.Post w0 Z x0_0 x0_1 l0_2 A0_2 c0_2 bp1 sp1_0 LT r):=(tongue_expr_all K K) Z x0_0 x0_1 l0_2 A0_2 c0_2 bp1 sp1_0 w0 wE LT hS hZ hR0_2 hL0_2 r h

/-! (*punctual/tongue.checker).part -/
abbrev tc_part.Post (w0:World) (Z:Zone) (bp0:Nat) (sp0_0 sp0_1 sp0_2:Int) (sp0_3 sp0_4 sp0_5 sp0_6:Bool) (l1:List SExpr) (A1:OA) (c1:Nat) (LT:List Own) (r:Bool×Int×Int) (e:Ending) (w:World):Prop:=e=.returned (.bool r.1)∧St w0 w [bk bp0 #[vI sp0_0,vI r.2.1,vI r.2.2,.bool sp0_3,.bool sp0_4,.bool sp0_5,.bool sp0_6] 107,Own.all LT]
def tc_part.r0 (K : Nat) (sp0_0 : Int) (sp0_1 : Int) (sp0_2 : Int) (sp0_3 : Bool) (sp0_4 : Bool) (sp0_5 : Bool) (sp0_6 : Bool) (l1 : List SExpr) : Nat → Option (Nat ⊕ (Unit ⊕ (Bool × Int × Int)))
 | i1 =>
  if (i1:Int)<(l1.length:Int) then
   match l1[i1]? with
   | none=>none
   | some e1 =>
    match tongue_expr.f K e1.Kind e1.N e1.A 30 with
    | none=>none
    | some r1 =>
     if r1.1=0 then
      some (.inl (i1+1))
     else
      some (.inr (.inr ((tc_say.f sp0_0 sp0_1 sp0_2 sp0_3 sp0_4 sp0_5 sp0_6 r1.1).1,(tc_say.f sp0_0 sp0_1 sp0_2 sp0_3 sp0_4 sp0_5 sp0_6 r1.1).2.1,(tc_say.f sp0_0 sp0_1 sp0_2 sp0_3 sp0_4 sp0_5 sp0_6 r1.1).2.2)))
  else
   some (.inr (.inl ()))
def tc_part.f (K : Nat) (sp0_0 : Int) (sp0_1 : Int) (sp0_2 : Int) (sp0_3 : Bool) (sp0_4 : Bool) (sp0_5 : Bool) (sp0_6 : Bool) (l1 : List SExpr) : Option (Bool × Int × Int) :=
 match iter (tc_part.r0 K sp0_0 sp0_1 sp0_2 sp0_3 sp0_4 sp0_5 sp0_6 l1) K 0 with
 | none=>none
 | some (.inl _) =>
  some (true,sp0_1,sp0_2)
 | some (.inr rr1) =>
  some rr1
abbrev tc_part.A0 (w0:World) (bp0:Nat) (sp0_0 sp0_1 sp0_2:Int) (sp0_3 sp0_4 sp0_5 sp0_6:Bool) (l1:List SExpr) (A1:OA) (c1:Nat) (LT:List Own):Nat→Act→World→Prop:=fun (s:Nat) a w=>St w0 w [bk bp0 #[vI sp0_0,vI sp0_1,vI sp0_2,.bool sp0_3,.bool sp0_4,.bool sp0_5,.bool sp0_6] 107,Own.all LT]∧Frm 23 a [(0,pP bp0 0),(9,.slice A1 l1.length c1),(10,vI (l1.length:Int)),(11,vI (s:Int))]
abbrev tc_part.B0 (w0:World) (Z:Zone) (bp0:Nat) (sp0_0 sp0_1 sp0_2:Int) (sp0_3 sp0_4 sp0_5 sp0_6:Bool) (l1:List SExpr) (A1:OA) (c1:Nat) (LT:List Own):(Unit ⊕ (Bool×Int×Int))→Exit→Act→World→Prop:=Exits 0 (fun (s:Unit) a w=>St w0 w [bk bp0 #[vI sp0_0,vI sp0_1,vI sp0_2,.bool sp0_3,.bool sp0_4,.bool sp0_5,.bool sp0_6] 107,Own.all LT]∧Frm 23 a [(0,pP bp0 0)]) (Rets Try.prog Try.f92 (tc_part.Post w0 Z bp0 sp0_0 sp0_1 sp0_2 sp0_3 sp0_4 sp0_5 sp0_6 l1 A1 c1 LT))
theorem tc_part_r0 (K:Nat) (w0:World) (Z:Zone) (bp0:Nat) (sp0_0 sp0_1 sp0_2:Int) (sp0_3 sp0_4 sp0_5 sp0_6:Bool) (l1:List SExpr) (A1:OA) (c1:Nat) (LT:List Own) (hZ:∀ w L,St w0 w (Own.all LT::L)→∀ w',Sub w w'→Z w') (hR1:RdZ Z A1 l1) (hL1:l1.length≤c1) (s:Nat) (o:Nat ⊕ (Unit ⊕ (Bool×Int×Int))) (h:tc_part.r0 K sp0_0 sp0_1 sp0_2 sp0_3 sp0_4 sp0_5 sp0_6 l1 s=some o) (a:Act) (w:World) (hA:tc_part.A0 w0 bp0 sp0_0 sp0_1 sp0_2 sp0_3 sp0_4 sp0_5 sp0_6 l1 A1 c1 LT s a w) (Q:Exit→Act→World→Prop) (hQ:∀ x a w,Outs (tc_part.A0 w0 bp0 sp0_0 sp0_1 sp0_2 sp0_3 sp0_4 sp0_5 sp0_6 l1 A1 c1 LT) (tc_part.B0 w0 Z bp0 sp0_0 sp0_1 sp0_2 sp0_3 sp0_4 sp0_5 sp0_6 l1 A1 c1 LT) o x a w→Q x a w):(subF Try.f92 [1,0,1,0,0]).wp Try.prog Q a w:=by
 obtain ⟨i1,hs⟩:∃ z,z=s:=⟨s,rfl⟩
 subst hs
 obtain ⟨hS,hF⟩:=hA
 replace hS:St w0 w [bk bp0 #[vI sp0_0,vI sp0_1,vI sp0_2,.bool sp0_3,.bool sp0_4,.bool sp0_5,.bool sp0_6] 107,Own.all LT]:=hS
 simp only [tc_part.r0] at h
 refine (?_:WE Try.prog 23 (subF Try.f92 [1,0,1,0,0]) Q [(0,pP bp0 0),(9,.slice A1 l1.length c1),(10,vI (l1.length:Int)),(11,vI (i1:Int))] w) a hF
 clear hF a
 refine ws fun K4 hK4=>wr [(0,0)]<|gb0 [0] [(12,.bool (decide ((i1:Int)<(l1.length:Int))))]<|gn hK4<|ws fun K5 hK5=>?_
 by_cases hc1:(i1:Int)<(l1.length:Int)
 ·rw [if_pos hc1] at h
  refine wk 12 (decide ((i1:Int)<(l1.length:Int))) true (decide_eq_true hc1)<|wt<|we_skip fun a hF=>hK5 _ _ ?_ a hF
  refine ws fun K6 hK6=>we_block<|ws fun K7 hK7=>wr [(0,0),(1,0),(2,1),(3,2)] ?_
  rcases hx1:l1[i1]? with _ | e1
  ·rw [hx1] at h; cases h
  rw [hx1] at h
  simp only [] at h
  obtain ⟨An1,cn1,hCs1,hLn1,hRn1⟩:=SExpr.getZ hR1 hx1
  refine gi 13 0 64 66 3 l1.length c1 (.tmp 9) (.tmp 11) A1 .i64 (i1:Int) i1 (hR1.eqSome (hZ _ _ (hS.bring 1 rfl) _ (Sub.refl _)) (pos_of_get hx1)) rfl (lt_of_get hx1) ?_
  refine gb [1] [(14,.agg #[vI e1.Kind,vI e1.N,.slice An1 e1.A.length cn1])] [.loaded ⟨blkOf A1,offOf A1+i1*3,none⟩ (vI e1.Kind),.loaded ⟨blkOf A1,offOf A1+i1*3+1,none⟩ (vI e1.N),.loaded ⟨blkOf A1,offOf A1+i1*3+2,none⟩ (.slice An1 e1.A.length cn1)] ⟨hCs1 _ (hZ _ _ (hS.bring 1 rfl) _ (Sub.refl _)) 0 _ rfl,hCs1 _ (hZ _ _ (hS.bring 1 rfl) _ (Sub.refl _)) 1 _ rfl,hCs1 _ (hZ _ _ (hS.bring 1 rfl) _ (Sub.refl _)) 2 _ rfl,trivial⟩<|gw (some 6) (.cells #[vI 0,vI 0,.slice none 0 0] 66) (fun b=>pP b 0) hS fun b1 w1 hx2 hS3=>?_
  refine gs b1 0 #[vI 0,vI 0,.slice none 0 0] 66 [vI e1.Kind,vI e1.N,.slice An1 e1.A.length cn1] hS3 fun w2 hS4=>?_
  have hS5:=hS4.nc #[vI e1.Kind,vI e1.N,.slice An1 e1.A.length cn1] (by kernel_rfl)
  refine gn hK7<|ws fun K8 hK8=>wr [(0,1),(1,2)]<|gw (some 7) (.cells #[vI 0] 3) (fun b=>pP b 0) hS5 fun b2 w3 hx3 hS6=>?_
  refine gs b2 0 #[vI 0] 3 [vI 30] hS6 fun w4 hS7=>?_
  have hS8:=hS7.nc #[vI 30] (by kernel_rfl)
  refine gn hK8<|ws fun K9 hK9=>wr [(0,0),(1,2),(2,0)]<|gb [0] [(15,.agg #[vI e1.Kind,vI e1.N,.slice An1 e1.A.length cn1])] [ld b1 0 (vI e1.Kind),ld b1 1 (vI e1.N),ld b1 2 (.slice An1 e1.A.length cn1)] ⟨hS8.c 1,hS8.c 1,hS8.c 1,trivial⟩ ?_
  rcases hq1:tongue_expr.f K e1.Kind e1.N e1.A 30 with _ | r1
  ·rw [hq1] at h; cases h
  rw [hq1] at h
  simp only [] at h
  have hS10:=hS8.packN 1
  refine ge_call2 (m:=0) (d:=some 16) (f:=94) (args:=#[.agg #[vI e1.Kind,vI e1.N,.slice An1 e1.A.length cn1],pP b2 0]) (by kernel_rfl) (tongue_expr_ok K Z e1.Kind e1.N e1.A An1 cn1 b2 30 _ _ _ hS10 (fun w L h w' k=>(hZ _ _ (h.spread.bring 2 rfl) w' k)) hRn1 hLn1 _ hq1) ?_
  rintro _ w5 ⟨rfl,hS9⟩
  refine ⟨_,rfl,?_⟩
  have hS11:=hS9.unpack [bk b2 #[vI r1.2] 3]
  refine gb0 [2] [(8,vI r1.1)]<|gn hK9<|ws fun K10 hK10=>wr [(0,0),(1,0)]<|gb0 [0,1] [(18,.bool (r1.1 != 0)),(17,vI r1.1)]<|gn hK10 ?_
  by_cases hc2:r1.1=0
  ·rw [if_pos hc2] at h
   refine wk 18 (r1.1 != 0) false (bne_eq_false_iff_eq.2 hc2)<|wf<|we_skip fun a hF=>hK6 _ _ ?_ a hF
   refine wr [(0,0),(1,0)]<|ge_addn (d:=22) (ty:=3) (x:=(.tmp 11)) (y:=(.const (vI 1))) (t:=3) (t2:=3) (k:=.i64) (m:=i1) (by kernel_rfl) (by kernel_rfl) (by kernel_rfl) (by have h0:=RdZ.small hR1 (hZ _ _ (hS11.bring 3 rfl) _ (Sub.refl _)); omega) ?_
   refine gb0 [1] [(11,vI ((i1+1:Nat):Int))] ?_
   have hS14:=hS11.p [2,3] rfl
   obtain rfl:=si h
   exact ge_nil fun a hF=>hQ _ _ _ (Outs.again ⟨hS14,hF.weaken ea⟩)
  rw [if_neg hc2] at h
  refine wk 18 (r1.1 != 0) true (bne_iff_ne.2 hc2)<|wt<|ws fun K11 hK11=>wr [(0,0),(1,0),(2,2),(3,0)]<|gb0 [0,1] [(20,vI r1.1),(19,pP bp0 0)] ?_
  have hS17:=(hS11.b 2).packN 1
  refine ge_call2 (m:=0) (d:=some 21) (f:=89) (args:=#[pP bp0 0,vI r1.1]) (by kernel_rfl) (tc_say_ok bp0 sp0_0 sp0_1 sp0_2 sp0_3 sp0_4 sp0_5 sp0_6 r1.1 _ _ _ hS17 _ rfl) ?_
  rintro _ w6 ⟨rfl,hS16⟩
  refine ⟨_,rfl,?_⟩
  have hS18:=hS16.unpack [bk bp0 #[vI sp0_0,vI ((tc_say.f sp0_0 sp0_1 sp0_2 sp0_3 sp0_4 sp0_5 sp0_6 r1.1).2.1),vI ((tc_say.f sp0_0 sp0_1 sp0_2 sp0_3 sp0_4 sp0_5 sp0_6 r1.1).2.2),.bool sp0_3,.bool sp0_4,.bool sp0_5,.bool sp0_6] 107]
  refine gb0 [3] [(4,.bool ((tc_say.f sp0_0 sp0_1 sp0_2 sp0_3 sp0_4 sp0_5 sp0_6 r1.1).1))]<|gn hK11 ?_
  have hS21:=hS18.p [0,3] rfl
  obtain rfl:=si h
  exact we_ret fun a hF=>hQ _ _ _ (Outs.out nofun (Exits.on ⟨rfl,(pr0 [.tmp 4] [.bool ((tc_say.f sp0_0 sp0_1 sp0_2 sp0_3 sp0_4 sp0_5 sp0_6 r1.1).1)] ⟨rfl,hS21⟩) a hF⟩))
 rw [if_neg hc1] at h
 refine wk 12 (decide ((i1:Int)<(l1.length:Int))) false (decide_eq_false hc1)<|wf ?_
 have hS23:=(hS.b 1).b 1
 obtain rfl:=si h
 exact we_exit fun a hF=>hQ _ _ _ (Outs.out nofun (Exits.here ⟨hS23,hF.weaken ea⟩))
theorem tc_part_ok (K:Nat) (Z:Zone) (bp0:Nat) (sp0_0 sp0_1 sp0_2:Int) (sp0_3 sp0_4 sp0_5 sp0_6:Bool) (l1:List SExpr) (A1:OA) (c1:Nat) (w0 wE:World) (LT:List Own) (hS:St w0 wE [bk bp0 #[vI sp0_0,vI sp0_1,vI sp0_2,.bool sp0_3,.bool sp0_4,.bool sp0_5,.bool sp0_6] 107,Own.all LT]) (hZ:∀ w L,St w0 w (Own.all LT::L)→∀ w',Sub w w'→Z w') (hR1:RdZ Z A1 l1) (hL1:l1.length≤c1) (r:Bool×Int×Int) (h:tc_part.f K sp0_0 sp0_1 sp0_2 sp0_3 sp0_4 sp0_5 sp0_6 l1=some r) :
  Calls Try.prog 92 #[pP bp0 0,.slice A1 l1.length c1] wE (tc_part.Post w0 Z bp0 sp0_0 sp0_1 sp0_2 sp0_3 sp0_4 sp0_5 sp0_6 l1 A1 c1 LT r):=by
 unfold tc_part.f at h
 refine calls_enter (n:=23) (args:=[pP bp0 0,.slice A1 l1.length c1]) (fn:=Try.f92) rfl rfl rfl rfl ?_
 show WE _ _ _ _ [(0,pP bp0 0),(1,.slice A1 l1.length c1)] _
 refine ws fun K1 hK1=>wr [(0,0)]<|gb0 [0] [(4,.bool false)]<|gn hK1<|ws fun K2 hK2=>ws fun K3 hK3=>wr [(0,0),(1,0),(2,0)]<|gb0 [0,1,2] [(11,vI 0),(10,vI (l1.length:Int)),(9,.slice A1 l1.length c1)]<|gn hK3<|we_block ?_
 have hS2:=(hS.b 1).b 1
 rcases hq3:iter (tc_part.r0 K sp0_0 sp0_1 sp0_2 sp0_3 sp0_4 sp0_5 sp0_6 l1) K 0 with _ | (_ | rr1)
 ·rw [hq3] at h; cases h
 ·rw [hq3] at h
  simp only [] at h
  refine we_iter (A:=tc_part.A0 w0 bp0 sp0_0 sp0_1 sp0_2 sp0_3 sp0_4 sp0_5 sp0_6 l1 A1 c1 LT) (B:=tc_part.B0 w0 Z bp0 sp0_0 sp0_1 sp0_2 sp0_3 sp0_4 sp0_5 sp0_6 l1 A1 c1 LT) hq3 (fun a hF=>⟨hS2,hF.weaken ea⟩) (fun s o hf a w hA Q hQ=>tc_part_r0 K w0 Z bp0 sp0_0 sp0_1 sp0_2 sp0_3 sp0_4 sp0_5 sp0_6 l1 A1 c1 LT hZ hR1 hL1 s o hf a w hA Q hQ) ?_
  rintro _ a w7 _ ⟨rfl,hS24,hF⟩
  replace hS24:St w0 w7 [bk bp0 #[vI sp0_0,vI sp0_1,vI sp0_2,.bool sp0_3,.bool sp0_4,.bool sp0_5,.bool sp0_6] 107,Own.all LT]:=hS24
  refine hK2 [(0,pP bp0 0)] w7 ?_ a hF
  refine ws fun K12 hK12=>wr [(0,0)]<|gb0 [0] [(4,.bool true)]<|gn hK12 ?_
  have hS26:=(hS24.b 1).b 1
  obtain rfl:=si h
  exact we_ret (pr0 [.tmp 4] [.bool true] ⟨rfl,hS26⟩)
 rw [hq3] at h
 simp only [] at h
 refine we_iter (A:=tc_part.A0 w0 bp0 sp0_0 sp0_1 sp0_2 sp0_3 sp0_4 sp0_5 sp0_6 l1 A1 c1 LT) (B:=tc_part.B0 w0 Z bp0 sp0_0 sp0_1 sp0_2 sp0_3 sp0_4 sp0_5 sp0_6 l1 A1 c1 LT) hq3 (fun a hF=>⟨hS2,hF.weaken ea⟩) (fun s o hf a w hA Q hQ=>tc_part_r0 K w0 Z bp0 sp0_0 sp0_1 sp0_2 sp0_3 sp0_4 sp0_5 sp0_6 l1 A1 c1 LT hZ hR1 hL1 s o hf a w hA Q hQ) ?_
 rintro _ a w1 _ ⟨rfl,hb⟩
 obtain rfl:=si h
 exact hb

/-! (*punctual/tongue.checker).stmt$1 -/
abbrev tc_stmt_1.Post (w0:World) (Z:Zone) (bo0 bf0:Nat) (sf0_0 sf0_1 sf0_2:Int) (sf0_3 sf0_4 sf0_5 sf0_6:Bool) (bf1:Nat) (sf1_0_0 sf1_1_0 sf1_2_0 sf1_3_0:Int) (lf1_4:List SExpr) (Af1_4:OA) (cf1_4:Nat) (sf1_5_0 sf1_6_0 sf1_7_0:Int) (lf1_8:List SExpr) (Af1_8:OA) (cf1_8:Nat) (sf1_9_0 sf1_10_0:Int) (lf1_11:List SExpr) (Af1_11:OA) (cf1_11:Nat) (lf1_12:List SStmt) (Af1_12:OA) (cf1_12:Nat) (lf1_13:List SStmt) (Af1_13:OA) (cf1_13:Nat) (LT:List Own) (r:Bool×Bool×Bool×Bool) (e:Ending) (w:World):Prop:=e=.returned (.tuple #[])∧St w0 w [bk bo0 #[pP bf0 0] 104,bk bf0 #[vI sf0_0,vI sf0_1,vI sf0_2,.bool r.1,.bool r.2.1,.bool r.2.2.1,.bool r.2.2.2] 107,bk bf1 #[vI sf1_0_0,vI sf1_1_0,vI sf1_2_0,vI sf1_3_0,.slice Af1_4 lf1_4.length cf1_4,vI sf1_5_0,vI sf1_6_0,vI sf1_7_0,.slice Af1_8 lf1_8.length cf1_8,vI sf1_9_0,vI sf1_10_0,.slice Af1_11 lf1_11.length cf1_11,.slice Af1_12 lf1_12.length cf1_12,.slice Af1_13 lf1_13.length cf1_13] 70,Own.all LT]
def tc_stmt_1.f (sf0_0 : Int) (sf0_1 : Int) (sf0_2 : Int) (sf0_3 : Bool) (sf0_4 : Bool) (sf0_5 : Bool) (sf0_6 : Bool) (sf1_0_0 : Int) (sf1_1_0 : Int) (sf1_2_0 : Int) (sf1_3_0 : Int) (lf1_4 : List SExpr) (sf1_5_0 : Int) (sf1_6_0 : Int) (sf1_7_0 : Int) (lf1_8 : List SExpr) (sf1_9_0 : Int) (sf1_10_0 : Int) (lf1_11 : List SExpr) (lf1_12 : List SStmt) (lf1_13 : List SStmt) : Option (Bool × Bool × Bool × Bool) :=
 if 0≤sf1_1_0 then
  match ([sf0_3,sf0_4,sf0_5,sf0_6]:List Bool)[(sf1_1_0).toNat]? with
  | none=>none
  | some e1 =>
   some ((((([sf0_3,sf0_4,sf0_5,sf0_6]:List Bool).set ((sf1_1_0).toNat) false)[0]?).getD false),(((([sf0_3,sf0_4,sf0_5,sf0_6]:List Bool).set ((sf1_1_0).toNat) false)[1]?).getD false),(((([sf0_3,sf0_4,sf0_5,sf0_6]:List Bool).set ((sf1_1_0).toNat) false)[2]?).getD false),(((([sf0_3,sf0_4,sf0_5,sf0_6]:List Bool).set ((sf1_1_0).toNat) false)[3]?).getD false))
 else
  none
theorem tc_stmt_1_okD (Z:Zone) (bo0 bf0:Nat) (sf0_0 sf0_1 sf0_2:Int) (sf0_3 sf0_4 sf0_5 sf0_6:Bool) (bf1:Nat) (sf1_0_0 sf1_1_0 sf1_2_0 sf1_3_0:Int) (lf1_4:List SExpr) (Af1_4:OA) (cf1_4:Nat) (sf1_5_0 sf1_6_0 sf1_7_0:Int) (lf1_8:List SExpr) (Af1_8:OA) (cf1_8:Nat) (sf1_9_0 sf1_10_0:Int) (lf1_11:List SExpr) (Af1_11:OA) (cf1_11:Nat) (lf1_12:List SStmt) (Af1_12:OA) (cf1_12:Nat) (lf1_13:List SStmt) (Af1_13:OA) (cf1_13:Nat) (w0 wE:World) (LT:List Own) (hS:St w0 wE [bk bo0 #[pP bf0 0] 104,bk bf0 #[vI sf0_0,vI sf0_1,vI sf0_2,.bool sf0_3,.bool sf0_4,.bool sf0_5,.bool sf0_6] 107,bk bf1 #[vI sf1_0_0,vI sf1_1_0,vI sf1_2_0,vI sf1_3_0,.slice Af1_4 lf1_4.length cf1_4,vI sf1_5_0,vI sf1_6_0,vI sf1_7_0,.slice Af1_8 lf1_8.length cf1_8,vI sf1_9_0,vI sf1_10_0,.slice Af1_11 lf1_11.length cf1_11,.slice Af1_12 lf1_12.length cf1_12,.slice Af1_13 lf1_13.length cf1_13] 70,Own.all LT]) (hZ:∀ w L,St w0 w (Own.all LT::L)→∀ w',Sub w w'→Z w') (hRf1_4:RdZ Z Af1_4 lf1_4) (hLf1_4:lf1_4.length≤cf1_4) (hRf1_8:RdZ Z Af1_8 lf1_8) (hLf1_8:lf1_8.length≤cf1_8) (hRf1_11:RdZ Z Af1_11 lf1_11) (hLf1_11:lf1_11.length≤cf1_11) (hRf1_12:RdZ Z Af1_12 lf1_12) (hLf1_12:lf1_12.length≤cf1_12) (hRf1_13:RdZ Z Af1_13 lf1_13) (hLf1_13:lf1_13.length≤cf1_13) (r:Bool×Bool×Bool×Bool) (h:tc_stmt_1.f sf0_0 sf0_1 sf0_2 sf0_3 sf0_4 sf0_5 sf0_6 sf1_0_0 sf1_1_0 sf1_2_0 sf1_3_0 lf1_4 sf1_5_0 sf1_6_0 sf1_7_0 lf1_8 sf1_9_0 sf1_10_0 lf1_11 lf1_12 lf1_13=some r) :
  ∀ u,CallsD Try.prog 93 #[pP bo0 0,pP bf1 0] u wE (fun e u' w'=>u'=u∧tc_stmt_1.Post w0 Z bo0 bf0 sf0_0 sf0_1 sf0_2 sf0_3 sf0_4 sf0_5 sf0_6 bf1 sf1_0_0 sf1_1_0 sf1_2_0 sf1_3_0 lf1_4 Af1_4 cf1_4 sf1_5_0 sf1_6_0 sf1_7_0 lf1_8 Af1_8 cf1_8 sf1_9_0 sf1_10_0 lf1_11 Af1_11 cf1_11 lf1_12 Af1_12 cf1_12 lf1_13 Af1_13 cf1_13 LT r e w'):=by
 intro u
 unfold tc_stmt_1.f at h
 refine callsD_enter (n:=8) (args:=[pP bo0 0,pP bf1 0]) (fn:=Try.f93) rfl rfl rfl rfl ?_
 show WE _ _ _ _ [(0,pP bo0 0),(1,pP bf1 0)] _
 refine we_orders3 (by kernel_rfl) [(0,[⟨bo0,0,none⟩],[],[]),(2,[⟨bf1,1,none⟩],[],[])] (.vals [0] (.vals [1] (.vals [2] (.vals [3] (.vals [4] (.vals [5] (.alt 6 2 .fin .nomore))))))) (by kernel_rfl) (by kernel_rfl) ?_
 have hS1:=hS.drew
 refine g3 0 [(2,pP bf0 0)] [ld bo0 0 (pP bf0 0)] ⟨hS1.c 0,trivial⟩<|g30 [1] [(3,pP bf1 1)]<|g3 2 [(4,vI sf1_1_0)] [ld bf1 1 (vI sf1_1_0)] ⟨hS1.c 2,trivial⟩<|g30 [3,4] [(6,pP bf0 3),(5,pP bf0 0)] ?_
 by_cases hc1:0≤sf1_1_0
 ·rw [if_pos hc1] at h
  rcases hx1:([sf0_3,sf0_4,sf0_5,sf0_6]:List Bool)[(sf1_1_0).toNat]? with _ | e1
  ·rw [hx1] at h; cases h
  rw [hx1] at h
  simp only [] at h
  refine go3_arrAddr (d:=7) (ty:=0) (t:=105) (len:=4) (el:=4) (b:=bf0) (o0:=3) (sz:=1) (x:=(.tmp 6)) (y:=(.tmp 4)) (k':=.i64) (j:=sf1_1_0) (jn:=((sf1_1_0).toNat)) (by kernel_rfl) (by kernel_rfl) (by kernel_rfl) (by kernel_rfl) (by kernel_rfl) (Int.toNat_of_nonneg hc1).symm (lt_of_get hx1) ?_
  refine go_alt3 (fun KK hKK=>?_) ?_
  ·have hS2:=hS1.b 1
   refine ge_setB (b:=bf0) (off:=3) (jn:=((sf1_1_0).toNat)) (nn:=4) (t:=107) (pre:=[vI sf0_0,vI sf0_1,vI sf0_2]) (post:=[]) (l:=([sf0_3,sf0_4,sf0_5,sf0_6]:List Bool)) (u:=e1) (v:=false) (cs:=#[vI sf0_0,vI sf0_1,vI sf0_2,.bool sf0_3,.bool sf0_4,.bool sf0_5,.bool sf0_6]) hS2 (by kernel_rfl) rfl rfl rfl hx1 fun w1 hS3=>?_
   have hS4:=hS3.nc #[vI sf0_0,vI sf0_1,vI sf0_2,.bool (((([sf0_3,sf0_4,sf0_5,sf0_6]:List Bool).set ((sf1_1_0).toNat) false)[0]?).getD false),.bool (((([sf0_3,sf0_4,sf0_5,sf0_6]:List Bool).set ((sf1_1_0).toNat) false)[1]?).getD false),.bool (((([sf0_3,sf0_4,sf0_5,sf0_6]:List Bool).set ((sf1_1_0).toNat) false)[2]?).getD false),.bool (((([sf0_3,sf0_4,sf0_5,sf0_6]:List Bool).set ((sf1_1_0).toNat) false)[3]?).getD false)] (by kernel_rfl)
   refine g2 hKK ?_
   have hS8:=(((hS4.b 3).b 3).b 2).b 3
   obtain rfl:=si h
   exact go_fin3 (pe0 [] [] ⟨rfl,hS8⟩)
  exact go_nomore3
 rw [if_neg hc1] at h
 cases h
end Go.Proofs.Ytcjphfmmmlgcbaa.GV
