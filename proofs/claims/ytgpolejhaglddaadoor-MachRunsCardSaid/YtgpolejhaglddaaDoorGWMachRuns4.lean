/- Walks of single functions, written by a program of this work. -/
import Derived.Test.YtgpolejhaglddaaDoorGWMachRuns3
namespace Go.Proofs.YtgpolejhaglddaaDoor.GV
open Go Go.RowKit
set_option linter.unusedVariables false
set_option linter.unusedSimpArgs false
set_option maxRecDepth 100000

/-! punctual/punctualref.ReadImage$1 -/
abbrev punctualref_ReadImage_1.Post (w0:World) (r:Bool) (e:Ending) (w:World):Prop:=e=.returned (.bool r)∧St w0 w []
def punctualref_ReadImage_1.r0 (x0 : Int) (lf_0 : List Int) (lf_1 : List SIns) (xf_2 : SIns) : Nat → Option (Nat ⊕ (Unit ⊕ Bool))
 | i1 =>
  if (i1:Int)<(lf_0.length:Int) then
   match lf_0[i1]? with
   | none=>none
   | some e1 =>
    if 0≤e1 then
     match lf_1[(e1).toNat]? with
     | none=>none
     | some e2 =>
      if e2.Op=x0 then
       if e2.A=xf_2.A then
        some (.inr (.inr true))
       else
        some (.inl (i1+1))
      else
       some (.inl (i1+1))
    else
     none
  else
   some (.inr (.inl ()))
def punctualref_ReadImage_1.f (K : Nat) (x0 : Int) (lf_0 : List Int) (lf_1 : List SIns) (xf_2 : SIns) : Option Bool :=
 match iter (punctualref_ReadImage_1.r0 x0 lf_0 lf_1 xf_2) K 0 with
 | none=>none
 | some (.inl _) =>
  some false
 | some (.inr rr1) =>
  some rr1
abbrev punctualref_ReadImage_1.A0 (w0:World) (x0:Int) (lf_0:List Int) (Af_0:Option Addr) (cf_0:Nat) (bf_1:Nat) (bf_2:Nat):Nat→Act→World→Prop:=fun (s:Nat) a w=>St w0 w []∧Frm 32 a [(0,vI x0),(2,pP bf_1 0),(3,pP bf_2 0),(8,.slice Af_0 lf_0.length cf_0),(9,vI (lf_0.length:Int)),(10,vI (s:Int))]
abbrev punctualref_ReadImage_1.B0 (w0:World):(Unit ⊕ Bool)→Exit→Act→World→Prop:=Exits 0 (fun (s:Unit) a w=>St w0 w []∧Frm 32 a []) (Rets Tryd.prog Tryd.f24 (punctualref_ReadImage_1.Post w0))
theorem punctualref_ReadImage_1_r0 (K:Nat) (w0:World) (x0:Int) (bf_0:Nat) (lf_0:List Int) (Af_0:Option Addr) (cf_0:Nat) (bf_1:Nat) (lf_1:List SIns) (Af_1:Option Addr) (cf_1:Nat) (bf_2:Nat) (xf_2:SIns) (hRf_0:RdL w0 Af_0 lf_0) (hLf_0:lf_0.length≤cf_0) (hBf_0:Glob w0 bf_0 [.slice Af_0 lf_0.length cf_0]) (hRf_1:RdL w0 Af_1 lf_1) (hLf_1:lf_1.length≤cf_1) (hBf_1:Glob w0 bf_1 [.slice Af_1 lf_1.length cf_1]) (hBf_2:Glob w0 bf_2 [vI xf_2.Op,vI xf_2.A,vI xf_2.B]) (s:Nat) (o:Nat ⊕ (Unit ⊕ Bool)) (h:punctualref_ReadImage_1.r0 x0 lf_0 lf_1 xf_2 s=some o) (a:Act) (w:World) (hA:punctualref_ReadImage_1.A0 w0 x0 lf_0 Af_0 cf_0 bf_1 bf_2 s a w) (Q:Exit→Act→World→Prop) (hQ:∀ x a w,Outs (punctualref_ReadImage_1.A0 w0 x0 lf_0 Af_0 cf_0 bf_1 bf_2) (punctualref_ReadImage_1.B0 w0) o x a w→Q x a w):(subF Tryd.f24 [1,0,1,0,0]).wp Tryd.prog Q a w:=by
 obtain ⟨i1,hs⟩:∃ z,z=s:=⟨s,rfl⟩
 subst hs
 obtain ⟨hS,hF⟩:=hA
 replace hS:St w0 w []:=hS
 simp only [punctualref_ReadImage_1.r0] at h
 refine (?_:WE Tryd.prog 32 (subF Tryd.f24 [1,0,1,0,0]) Q [(0,vI x0),(2,pP bf_1 0),(3,pP bf_2 0),(8,.slice Af_0 lf_0.length cf_0),(9,vI (lf_0.length:Int)),(10,vI (i1:Int))] w) a hF
 clear hF a
 refine ws fun K4 hK4=>wr [(0,0)]<|gb0 [0] [(11,.bool (decide ((i1:Int)<(lf_0.length:Int))))] ?_
 refine gn hK4<|ws fun K5 hK5=>?_
 by_cases hc1:(i1:Int)<(lf_0.length:Int)
 ·rw [if_pos hc1] at h
  refine wk 11 (decide ((i1:Int)<(lf_0.length:Int))) true (decide_eq_true hc1) ?_
  refine we_true (by kernel_rfl) ?_
  refine we_skip fun a hF=>hK5 _ _ ?_ a hF
  refine ws fun K6 hK6=>we_block<|ws fun K7 hK7=>wr [(0,0),(1,0),(2,0)] ?_
  rcases hx1:lf_0[i1]? with _ | e1
  ·rw [hx1] at h; cases h
  rw [hx1] at h
  simp only [] at h
  refine gi 12 0 23 3 1 lf_0.length cf_0 (.tmp 8) (.tmp 10) Af_0 .i64 (i1:Int) i1 ((hS.rd hRf_0).eqSome (pos_of_get hx1)) rfl (lt_of_get hx1) ?_
  refine gb [1,2] [(7,vI e1),(13,vI e1)] [.loaded ⟨blkOf Af_0,offOf Af_0+i1*1,none⟩ (vI e1)] ⟨RdL.cell (j:=0) (hS.rd hRf_0) hx1 rfl,trivial⟩ ?_
  refine gn hK7<|ws fun K8 hK8=>we_draws (by kernel_rfl) [(0,0),(1,0),(2,0),(3,0),(4,0),(5,0),(6,0),(7,0),(8,0),(9,0),(10,0),(11,0),(12,0),(13,0),(14,0),(15,0),(16,0)] (by kernel_rfl) ?_
  have hS1:=hS.drew
  refine gb [0,1] [(15,vI e1),(14,.slice Af_1 lf_1.length cf_1)] [.loaded ⟨bf_1,0,none⟩ (.slice Af_1 lf_1.length cf_1)] ⟨hS1.glob hBf_1 rfl,trivial⟩ ?_
  by_cases hc2:0≤e1
  ·rw [if_pos hc2] at h
   rcases hx2:lf_1[(e1).toNat]? with _ | e2
   ·rw [hx2] at h; cases h
   rw [hx2] at h
   simp only [] at h
   refine gi 16 0 22 35 3 lf_1.length cf_1 (.tmp 14) (.tmp 15) Af_1 .i64 e1 ((e1).toNat) ((hS1.rd hRf_1).eqSome (pos_of_get hx2)) (Int.toNat_of_nonneg hc2).symm (lt_of_get hx2) ?_
   refine gb [3,4,5,6,7] [(21,.bool (e2.Op==x0)),(20,.bool (e2.Op==x0)),(19,vI x0),(18,vI e2.Op),(17,.pointer (some ⟨blkOf Af_1,offOf Af_1+(e1).toNat*3,none⟩))] [.loaded ⟨blkOf Af_1,offOf Af_1+((e1).toNat)*3,none⟩ (vI e2.Op)] ⟨RdL.cell (j:=0) (hS1.rd hRf_1) hx2 rfl,trivial⟩ ?_
   by_cases hc3:e2.Op=x0
   ·rw [if_pos hc3] at h
    refine gk 21 (e2.Op==x0) true (beq_iff_eq.2 hc3) ?_
    refine gb [8,9] [(23,vI e1),(22,.slice Af_1 lf_1.length cf_1)] [.loaded ⟨bf_1,0,none⟩ (.slice Af_1 lf_1.length cf_1)] ⟨hS1.glob hBf_1 rfl,trivial⟩ ?_
    refine gi 24 0 22 35 3 lf_1.length cf_1 (.tmp 22) (.tmp 23) Af_1 .i64 e1 ((e1).toNat) ((hS1.rd hRf_1).eqSome (pos_of_get hx2)) (Int.toNat_of_nonneg hc2).symm (lt_of_get hx2) ?_
    refine gb [11,12,13,14,15,16] [(30,.bool (e2.A==xf_2.A)),(29,.bool (e2.A==xf_2.A)),(28,vI xf_2.A),(27,pP bf_2 1),(26,vI e2.A),(25,.pointer (some ⟨blkOf Af_1,offOf Af_1+(e1).toNat*3+1,none⟩))] [.loaded ⟨blkOf Af_1,offOf Af_1+((e1).toNat)*3+1,none⟩ (vI e2.A),.loaded ⟨bf_2,1,none⟩ (vI xf_2.A)] ⟨RdL.cell (j:=1) (hS1.rd hRf_1) hx2 rfl,hS1.glob hBf_2 rfl,trivial⟩ ?_
    refine gn hK8 ?_
    by_cases hc4:e2.A=xf_2.A
    ·rw [if_pos hc4] at h
     refine wk 30 (e2.A==xf_2.A) true (beq_iff_eq.2 hc4) ?_
     refine we_true (by kernel_rfl) ?_
     refine ws fun K9 hK9=>wr [(0,0)]<|gb0 [0] [(5,.bool true)] ?_
     refine gn hK9 ?_
     obtain rfl:=si h
     exact we_ret fun a hF=>hQ _ _ _ (Outs.out nofun (Exits.on ⟨rfl,(pr0 [.tmp 5] [.bool true] ⟨rfl,hS1⟩) a hF⟩))
    rw [if_neg hc4] at h
    refine wk 30 (e2.A==xf_2.A) false (beq_eq_false_iff_ne.2 hc4) ?_
    refine we_false (by kernel_rfl) ?_
    refine we_skip fun a hF=>hK6 _ _ ?_ a hF
    refine wr [(0,0),(1,0)]<|ge_addn (d:=31) (ty:=3) (x:=(.tmp 10)) (y:=(.const (vI 1))) (t:=3) (t2:=3) (k:=.i64) (m:=i1) (by kernel_rfl) (by kernel_rfl) (by kernel_rfl) (by have h0:=hRf_0.small; omega) ?_
    refine gb0 [1] [(10,vI ((i1+1:Nat):Int))] ?_
    obtain rfl:=si h
    exact ge_nil fun a hF=>hQ _ _ _ (Outs.again ⟨hS1,hF.weaken ea⟩)
   rw [if_neg hc3] at h
   refine gk 21 (e2.Op==x0) false (beq_eq_false_iff_ne.2 hc3) ?_
   refine gb0 [8,9,10,11,12,13,14,15,16] [(30,.bool false),(29,undef),(28,undef),(27,undef),(26,undef),(25,undef),(24,undef),(23,undef),(22,undef)] ?_
   refine gn hK8<|we_false (by kernel_rfl) ?_
   refine we_skip fun a hF=>hK6 _ _ ?_ a hF
   refine wr [(0,0),(1,0)]<|ge_addn (d:=31) (ty:=3) (x:=(.tmp 10)) (y:=(.const (vI 1))) (t:=3) (t2:=3) (k:=.i64) (m:=i1) (by kernel_rfl) (by kernel_rfl) (by kernel_rfl) (by have h0:=hRf_0.small; omega) ?_
   refine gb0 [1] [(10,vI ((i1+1:Nat):Int))] ?_
   obtain rfl:=si h
   exact ge_nil fun a hF=>hQ _ _ _ (Outs.again ⟨hS1,hF.weaken ea⟩)
  rw [if_neg hc2] at h
  cases h
 rw [if_neg hc1] at h
 refine wk 11 (decide ((i1:Int)<(lf_0.length:Int))) false (decide_eq_false hc1) ?_
 refine we_false (by kernel_rfl) ?_
 obtain rfl:=si h
 exact we_exit fun a hF=>hQ _ _ _ (Outs.out nofun (Exits.here ⟨hS,hF.weaken trivial⟩))
theorem punctualref_ReadImage_1_ok (K:Nat) (x0:Int) (bf_0:Nat) (lf_0:List Int) (Af_0:Option Addr) (cf_0:Nat) (bf_1:Nat) (lf_1:List SIns) (Af_1:Option Addr) (cf_1:Nat) (bf_2:Nat) (xf_2:SIns) (w0:World) (hRf_0:RdL w0 Af_0 lf_0) (hLf_0:lf_0.length≤cf_0) (hBf_0:Glob w0 bf_0 [.slice Af_0 lf_0.length cf_0]) (hRf_1:RdL w0 Af_1 lf_1) (hLf_1:lf_1.length≤cf_1) (hBf_1:Glob w0 bf_1 [.slice Af_1 lf_1.length cf_1]) (hBf_2:Glob w0 bf_2 [vI xf_2.Op,vI xf_2.A,vI xf_2.B]) (r:Bool) (h:punctualref_ReadImage_1.f K x0 lf_0 lf_1 xf_2=some r) :
  Calls Tryd.prog 24 #[vI x0,pP bf_0 0,pP bf_1 0,pP bf_2 0] w0 (punctualref_ReadImage_1.Post w0 r):=by
 have hS:=St.start w0
 unfold punctualref_ReadImage_1.f at h
 refine calls_enter (n:=32) (args:=[vI x0,pP bf_0 0,pP bf_1 0,pP bf_2 0]) (fn:=Tryd.f24) rfl rfl rfl rfl ?_
 show WE _ _ _ _ [(0,vI x0),(1,pP bf_0 0),(2,pP bf_1 0),(3,pP bf_2 0)] _
 refine ws fun K1 hK1=>wr [(0,0)]<|gb0 [0] [(5,.bool false)] ?_
 refine gn hK1<|ws fun K2 hK2=>ws fun K3 hK3=>wr [(0,0),(1,0),(2,0)]<|gb [0,1,2] [(10,vI 0),(9,vI (lf_0.length:Int)),(8,.slice Af_0 lf_0.length cf_0)] [.loaded ⟨bf_0,0,none⟩ (.slice Af_0 lf_0.length cf_0)] ⟨hS.glob hBf_0 rfl,trivial⟩ ?_
 refine gn hK3<|we_block ?_
 rcases hq1:iter (punctualref_ReadImage_1.r0 x0 lf_0 lf_1 xf_2) K 0 with _ | (_ | rr1)
 ·rw [hq1] at h; cases h
 ·rw [hq1] at h
  simp only [] at h
  refine we_iter (A:=punctualref_ReadImage_1.A0 w0 x0 lf_0 Af_0 cf_0 bf_1 bf_2) (B:=punctualref_ReadImage_1.B0 w0) hq1 (fun a hF=>⟨hS,hF.weaken ea⟩) (fun s o hf a w hA Q hQ=>punctualref_ReadImage_1_r0 K w0 x0 bf_0 lf_0 Af_0 cf_0 bf_1 lf_1 Af_1 cf_1 bf_2 xf_2 hRf_0 hLf_0 hBf_0 hRf_1 hLf_1 hBf_1 hBf_2 s o hf a w hA Q hQ) ?_
  rintro _ a w1 _ ⟨rfl,hS2,hF⟩
  replace hS2:St w0 w1 []:=hS2
  refine hK2 [] w1 ?_ a hF
  refine ws fun K10 hK10=>wr [(0,0)]<|gb0 [0] [(5,.bool false)] ?_
  refine gn hK10 ?_
  obtain rfl:=si h
  exact we_ret (pr0 [.tmp 5] [.bool false] ⟨rfl,hS2⟩)
 rw [hq1] at h
 simp only [] at h
 refine we_iter (A:=punctualref_ReadImage_1.A0 w0 x0 lf_0 Af_0 cf_0 bf_1 bf_2) (B:=punctualref_ReadImage_1.B0 w0) hq1 (fun a hF=>⟨hS,hF.weaken ea⟩) (fun s o hf a w hA Q hQ=>punctualref_ReadImage_1_r0 K w0 x0 bf_0 lf_0 Af_0 cf_0 bf_1 lf_1 Af_1 cf_1 bf_2 xf_2 hRf_0 hLf_0 hBf_0 hRf_1 hLf_1 hBf_1 hBf_2 s o hf a w hA Q hQ) ?_
 rintro _ a w1 _ ⟨rfl,hb⟩
 obtain rfl:=si h
 exact hb

structure Sregion where
 open_:Int
 close:Int
def Sregion.eqb (x y : Sregion) : Bool := ((x.open_ == y.open_) && ((x.close == y.close) && true))
instance : Ok Sregion := ⟨fun x => Ok.ok x.open_ ∧ Ok.ok x.close ∧ True⟩
instance : Flat Sregion := ⟨2, fun x => [vI x.open_, vI x.close], fun _ => rfl, fun _ => rfl, by decide⟩

structure SImage where
 L:List SIns
 Regions:List Sregion

/-! (*punctual/punctualref.Image).inner -/
abbrev punctualref_Image_inner.Post (w0:World) (r:Sregion×Bool) (e:Ending) (w:World):Prop:=e=.returned (.tuple #[.agg #[vI r.1.open_,vI r.1.close],.bool r.2])∧St w0 w []
def punctualref_Image_inner.r0 (lq_0_1 : List Sregion) (x1 : Int) : Bool × Nat × Int × Int → Option ((Bool × Nat × Int × Int) ⊕ ((Bool × Int × Int) ⊕ (Sregion × Bool)))
 | (q1,i1,z1,z2) =>
  if (i1:Int)<(lq_0_1.length:Int) then
   match lq_0_1[i1]? with
   | none=>none
   | some e1 =>
    if e1.open_<x1 then
     if x1≤e1.close then
      if q1=true then
       if e1.open_ > z1 then
        some (.inl (true,(i1+1),e1.open_,e1.close))
       else
        some (.inl (q1,(i1+1),z1,z2))
      else
       some (.inl (true,(i1+1),e1.open_,e1.close))
     else
      some (.inl (q1,(i1+1),z1,z2))
    else
     some (.inl (q1,(i1+1),z1,z2))
  else
   some (.inr (.inl (q1,z1,z2)))
def punctualref_Image_inner.f (K : Nat) (lq_0_0 : List SIns) (lq_0_1 : List Sregion) (x1 : Int) : Option (Sregion × Bool) :=
 match iter (punctualref_Image_inner.r0 lq_0_1 x1) K (false,0,0,0) with
 | none=>none
 | some (.inl (q3,z5,z6)) =>
  some ((⟨z5,z6⟩:Sregion),q3)
 | some (.inr rr1) =>
  some rr1
abbrev punctualref_Image_inner.A0 (w0:World) (lq_0_1:List Sregion) (Aq_0_1:Option Addr) (cq_0_1:Nat) (x1:Int) (b1:Nat) (b2:Nat):(Bool×Nat×Int×Int)→Act→World→Prop:=fun (s:Bool×Nat×Int×Int) a w=>St w0 w [Own.blk b2 (.cells #[vI s.2.2.1,vI s.2.2.2] 73 (0,0)),Own.blk b1 (.cells #[vI 0,vI 0] 73 (0,0))]∧Frm 45 a [(1,vI x1),(4,pP b1 0),(6,pP b2 0),(7,.bool s.1),(14,.slice Aq_0_1 lq_0_1.length cq_0_1),(15,vI (lq_0_1.length:Int)),(16,vI (s.2.1:Int))]
abbrev punctualref_Image_inner.B0 (w0:World) (b1:Nat) (b2:Nat):((Bool×Int×Int) ⊕ (Sregion×Bool))→Exit→Act→World→Prop:=Exits 0 (fun (s:Bool×Int×Int) a w=>St w0 w [Own.blk b2 (.cells #[vI s.2.1,vI s.2.2] 73 (0,0)),Own.blk b1 (.cells #[vI 0,vI 0] 73 (0,0))]∧Frm 45 a [(4,pP b1 0),(6,pP b2 0),(7,.bool s.1)]) (Rets Tryd.prog Tryd.f25 (punctualref_Image_inner.Post w0))
theorem punctualref_Image_inner_r0 (K:Nat) (w0:World) (bq_0:Nat) (lq_0_0:List SIns) (Aq_0_0:Option Addr) (cq_0_0:Nat) (lq_0_1:List Sregion) (Aq_0_1:Option Addr) (cq_0_1:Nat) (x1:Int) (hRq_0_0:RdL w0 Aq_0_0 lq_0_0) (hLq_0_0:lq_0_0.length≤cq_0_0) (hRq_0_1:RdL w0 Aq_0_1 lq_0_1) (hLq_0_1:lq_0_1.length≤cq_0_1) (hBq_0:Glob w0 bq_0 [.slice Aq_0_0 lq_0_0.length cq_0_0,.slice Aq_0_1 lq_0_1.length cq_0_1]) (b1:Nat) (b2:Nat) (s:Bool×Nat×Int×Int) (o:(Bool×Nat×Int×Int) ⊕ ((Bool×Int×Int) ⊕ (Sregion×Bool))) (h:punctualref_Image_inner.r0 lq_0_1 x1 s=some o) (a:Act) (w:World) (hA:punctualref_Image_inner.A0 w0 lq_0_1 Aq_0_1 cq_0_1 x1 b1 b2 s a w) (Q:Exit→Act→World→Prop) (hQ:∀ x a w,Outs (punctualref_Image_inner.A0 w0 lq_0_1 Aq_0_1 cq_0_1 x1 b1 b2) (punctualref_Image_inner.B0 w0 b1 b2) o x a w→Q x a w):(subF Tryd.f25 [1,1,0,1,0,0]).wp Tryd.prog Q a w:=by
 obtain ⟨q1,i1,z1,z2⟩:=s
 obtain ⟨hS,hF⟩:=hA
 replace hS:St w0 w [Own.blk b2 (.cells #[vI z1,vI z2] 73 (0,0)),Own.blk b1 (.cells #[vI 0,vI 0] 73 (0,0))]:=hS
 simp only [punctualref_Image_inner.r0] at h
 refine (?_:WE Tryd.prog 45 (subF Tryd.f25 [1,1,0,1,0,0]) Q [(1,vI x1),(4,pP b1 0),(6,pP b2 0),(7,.bool q1),(14,.slice Aq_0_1 lq_0_1.length cq_0_1),(15,vI (lq_0_1.length:Int)),(16,vI (i1:Int))] w) a hF
 clear hF a
 refine ws fun K5 hK5=>wr [(0,0)]<|gb0 [0] [(17,.bool (decide ((i1:Int)<(lq_0_1.length:Int))))] ?_
 refine gn hK5<|ws fun K6 hK6=>?_
 by_cases hc1:(i1:Int)<(lq_0_1.length:Int)
 ·rw [if_pos hc1] at h
  refine wk 17 (decide ((i1:Int)<(lq_0_1.length:Int))) true (decide_eq_true hc1) ?_
  refine we_true (by kernel_rfl) ?_
  refine we_skip fun a hF=>hK6 _ _ ?_ a hF
  refine ws fun K7 hK7=>we_block<|ws fun K8 hK8=>wr [(0,0),(1,0),(2,1),(3,2)] ?_
  rcases hx3:lq_0_1[i1]? with _ | e1
  ·rw [hx3] at h; cases h
  rw [hx3] at h
  simp only [] at h
  refine gi 18 0 66 73 2 lq_0_1.length cq_0_1 (.tmp 14) (.tmp 16) Aq_0_1 .i64 (i1:Int) i1 ((hS.rd hRq_0_1).eqSome (pos_of_get hx3)) rfl (lt_of_get hx3) ?_
  refine gb [1] [(19,.agg #[vI e1.open_,vI e1.close])] [.loaded ⟨blkOf Aq_0_1,offOf Aq_0_1+i1*2,none⟩ (vI e1.open_),.loaded ⟨blkOf Aq_0_1,offOf Aq_0_1+i1*2+1,none⟩ (vI e1.close)] ⟨RdL.cell (j:=0) (hS.rd hRq_0_1) hx3 rfl,RdL.cell (j:=1) (hS.rd hRq_0_1) hx3 rfl,trivial⟩ ?_
  refine gw (some 9) (.cells #[vI 0,vI 0] 73) (fun b=>pP b 0) hS fun b3 w4 hx4 hS7=>?_
  refine gs b3 0 #[vI 0,vI 0] 73 [vI e1.open_,vI e1.close] hS7 fun w5 hS8=>?_
  have hS9:=hS8.nc #[vI e1.open_,vI e1.close] rfl
  refine gn hK8<|ws fun K9 hK9=>wr [(0,0),(1,0),(2,0),(3,0),(4,0),(5,0),(6,0),(7,0),(8,0),(9,0),(10,0),(11,0),(12,0),(13,0),(14,0),(15,0),(16,0),(17,0),(18,0),(19,0),(20,0)]<|gb [0,1,2,3,4] [(24,.bool (decide (e1.open_<x1))),(23,.bool (decide (e1.open_<x1))),(22,vI x1),(21,vI e1.open_),(20,pP b3 0)] [.loaded ⟨b3,0,none⟩ (vI e1.open_)] ⟨hS9.c 0,trivial⟩ ?_
  by_cases hc2:e1.open_<x1
  ·rw [if_pos hc2] at h
   refine gk 24 (decide (e1.open_<x1)) true (decide_eq_true hc2) ?_
   refine gb [5,6,7,8,9,10] [(30,.bool (decide (x1≤e1.close))),(29,.bool (decide (x1≤e1.close))),(28,.bool (decide (x1≤e1.close))),(27,vI e1.close),(26,pP b3 1),(25,vI x1)] [.loaded ⟨b3,1,none⟩ (vI e1.close)] ⟨hS9.c 0,trivial⟩ ?_
   by_cases hc3:x1≤e1.close
   ·rw [if_pos hc3] at h
    refine gk 30 (decide (x1≤e1.close)) true (decide_eq_true hc3) ?_
    refine gb0 [11,12,13] [(33,.bool (!q1)),(32,.bool (!q1)),(31,.bool q1)] ?_
    by_cases hc4:q1=true
    ·rw [if_pos hc4] at h
     refine gk 33 (!q1) false (congrArg (fun z=>!z) hc4) ?_
     refine gb [14,15,16,17,18,19,20] [(40,.bool (decide (e1.open_ > z1))),(39,.bool (decide (e1.open_ > z1))),(38,.bool (decide (e1.open_ > z1))),(37,vI z1),(36,pP b2 0),(35,vI e1.open_),(34,pP b3 0)] [.loaded ⟨b3,0,none⟩ (vI e1.open_),.loaded ⟨b2,0,none⟩ (vI z1)] ⟨hS9.c 0,hS9.c 1,trivial⟩ ?_
     refine gn hK9 ?_
     by_cases hc5:e1.open_ > z1
     ·rw [if_pos hc5] at h
      refine wk 40 (decide (e1.open_ > z1)) true (decide_eq_true hc5) ?_
      refine we_true (by kernel_rfl) ?_
      refine wr [(0,0),(1,2),(2,0)]<|gb [0] [(41,.agg #[vI e1.open_,vI e1.close])] [.loaded ⟨b3,0,none⟩ (vI e1.open_),.loaded ⟨b3,1,none⟩ (vI e1.close)] ⟨hS9.c 0,hS9.c 0,trivial⟩ ?_
      have hS10:=hS9.b 1
      refine gs b2 0 #[vI z1,vI z2] 73 [vI e1.open_,vI e1.close] hS10 fun w6 hS11=>?_
      have hS12:=hS11.nc #[vI e1.open_,vI e1.close] rfl
      refine gb0 [2] [(7,.bool true)] ?_
      refine gn hK7<|wr [(0,0),(1,0)]<|ge_addn (d:=42) (ty:=3) (x:=(.tmp 16)) (y:=(.const (vI 1))) (t:=3) (t2:=3) (k:=.i64) (m:=i1) (by kernel_rfl) (by kernel_rfl) (by kernel_rfl) (by have h0:=hRq_0_1.small; omega) ?_
      refine gb0 [1] [(16,vI ((i1+1:Nat):Int))] ?_
      have hS15:=((hS12.b 2).b 1).takeN 2
      obtain rfl:=si h
      exact ge_nil fun a hF=>hQ _ _ _ (Outs.again ⟨hS15,hF.weaken ea⟩)
     rw [if_neg hc5] at h
     refine wk 40 (decide (e1.open_ > z1)) false (decide_eq_false hc5) ?_
     refine we_false (by kernel_rfl) ?_
     refine we_skip fun a hF=>hK7 _ _ ?_ a hF
     refine wr [(0,0),(1,0)]<|ge_addn (d:=42) (ty:=3) (x:=(.tmp 16)) (y:=(.const (vI 1))) (t:=3) (t2:=3) (k:=.i64) (m:=i1) (by kernel_rfl) (by kernel_rfl) (by kernel_rfl) (by have h0:=hRq_0_1.small; omega) ?_
     refine gb0 [1] [(16,vI ((i1+1:Nat):Int))] ?_
     have hS18:=((hS9.b 2).b 2).takeN 2
     obtain rfl:=si h
     exact ge_nil fun a hF=>hQ _ _ _ (Outs.again ⟨hS18,hF.weaken ea⟩)
    rw [if_neg hc4] at h
    refine gk 33 (!q1) true (congrArg (fun z=>!z) (Bool.eq_false_iff.2 hc4)) ?_
    refine gb0 [14,15,16,17,18,19,20] [(40,.bool true),(39,.bool true),(38,undef),(37,undef),(36,undef),(35,undef),(34,undef)] ?_
    refine gn hK9<|we_true (by kernel_rfl) ?_
    refine wr [(0,0),(1,2),(2,0)]<|gb [0] [(41,.agg #[vI e1.open_,vI e1.close])] [.loaded ⟨b3,0,none⟩ (vI e1.open_),.loaded ⟨b3,1,none⟩ (vI e1.close)] ⟨hS9.c 0,hS9.c 0,trivial⟩ ?_
    have hS19:=hS9.b 1
    refine gs b2 0 #[vI z1,vI z2] 73 [vI e1.open_,vI e1.close] hS19 fun w7 hS20=>?_
    have hS21:=hS20.nc #[vI e1.open_,vI e1.close] rfl
    refine gb0 [2] [(7,.bool true)] ?_
    refine gn hK7<|wr [(0,0),(1,0)]<|ge_addn (d:=42) (ty:=3) (x:=(.tmp 16)) (y:=(.const (vI 1))) (t:=3) (t2:=3) (k:=.i64) (m:=i1) (by kernel_rfl) (by kernel_rfl) (by kernel_rfl) (by have h0:=hRq_0_1.small; omega) ?_
    refine gb0 [1] [(16,vI ((i1+1:Nat):Int))] ?_
    have hS24:=((hS21.b 2).b 1).takeN 2
    obtain rfl:=si h
    exact ge_nil fun a hF=>hQ _ _ _ (Outs.again ⟨hS24,hF.weaken ea⟩)
   rw [if_neg hc3] at h
   refine gk 30 (decide (x1≤e1.close)) false (decide_eq_false hc3) ?_
   refine gb0 [11,12,13,14,15,16,17,18,19,20] [(40,.bool false),(39,undef),(38,undef),(37,undef),(36,undef),(35,undef),(34,undef),(33,undef),(32,undef),(31,undef)] ?_
   refine gn hK9<|we_false (by kernel_rfl) ?_
   refine we_skip fun a hF=>hK7 _ _ ?_ a hF
   refine wr [(0,0),(1,0)]<|ge_addn (d:=42) (ty:=3) (x:=(.tmp 16)) (y:=(.const (vI 1))) (t:=3) (t2:=3) (k:=.i64) (m:=i1) (by kernel_rfl) (by kernel_rfl) (by kernel_rfl) (by have h0:=hRq_0_1.small; omega) ?_
   refine gb0 [1] [(16,vI ((i1+1:Nat):Int))] ?_
   have hS27:=((hS9.b 2).b 2).takeN 2
   obtain rfl:=si h
   exact ge_nil fun a hF=>hQ _ _ _ (Outs.again ⟨hS27,hF.weaken ea⟩)
  rw [if_neg hc2] at h
  refine gk 24 (decide (e1.open_<x1)) false (decide_eq_false hc2) ?_
  refine gb0 [5,6,7,8,9,10,11,12,13,14,15,16,17,18,19,20] [(40,.bool false),(39,undef),(38,undef),(37,undef),(36,undef),(35,undef),(34,undef),(33,undef),(32,undef),(31,undef),(30,.bool false),(29,.bool false),(28,undef),(27,undef),(26,undef),(25,undef)] ?_
  refine gn hK9<|we_false (by kernel_rfl) ?_
  refine we_skip fun a hF=>hK7 _ _ ?_ a hF
  refine wr [(0,0),(1,0)]<|ge_addn (d:=42) (ty:=3) (x:=(.tmp 16)) (y:=(.const (vI 1))) (t:=3) (t2:=3) (k:=.i64) (m:=i1) (by kernel_rfl) (by kernel_rfl) (by kernel_rfl) (by have h0:=hRq_0_1.small; omega) ?_
  refine gb0 [1] [(16,vI ((i1+1:Nat):Int))] ?_
  have hS30:=((hS9.b 2).b 2).takeN 2
  obtain rfl:=si h
  exact ge_nil fun a hF=>hQ _ _ _ (Outs.again ⟨hS30,hF.weaken ea⟩)
 rw [if_neg hc1] at h
 refine wk 17 (decide ((i1:Int)<(lq_0_1.length:Int))) false (decide_eq_false hc1) ?_
 refine we_false (by kernel_rfl) ?_
 have hS32:=(hS.b 1).b 1
 obtain rfl:=si h
 exact we_exit fun a hF=>hQ _ _ _ (Outs.out nofun (Exits.here ⟨hS32,hF.weaken ea⟩))
theorem punctualref_Image_inner_ok (K:Nat) (bq_0:Nat) (lq_0_0:List SIns) (Aq_0_0:Option Addr) (cq_0_0:Nat) (lq_0_1:List Sregion) (Aq_0_1:Option Addr) (cq_0_1:Nat) (x1:Int) (w0:World) (hRq_0_0:RdL w0 Aq_0_0 lq_0_0) (hLq_0_0:lq_0_0.length≤cq_0_0) (hRq_0_1:RdL w0 Aq_0_1 lq_0_1) (hLq_0_1:lq_0_1.length≤cq_0_1) (hBq_0:Glob w0 bq_0 [.slice Aq_0_0 lq_0_0.length cq_0_0,.slice Aq_0_1 lq_0_1.length cq_0_1]) (r:Sregion×Bool) (h:punctualref_Image_inner.f K lq_0_0 lq_0_1 x1=some r) :
  Calls Tryd.prog 25 #[pP bq_0 0,vI x1] w0 (punctualref_Image_inner.Post w0 r):=by
 have hS:=St.start w0
 unfold punctualref_Image_inner.f at h
 refine calls_enter (n:=45) (args:=[pP bq_0 0,vI x1]) (fn:=Tryd.f25) rfl rfl rfl rfl ?_
 show WE _ _ _ _ [(0,pP bq_0 0),(1,vI x1)] _
 refine ws fun K1 hK1=>wr [(0,1),(1,0)]<|gw (some 4) (.cells #[vI 0,vI 0] 73) (fun b=>pP b 0) hS fun b1 w1 hx1 hS1=>?_
 refine gb0 [1] [(5,.bool false)] ?_
 refine gn hK1<|ws fun K2 hK2=>wr [(0,0),(1,1),(2,2),(3,0)]<|gb0 [0] [(10,.agg #[vI 0,vI 0])] ?_
 refine gw (some 6) (.cells #[vI 0,vI 0] 73) (fun b=>pP b 0) hS1 fun b2 w2 hx2 hS2=>?_
 refine gs b2 0 #[vI 0,vI 0] 73 [vI 0,vI 0] hS2 fun w3 hS3=>?_
 have hS4:=hS3.nc #[vI 0,vI 0] rfl
 refine gb0 [3] [(7,.bool false)] ?_
 refine gn hK2<|ws fun K3 hK3=>ws fun K4 hK4=>wr [(0,0),(1,0),(2,0),(3,0),(4,0),(5,0)]<|gb [0,1,2,3,4,5] [(16,vI 0),(15,vI (lq_0_1.length:Int)),(14,.slice Aq_0_1 lq_0_1.length cq_0_1),(13,pP bq_0 1),(12,pP bq_0 0),(11,pP bq_0 0)] [.loaded ⟨bq_0,1,none⟩ (.slice Aq_0_1 lq_0_1.length cq_0_1)] ⟨hS4.glob hBq_0 rfl,trivial⟩ ?_
 refine gn hK4<|we_block ?_
 have hS6:=(hS4.b 1).b 1
 rcases hq1:iter (punctualref_Image_inner.r0 lq_0_1 x1) K (false,0,0,0) with _ | (⟨q3,z5,z6⟩ | rr1)
 ·rw [hq1] at h; cases h
 ·rw [hq1] at h
  simp only [] at h
  refine we_iter (A:=punctualref_Image_inner.A0 w0 lq_0_1 Aq_0_1 cq_0_1 x1 b1 b2) (B:=punctualref_Image_inner.B0 w0 b1 b2) hq1 (fun a hF=>⟨hS6,hF.weaken ea⟩) (fun s o hf a w hA Q hQ=>punctualref_Image_inner_r0 K w0 bq_0 lq_0_0 Aq_0_0 cq_0_0 lq_0_1 Aq_0_1 cq_0_1 x1 hRq_0_0 hLq_0_0 hRq_0_1 hLq_0_1 hBq_0 b1 b2 s o hf a w hA Q hQ) ?_
  rintro _ a w8 _ ⟨rfl,hS33,hF⟩
  replace hS33:St w0 w8 [Own.blk b2 (.cells #[vI z5,vI z6] 73 (0,0)),Own.blk b1 (.cells #[vI 0,vI 0] 73 (0,0))]:=hS33
  refine hK3 [(4,pP b1 0),(6,pP b2 0),(7,.bool q3)] w8 ?_ a hF
  refine ws fun K10 hK10=>wr [(0,0),(1,0),(2,2),(3,0)]<|gb [0,1] [(44,.bool q3),(43,.agg #[vI z5,vI z6])] [.loaded ⟨b2,0,none⟩ (vI z5),.loaded ⟨b2,1,none⟩ (vI z6)] ⟨hS33.c 0,hS33.c 0,trivial⟩ ?_
  have hS34:=hS33.b 1
  refine gs b1 0 #[vI 0,vI 0] 73 [vI z5,vI z6] hS34 fun w9 hS35=>?_
  have hS36:=hS35.nc #[vI z5,vI z6] rfl
  refine gb0 [3] [(5,.bool q3)] ?_
  refine gn hK10 ?_
  have hS37:=hS36.takeN 0
  obtain rfl:=si h
  exact we_ret (pr [.cell 4 73,.tmp 5] [.agg #[vI z5,vI z6],.bool q3] [.loaded ⟨b1,0,none⟩ (vI z5),.loaded ⟨b1,1,none⟩ (vI z6)] ⟨hS36.c 0,hS36.c 0,trivial⟩ ⟨rfl,hS37⟩)
 rw [hq1] at h
 simp only [] at h
 refine we_iter (A:=punctualref_Image_inner.A0 w0 lq_0_1 Aq_0_1 cq_0_1 x1 b1 b2) (B:=punctualref_Image_inner.B0 w0 b1 b2) hq1 (fun a hF=>⟨hS6,hF.weaken ea⟩) (fun s o hf a w hA Q hQ=>punctualref_Image_inner_r0 K w0 bq_0 lq_0_0 Aq_0_0 cq_0_0 lq_0_1 Aq_0_1 cq_0_1 x1 hRq_0_0 hLq_0_0 hRq_0_1 hLq_0_1 hBq_0 b1 b2 s o hf a w hA Q hQ) ?_
 rintro _ a w1 _ ⟨rfl,hb⟩
 obtain rfl:=si h
 exact hb

/-! punctual/punctualref.stackFault -/
abbrev punctualref_stackFault.Post (w0:World) (r:SFault) (e:Ending) (w:World):Prop:=e=.returned (.agg #[vI r.Code,vI r.At])∧St w0 w []
def punctualref_stackFault.p1 (i1 : Nat) (mp1 : List (Int × Int)) (e1 : SIns) : Option (Unit ⊕ SFault) :=
  if 0≤e1.Op then
   match ([0,0,0,1,2,2,2,2,2,0,1,0,1,0,0,0,0,0,0]:List Int)[(e1.Op).toNat]? with
   | none=>none
   | some e2 =>
    if ((mget mp1 (i1:Int)).getD 0)<e2 then
     some (.inr (punctualref_F.f 8 (i1:Int)))
    else
     match ([0,1,1,0,1,1,1,1,1,1,0,0,0,0,0,0,0,0,0]:List Int)[(e1.Op).toNat]? with
     | none=>none
     | some e3 =>
      if (IntKind.i64.wrap ((IntKind.i64.wrap (((mget mp1 (i1:Int)).getD 0)-e2))+e3)) > 20 then
       some (.inr (punctualref_F.f 8 (i1:Int)))
      else
       some (.inl ())
  else
   none
def punctualref_stackFault.p2 (e1 : SIns) : Option ((List Int) ⊕ SFault) :=
  if e1.Op=11 then
   if e1.Op=14 then
    if ([]:List Int).length<17592186044416 then
     some (.inl (([]:List Int)++[e1.B]))
    else
     none
   else
    if ([]:List Int).length<17592186044416 then
     some (.inl (([]:List Int)++[e1.A]))
    else
     none
  else
   if e1.Op=12 then
    if e1.Op=14 then
     if ([]:List Int).length<17592186044416 then
      some (.inl (([]:List Int)++[e1.B]))
     else
      none
    else
     if ([]:List Int).length<17592186044416 then
      some (.inl (([]:List Int)++[e1.A]))
     else
      none
   else
    if e1.Op=14 then
     if ([]:List Int).length<17592186044416 then
      some (.inl (([]:List Int)++[e1.B]))
     else
      none
    else
     some (.inl ([]:List Int))
def punctualref_stackFault.p3 (i1 : Nat) (e1 : SIns) (m2 : List Int) : Option ((List Int) ⊕ SFault) :=
  if e1.Op=11 then
   some (.inl m2)
  else
   if m2.length<17592186044416 then
    some (.inl (m2++[((i1+1:Nat):Int)]))
   else
    none
def punctualref_stackFault.r4 (i1 : Nat) (mp1 : List (Int × Int)) (e4 : Int) (e5 : Int) (m4 : List Int) : Nat × (List (Int × Int)) → Option ((Nat × (List (Int × Int))) ⊕ ((List (Int × Int)) ⊕ SFault))
 | (i2,mp3) =>
  if (i2:Int)<(m4.length:Int) then
   match m4[i2]? with
   | none=>none
   | some e6 =>
    if ((mget mp3 e6).isSome)=true then
     if ((mget mp3 e6).getD 0)=(IntKind.i64.wrap ((IntKind.i64.wrap (((mget mp1 (i1:Int)).getD 0)-e4))+e5)) then
      some (.inl ((i2+1),(mset mp3 e6 (IntKind.i64.wrap ((IntKind.i64.wrap (((mget mp1 (i1:Int)).getD 0)-e4))+e5)))))
     else
      some (.inr (.inr (punctualref_F.f 8 (i1:Int))))
    else
     some (.inl ((i2+1),(mset mp3 e6 (IntKind.i64.wrap ((IntKind.i64.wrap (((mget mp1 (i1:Int)).getD 0)-e4))+e5)))))
  else
   some (.inr (.inl mp3))
def punctualref_stackFault.r0 (K : Nat) (l0 : List SIns) : Nat × (List (Int × Int)) → Option ((Nat × (List (Int × Int))) ⊕ ((List (Int × Int)) ⊕ SFault))
 | (i1,mp1) =>
  if (i1:Int)<(l0.length:Int) then
   match l0[i1]? with
   | none=>none
   | some e1 =>
    if ((mget mp1 (i1:Int)).isSome)=true then
     match punctualref_stackFault.p1 i1 mp1 e1 with
     | none=>none
     | some (.inl _) =>
      if 0≤e1.Op then
       match ([0,0,0,1,2,2,2,2,2,0,1,0,1,0,0,0,0,0,0]:List Int)[(e1.Op).toNat]? with
       | none=>none
       | some e4 =>
        match ([0,1,1,0,1,1,1,1,1,1,0,0,0,0,0,0,0,0,0]:List Int)[(e1.Op).toNat]? with
        | none=>none
        | some e5 =>
         match punctualref_stackFault.p2 e1 with
         | none=>none
         | some (.inl m2) =>
          match punctualref_stackFault.p3 i1 e1 m2 with
          | none=>none
          | some (.inl m4) =>
           match iter (punctualref_stackFault.r4 i1 mp1 e4 e5 m4) K (0,mp1) with
           | none=>none
           | some (.inl mp5) =>
            some (.inl ((i1+1),mp5))
           | some (.inr rr1) =>
            some (.inr (.inr rr1))
          | some (.inr rr2) =>
           some (.inr (.inr rr2))
         | some (.inr rr3) =>
          some (.inr (.inr rr3))
      else
       none
     | some (.inr rr4) =>
      some (.inr (.inr rr4))
    else
     some (.inr (.inr (punctualref_F.f 7 (i1:Int))))
  else
   some (.inr (.inl mp1))
def punctualref_stackFault.f (K : Nat) (l0 : List SIns) : Option SFault :=
 match iter (punctualref_stackFault.r0 K l0) K (0,(mset ([]:List (Int×Int)) 0 0)) with
 | none=>none
 | some (.inl mp6) =>
  if ((mget mp6 (l0.length:Int)).getD 0)=0 then
   some (⟨0,0⟩:SFault)
  else
   some (punctualref_F.f 8 (l0.length:Int))
 | some (.inr rr5) =>
  some rr5
abbrev punctualref_stackFault.A1 (w0:World) (l0:List SIns) (A0:Option Addr) (c0:Nat) (b1:Nat) (b2:Nat) (b3:Nat) (b4:Nat) (i1:Nat) (mp1:List (Int×Int)) (e1:SIns) (b5:Nat):Unit→Act→World→Prop:=fun (s:Unit) a w=>St w0 w [Own.blk b5 (.cells #[vI e1.Op,vI e1.A,vI e1.B] 35 (0,0)),Own.blk b4 (.cells #[vI 0,vI 1,vI 1,vI 0,vI 1,vI 1,vI 1,vI 1,vI 1,vI 1,vI 0,vI 0,vI 0,vI 0,vI 0,vI 0,vI 0,vI 0,vI 0] 3 (0,0)),Own.blk b3 (.cells #[vI 0,vI 0,vI 0,vI 1,vI 2,vI 2,vI 2,vI 2,vI 2,vI 0,vI 1,vI 0,vI 1,vI 0,vI 0,vI 0,vI 0,vI 0,vI 0] 3 (0,0)),Own.blk b1 (.cells #[vI 0,vI 0] 30 (0,0)),Own.map (κ:=Int) (ν:=Int) b2 mp1]∧Frm 141 a [(0,.slice A0 l0.length c0),(2,pP b1 0),(3,.map (some b2)),(4,.slice (some ⟨b3,0,none⟩) 19 19),(5,.slice (some ⟨b4,0,none⟩) 19 19),(6,vI (i1:Int)),(7,pP b5 0),(8,vI ((mget mp1 (i1:Int)).getD 0)),(20,.slice A0 l0.length c0),(21,vI (l0.length:Int)),(22,vI (i1:Int))]
abbrev punctualref_stackFault.B1 (w0:World):SFault→Exit→Act→World→Prop:=Rets Tryd.prog Tryd.f26 (punctualref_stackFault.Post w0)
theorem punctualref_stackFault_p1 (K:Nat) (w0:World) (l0:List SIns) (A0:Option Addr) (c0:Nat) (hR0:RdL w0 A0 l0) (hL0:l0.length≤c0) (b1:Nat) (b2:Nat) (b3:Nat) (b4:Nat) (i1:Nat) (mp1:List (Int×Int)) (hc1:(i1:Int)<(l0.length:Int)) (e1:SIns) (hx5:l0[i1]?=some e1) (b5:Nat) (hc2:((mget mp1 (i1:Int)).isSome)=true) (o:Unit ⊕ SFault) (h:punctualref_stackFault.p1 i1 mp1 e1=some o) (w:World) (hS:St w0 w [Own.blk b5 (.cells #[vI e1.Op,vI e1.A,vI e1.B] 35 (0,0)),Own.blk b4 (.cells #[vI 0,vI 1,vI 1,vI 0,vI 1,vI 1,vI 1,vI 1,vI 1,vI 1,vI 0,vI 0,vI 0,vI 0,vI 0,vI 0,vI 0,vI 0,vI 0] 3 (0,0)),Own.blk b3 (.cells #[vI 0,vI 0,vI 0,vI 1,vI 2,vI 2,vI 2,vI 2,vI 2,vI 0,vI 1,vI 0,vI 1,vI 0,vI 0,vI 0,vI 0,vI 0,vI 0] 3 (0,0)),Own.blk b1 (.cells #[vI 0,vI 0] 30 (0,0)),Own.map (κ:=Int) (ν:=Int) b2 mp1]) (Q:Exit→Act→World→Prop) (hQ:∀ x a w,Outs (punctualref_stackFault.A1 w0 l0 A0 c0 b1 b2 b3 b4 i1 mp1 e1 b5) (punctualref_stackFault.B1 w0) o x a w→Q x a w):WE Tryd.prog 141 (subF Tryd.f26 [1,1,1,1,0,1,0,0,1,1,0,0,1,1,1,0]) Q [(0,.slice A0 l0.length c0),(2,pP b1 0),(3,.map (some b2)),(4,.slice (some ⟨b3,0,none⟩) 19 19),(5,.slice (some ⟨b4,0,none⟩) 19 19),(6,vI (i1:Int)),(7,pP b5 0),(8,vI ((mget mp1 (i1:Int)).getD 0)),(9,.bool ((mget mp1 (i1:Int)).isSome)),(20,.slice A0 l0.length c0),(21,vI (l0.length:Int)),(22,vI (i1:Int)),(23,.bool true),(24,vI (i1:Int)),(25,.pointer (some ⟨blkOf A0,offOf A0+i1*3,none⟩)),(26,.agg #[vI e1.Op,vI e1.A,vI e1.B]),(27,.tuple #[vI ((mget mp1 (i1:Int)).getD 0),.bool ((mget mp1 (i1:Int)).isSome)]),(28,.map (some b2)),(29,vI (i1:Int)),(30,.tuple #[vI ((mget mp1 (i1:Int)).getD 0),.bool ((mget mp1 (i1:Int)).isSome)]),(31,vI ((mget mp1 (i1:Int)).getD 0)),(32,.bool ((mget mp1 (i1:Int)).isSome)),(33,.bool ((mget mp1 (i1:Int)).isSome)),(34,.bool false)] w:=by
 simp only [punctualref_stackFault.p1] at h
 refine ws fun K15 hK15=>we_draws (by kernel_rfl) [(0,0),(1,0),(2,0),(3,0),(4,0),(5,0),(6,0),(7,0),(8,0),(9,0),(10,0),(11,0),(12,0),(13,0),(14,0),(15,0),(16,0),(17,0),(18,0),(19,0),(20,0),(21,0),(22,0)] (by kernel_rfl) ?_
 have hS14:=hS.drew
 refine gb [0,1,2,3] [(40,vI e1.Op),(39,pP b5 0),(38,.slice (some ⟨b3,0,none⟩) 19 19),(37,vI ((mget mp1 (i1:Int)).getD 0))] [.loaded ⟨b5,0,none⟩ (vI e1.Op)] ⟨hS14.c 0,trivial⟩ ?_
 by_cases hc3:0≤e1.Op
 ·rw [if_pos hc3] at h
  rcases hx7:([0,0,0,1,2,2,2,2,2,0,1,0,1,0,0,0,0,0,0]:List Int)[(e1.Op).toNat]? with _ | e2
  ·rw [hx7] at h; cases h
  rw [hx7] at h
  simp only [] at h
  refine gi 41 0 23 3 1 19 19 (.tmp 38) (.tmp 40) (some ⟨b3,0,none⟩) .i64 e1.Op ((e1.Op).toNat) ((hS14.rdBlk 2 ([0,0,0,1,2,2,2,2,2,0,1,0,1,0,0,0,0,0,0]:List Int) rfl rfl rfl).eqSome (pos_of_get hx7)) (Int.toNat_of_nonneg hc3).symm (lt_of_get hx7) ?_
  refine gb [5,6,7] [(44,.bool (decide (((mget mp1 (i1:Int)).getD 0)<e2))),(43,.bool (decide (((mget mp1 (i1:Int)).getD 0)<e2))),(42,vI e2)] [.loaded ⟨blkOf (some ⟨b3,0,none⟩),offOf (some ⟨b3,0,none⟩)+((e1.Op).toNat)*1,none⟩ (vI e2)] ⟨RdL.cell (j:=0) (hS14.rdBlk 2 ([0,0,0,1,2,2,2,2,2,0,1,0,1,0,0,0,0,0,0]:List Int) rfl rfl rfl) hx7 rfl,trivial⟩ ?_
  by_cases hc4:((mget mp1 (i1:Int)).getD 0)<e2
  ·rw [if_pos hc4] at h
   refine gk 44 (decide (((mget mp1 (i1:Int)).getD 0)<e2)) true (decide_eq_true hc4) ?_
   refine gb0 [8,9,10,11,12,13,14,15,16,17,18,19,20,21,22] [(59,.bool true),(58,undef),(57,undef),(56,undef),(55,undef),(54,undef),(53,undef),(52,undef),(51,undef),(50,undef),(49,undef),(48,undef),(47,undef),(46,undef),(45,undef)] ?_
   refine gn hK15<|we_true (by kernel_rfl) ?_
   refine ws fun K16 hK16=>wr [(0,0),(1,1),(2,2)]<|gb0 [0] [(60,vI (i1:Int))] ?_
   refine ge_call (d:=some 61) (f:=17) (args:=#[vI 8,vI (i1:Int)]) (by kernel_rfl) (punctualref_F_ok 8 (i1:Int) _ _ rfl) ?_
   rintro _ w8 ⟨rfl,hS15⟩
   refine ⟨_,rfl,hS15.below,?_⟩
   have hS17:=(hS14.call hS15).b 3
   refine gs b1 0 #[vI 0,vI 0] 30 [vI ((punctualref_F.f 8 (i1:Int)).Code),vI ((punctualref_F.f 8 (i1:Int)).At)] hS17 fun w9 hS18=>?_
   have hS19:=hS18.nc #[vI ((punctualref_F.f 8 (i1:Int)).Code),vI ((punctualref_F.f 8 (i1:Int)).At)] rfl
   refine gn hK16 ?_
   have hS20:=hS19.takeN 0
   obtain rfl:=si h
   exact we_ret fun a hF=>hQ _ _ _ (Outs.out nofun ⟨rfl,(pr [.cell 2 30] [.agg #[vI ((punctualref_F.f 8 (i1:Int)).Code),vI ((punctualref_F.f 8 (i1:Int)).At)]] [.loaded ⟨b1,0,none⟩ (vI ((punctualref_F.f 8 (i1:Int)).Code)),.loaded ⟨b1,1,none⟩ (vI ((punctualref_F.f 8 (i1:Int)).At))] ⟨hS19.c 0,hS19.c 0,trivial⟩ ⟨rfl,hS20⟩) a hF⟩)
  rw [if_neg hc4] at h
  refine gk 44 (decide (((mget mp1 (i1:Int)).getD 0)<e2)) false (decide_eq_false hc4) ?_
  refine gb [8,9,10,11] [(48,vI e1.Op),(47,pP b5 0),(46,.slice (some ⟨b3,0,none⟩) 19 19),(45,vI ((mget mp1 (i1:Int)).getD 0))] [.loaded ⟨b5,0,none⟩ (vI e1.Op)] ⟨hS14.c 0,trivial⟩ ?_
  refine gi 49 0 23 3 1 19 19 (.tmp 46) (.tmp 48) (some ⟨b3,0,none⟩) .i64 e1.Op ((e1.Op).toNat) ((hS14.rdBlk 2 ([0,0,0,1,2,2,2,2,2,0,1,0,1,0,0,0,0,0,0]:List Int) rfl rfl rfl).eqSome (pos_of_get hx7)) (Int.toNat_of_nonneg hc3).symm (lt_of_get hx7) ?_
  refine gb [13,14,15,16,17] [(54,vI e1.Op),(53,pP b5 0),(52,.slice (some ⟨b4,0,none⟩) 19 19),(51,vI (IntKind.i64.wrap (((mget mp1 (i1:Int)).getD 0)-e2))),(50,vI e2)] [.loaded ⟨blkOf (some ⟨b3,0,none⟩),offOf (some ⟨b3,0,none⟩)+((e1.Op).toNat)*1,none⟩ (vI e2),.loaded ⟨b5,0,none⟩ (vI e1.Op)] ⟨RdL.cell (j:=0) (hS14.rdBlk 2 ([0,0,0,1,2,2,2,2,2,0,1,0,1,0,0,0,0,0,0]:List Int) rfl rfl rfl) hx7 rfl,hS14.c 0,trivial⟩ ?_
  rcases hx8:([0,1,1,0,1,1,1,1,1,1,0,0,0,0,0,0,0,0,0]:List Int)[(e1.Op).toNat]? with _ | e3
  ·rw [hx8] at h; cases h
  rw [hx8] at h
  simp only [] at h
  refine gi 55 0 23 3 1 19 19 (.tmp 52) (.tmp 54) (some ⟨b4,0,none⟩) .i64 e1.Op ((e1.Op).toNat) ((hS14.rdBlk 1 ([0,1,1,0,1,1,1,1,1,1,0,0,0,0,0,0,0,0,0]:List Int) rfl rfl rfl).eqSome (pos_of_get hx8)) (Int.toNat_of_nonneg hc3).symm (lt_of_get hx8) ?_
  refine gb [19,20,21,22] [(59,.bool (decide ((IntKind.i64.wrap ((IntKind.i64.wrap (((mget mp1 (i1:Int)).getD 0)-e2))+e3)) > 20))),(58,.bool (decide ((IntKind.i64.wrap ((IntKind.i64.wrap (((mget mp1 (i1:Int)).getD 0)-e2))+e3)) > 20))),(57,vI (IntKind.i64.wrap ((IntKind.i64.wrap (((mget mp1 (i1:Int)).getD 0)-e2))+e3))),(56,vI e3)] [.loaded ⟨blkOf (some ⟨b4,0,none⟩),offOf (some ⟨b4,0,none⟩)+((e1.Op).toNat)*1,none⟩ (vI e3)] ⟨RdL.cell (j:=0) (hS14.rdBlk 1 ([0,1,1,0,1,1,1,1,1,1,0,0,0,0,0,0,0,0,0]:List Int) rfl rfl rfl) hx8 rfl,trivial⟩ ?_
  refine gn hK15 ?_
  by_cases hc5:(IntKind.i64.wrap ((IntKind.i64.wrap (((mget mp1 (i1:Int)).getD 0)-e2))+e3)) > 20
  ·rw [if_pos hc5] at h
   refine wk 59 (decide ((IntKind.i64.wrap ((IntKind.i64.wrap (((mget mp1 (i1:Int)).getD 0)-e2))+e3)) > 20)) true (decide_eq_true hc5) ?_
   refine we_true (by kernel_rfl) ?_
   refine ws fun K17 hK17=>wr [(0,0),(1,1),(2,2)]<|gb0 [0] [(60,vI (i1:Int))] ?_
   refine ge_call (d:=some 61) (f:=17) (args:=#[vI 8,vI (i1:Int)]) (by kernel_rfl) (punctualref_F_ok 8 (i1:Int) _ _ rfl) ?_
   rintro _ w10 ⟨rfl,hS21⟩
   refine ⟨_,rfl,hS21.below,?_⟩
   have hS23:=(hS14.call hS21).b 3
   refine gs b1 0 #[vI 0,vI 0] 30 [vI ((punctualref_F.f 8 (i1:Int)).Code),vI ((punctualref_F.f 8 (i1:Int)).At)] hS23 fun w11 hS24=>?_
   have hS25:=hS24.nc #[vI ((punctualref_F.f 8 (i1:Int)).Code),vI ((punctualref_F.f 8 (i1:Int)).At)] rfl
   refine gn hK17 ?_
   have hS26:=hS25.takeN 0
   obtain rfl:=si h
   exact we_ret fun a hF=>hQ _ _ _ (Outs.out nofun ⟨rfl,(pr [.cell 2 30] [.agg #[vI ((punctualref_F.f 8 (i1:Int)).Code),vI ((punctualref_F.f 8 (i1:Int)).At)]] [.loaded ⟨b1,0,none⟩ (vI ((punctualref_F.f 8 (i1:Int)).Code)),.loaded ⟨b1,1,none⟩ (vI ((punctualref_F.f 8 (i1:Int)).At))] ⟨hS25.c 0,hS25.c 0,trivial⟩ ⟨rfl,hS26⟩) a hF⟩)
  rw [if_neg hc5] at h
  refine wk 59 (decide ((IntKind.i64.wrap ((IntKind.i64.wrap (((mget mp1 (i1:Int)).getD 0)-e2))+e3)) > 20)) false (decide_eq_false hc5) ?_
  refine we_false (by kernel_rfl) ?_
  have hS31:=((((hS14.b 4).b 4).b 4).b 4).b 4
  obtain rfl:=si h
  exact we_skip fun a hF=>hQ _ _ _ (Outs.again ⟨hS31,hF.weaken ea⟩)
 rw [if_neg hc3] at h
 cases h
abbrev punctualref_stackFault.A2 (w0:World) (l0:List SIns) (A0:Option Addr) (c0:Nat) (b1:Nat) (b2:Nat) (b3:Nat) (b4:Nat) (i1:Nat) (mp1:List (Int×Int)) (e1:SIns) (b5:Nat) (e4:Int) (e5:Int):(List Int)→Act→World→Prop:=fun (s:(List Int)) a w=>∃ (v1:Value),St w0 w [Own.blk b5 (.cells #[vI e1.Op,vI e1.A,vI e1.B] 35 (0,0)),Own.blk b4 (.cells #[vI 0,vI 1,vI 1,vI 0,vI 1,vI 1,vI 1,vI 1,vI 1,vI 1,vI 0,vI 0,vI 0,vI 0,vI 0,vI 0,vI 0,vI 0,vI 0] 3 (0,0)),Own.blk b3 (.cells #[vI 0,vI 0,vI 0,vI 1,vI 2,vI 2,vI 2,vI 2,vI 2,vI 0,vI 1,vI 0,vI 1,vI 0,vI 0,vI 0,vI 0,vI 0,vI 0] 3 (0,0)),Own.blk b1 (.cells #[vI 0,vI 0] 30 (0,0)),Own.of v1 3 s,Own.map (κ:=Int) (ν:=Int) b2 mp1]∧Frm 141 a [(0,.slice A0 l0.length c0),(2,pP b1 0),(3,.map (some b2)),(4,.slice (some ⟨b3,0,none⟩) 19 19),(5,.slice (some ⟨b4,0,none⟩) 19 19),(6,vI (i1:Int)),(7,pP b5 0),(8,vI (IntKind.i64.wrap ((IntKind.i64.wrap (((mget mp1 (i1:Int)).getD 0)-e4))+e5))),(10,v1),(20,.slice A0 l0.length c0),(21,vI (l0.length:Int)),(22,vI (i1:Int))]
abbrev punctualref_stackFault.B2 (w0:World):SFault→Exit→Act→World→Prop:=Rets Tryd.prog Tryd.f26 (punctualref_stackFault.Post w0)
theorem punctualref_stackFault_p2 (K:Nat) (w0:World) (l0:List SIns) (A0:Option Addr) (c0:Nat) (hR0:RdL w0 A0 l0) (hL0:l0.length≤c0) (b1:Nat) (b2:Nat) (b3:Nat) (b4:Nat) (i1:Nat) (mp1:List (Int×Int)) (hc1:(i1:Int)<(l0.length:Int)) (e1:SIns) (hx5:l0[i1]?=some e1) (b5:Nat) (hc2:((mget mp1 (i1:Int)).isSome)=true) (hc6:0≤e1.Op) (e4:Int) (hx9:([0,0,0,1,2,2,2,2,2,0,1,0,1,0,0,0,0,0,0]:List Int)[(e1.Op).toNat]?=some e4) (e5:Int) (hx10:([0,1,1,0,1,1,1,1,1,1,0,0,0,0,0,0,0,0,0]:List Int)[(e1.Op).toNat]?=some e5) (o:(List Int) ⊕ SFault) (h:punctualref_stackFault.p2 e1=some o) (w:World) (hS:St w0 w [Own.blk b5 (.cells #[vI e1.Op,vI e1.A,vI e1.B] 35 (0,0)),Own.blk b4 (.cells #[vI 0,vI 1,vI 1,vI 0,vI 1,vI 1,vI 1,vI 1,vI 1,vI 1,vI 0,vI 0,vI 0,vI 0,vI 0,vI 0,vI 0,vI 0,vI 0] 3 (0,0)),Own.blk b3 (.cells #[vI 0,vI 0,vI 0,vI 1,vI 2,vI 2,vI 2,vI 2,vI 2,vI 0,vI 1,vI 0,vI 1,vI 0,vI 0,vI 0,vI 0,vI 0,vI 0] 3 (0,0)),Own.blk b1 (.cells #[vI 0,vI 0] 30 (0,0)),Own.map (κ:=Int) (ν:=Int) b2 mp1]) (Q:Exit→Act→World→Prop) (hQ:∀ x a w,Outs (punctualref_stackFault.A2 w0 l0 A0 c0 b1 b2 b3 b4 i1 mp1 e1 b5 e4 e5) (punctualref_stackFault.B2 w0) o x a w→Q x a w):WE Tryd.prog 141 (subF Tryd.f26 [1,1,1,1,0,1,0,0,1,1,0,0,1,1,1,1,1,1,0]) Q [(0,.slice A0 l0.length c0),(2,pP b1 0),(3,.map (some b2)),(4,.slice (some ⟨b3,0,none⟩) 19 19),(5,.slice (some ⟨b4,0,none⟩) 19 19),(6,vI (i1:Int)),(7,pP b5 0),(8,vI (IntKind.i64.wrap ((IntKind.i64.wrap (((mget mp1 (i1:Int)).getD 0)-e4))+e5))),(10,.slice none 0 0),(20,.slice A0 l0.length c0),(21,vI (l0.length:Int)),(22,vI (i1:Int)),(62,vI ((mget mp1 (i1:Int)).getD 0)),(63,.slice (some ⟨b3,0,none⟩) 19 19),(64,pP b5 0),(65,vI e1.Op),(66,.pointer (some ⟨blkOf (some ⟨b3,0,none⟩),offOf (some ⟨b3,0,none⟩)+(e1.Op).toNat*1,none⟩)),(67,vI e4),(68,vI (IntKind.i64.wrap (((mget mp1 (i1:Int)).getD 0)-e4))),(69,.slice (some ⟨b4,0,none⟩) 19 19),(70,pP b5 0),(71,vI e1.Op),(72,.pointer (some ⟨blkOf (some ⟨b4,0,none⟩),offOf (some ⟨b4,0,none⟩)+(e1.Op).toNat*1,none⟩)),(73,vI e5),(74,vI (IntKind.i64.wrap ((IntKind.i64.wrap (((mget mp1 (i1:Int)).getD 0)-e4))+e5)))] w:=by
 simp only [punctualref_stackFault.p2] at h
 refine ws fun K21 hK21=>wr [(0,0),(1,0),(2,0),(3,0),(4,0),(5,0),(6,0),(7,0),(8,0),(9,0),(10,0),(11,0),(12,0)]<|gb [0,1,2,3] [(78,.bool (e1.Op==11)),(77,.bool (e1.Op==11)),(76,vI e1.Op),(75,pP b5 0)] [.loaded ⟨b5,0,none⟩ (vI e1.Op)] ⟨hS.c 0,trivial⟩ ?_
 by_cases hc7:e1.Op=11
 ·rw [if_pos hc7] at h
  refine gk 78 (e1.Op==11) true (beq_iff_eq.2 hc7) ?_
  refine gb0 [4,5,6,7,8,9,10,11,12] [(87,.bool true),(86,undef),(85,undef),(84,undef),(83,.bool true),(82,.bool true),(81,undef),(80,undef),(79,undef)] ?_
  refine gn hK21<|we_true (by kernel_rfl) ?_
  refine ws fun K22 hK22=>wr [(0,0),(1,0),(2,0)]<|gb [0,1,2] [(11,vI e1.A),(89,vI e1.A),(88,pP b5 1)] [.loaded ⟨b5,1,none⟩ (vI e1.A)] ⟨hS.c 0,trivial⟩ ?_
  refine gn hK22<|ws fun K23 hK23=>ws fun K24 hK24=>wr [(0,0),(1,0),(2,0)]<|gb [0,1,2] [(92,.bool (e1.Op==14)),(91,vI e1.Op),(90,pP b5 0)] [.loaded ⟨b5,0,none⟩ (vI e1.Op)] ⟨hS.c 0,trivial⟩ ?_
  refine gn hK24 ?_
  by_cases hc8:e1.Op=14
  ·rw [if_pos hc8] at h
   refine wk 92 (e1.Op==14) true (beq_iff_eq.2 hc8) ?_
   refine we_true (by kernel_rfl) ?_
   refine wr [(0,0),(1,0),(2,0)]<|gb [0,1,2] [(11,vI e1.B),(94,vI e1.B),(93,pP b5 2)] [.loaded ⟨b5,2,none⟩ (vI e1.B)] ⟨hS.c 0,trivial⟩ ?_
   refine gn hK23<|wr [(0,0),(1,0),(2,1),(3,2),(4,0)]<|gb0 [0,1] [(96,vI e1.B),(95,.slice none 0 0)] ?_
   refine gw (some 97) (.cells #[vI e1.B] 3) (fun b=>.slice (some ⟨b,0,none⟩) 1 1) hS fun b6 w13 hx11 hS34=>?_
   have hS37:=((hS34.nil (α:=Int) 3).b 1).b 1
   by_cases hc9:([]:List Int).length<17592186044416
   ·rw [if_pos hc9] at h
    refine ge_append (α:=Int) (m:=0) (d:=98) (t:=23) (el:=3) (bytes:=8) (c1:=1) (b1:=b6) (x:=(.tmp 95)) (y:=(.tmp 97)) (ty:=23) (v:=(.slice none 0 0)) (z:=vI 0) (l:=([]:List Int)) (u:=e1.B) (by kernel_rfl) (by kernel_rfl) (by kernel_rfl) (by kernel_rfl) (by kernel_rfl) rfl hS37 rfl (by omega) fun v2 w14 hS38=>?_
    refine gb0 [4] [(10,v2)] ?_
    have hS44:=(((((hS38.b 5).b 1).b 5).b 5).b 5).b 5
    obtain rfl:=si h
    exact ge_nil fun a hF=>hQ _ _ _ (Outs.again ⟨v2,hS44,hF.weaken ea⟩)
   rw [if_neg hc9] at h
   cases h
  rw [if_neg hc8] at h
  refine wk 92 (e1.Op==14) false (beq_eq_false_iff_ne.2 hc8) ?_
  refine we_false (by kernel_rfl) ?_
  refine we_skip fun a hF=>hK23 _ _ ?_ a hF
  refine wr [(0,0),(1,0),(2,1),(3,2),(4,0)]<|gb0 [0,1] [(96,vI e1.A),(95,.slice none 0 0)] ?_
  refine gw (some 97) (.cells #[vI e1.A] 3) (fun b=>.slice (some ⟨b,0,none⟩) 1 1) hS fun b7 w15 hx12 hS45=>?_
  have hS48:=((hS45.nil (α:=Int) 3).b 1).b 1
  by_cases hc10:([]:List Int).length<17592186044416
  ·rw [if_pos hc10] at h
   refine ge_append (α:=Int) (m:=0) (d:=98) (t:=23) (el:=3) (bytes:=8) (c1:=1) (b1:=b7) (x:=(.tmp 95)) (y:=(.tmp 97)) (ty:=23) (v:=(.slice none 0 0)) (z:=vI 0) (l:=([]:List Int)) (u:=e1.A) (by kernel_rfl) (by kernel_rfl) (by kernel_rfl) (by kernel_rfl) (by kernel_rfl) rfl hS48 rfl (by omega) fun v3 w16 hS49=>?_
   refine gb0 [4] [(10,v3)] ?_
   have hS55:=(((((hS49.b 5).b 1).b 5).b 5).b 5).b 5
   obtain rfl:=si h
   exact ge_nil fun a hF=>hQ _ _ _ (Outs.again ⟨v3,hS55,hF.weaken ea⟩)
  rw [if_neg hc10] at h
  cases h
 rw [if_neg hc7] at h
 refine gk 78 (e1.Op==11) false (beq_eq_false_iff_ne.2 hc7) ?_
 refine gb [4,5,6,7,8] [(83,.bool (e1.Op==12)),(82,.bool (e1.Op==12)),(81,.bool (e1.Op==12)),(80,vI e1.Op),(79,pP b5 0)] [.loaded ⟨b5,0,none⟩ (vI e1.Op)] ⟨hS.c 0,trivial⟩ ?_
 by_cases hc11:e1.Op=12
 ·rw [if_pos hc11] at h
  refine gk 83 (e1.Op==12) true (beq_iff_eq.2 hc11) ?_
  refine gb0 [9,10,11,12] [(87,.bool true),(86,undef),(85,undef),(84,undef)] ?_
  refine gn hK21<|we_true (by kernel_rfl) ?_
  refine ws fun K25 hK25=>wr [(0,0),(1,0),(2,0)]<|gb [0,1,2] [(11,vI e1.A),(89,vI e1.A),(88,pP b5 1)] [.loaded ⟨b5,1,none⟩ (vI e1.A)] ⟨hS.c 0,trivial⟩ ?_
  refine gn hK25<|ws fun K26 hK26=>ws fun K27 hK27=>wr [(0,0),(1,0),(2,0)]<|gb [0,1,2] [(92,.bool (e1.Op==14)),(91,vI e1.Op),(90,pP b5 0)] [.loaded ⟨b5,0,none⟩ (vI e1.Op)] ⟨hS.c 0,trivial⟩ ?_
  refine gn hK27 ?_
  by_cases hc12:e1.Op=14
  ·rw [if_pos hc12] at h
   refine wk 92 (e1.Op==14) true (beq_iff_eq.2 hc12) ?_
   refine we_true (by kernel_rfl) ?_
   refine wr [(0,0),(1,0),(2,0)]<|gb [0,1,2] [(11,vI e1.B),(94,vI e1.B),(93,pP b5 2)] [.loaded ⟨b5,2,none⟩ (vI e1.B)] ⟨hS.c 0,trivial⟩ ?_
   refine gn hK26<|wr [(0,0),(1,0),(2,1),(3,2),(4,0)]<|gb0 [0,1] [(96,vI e1.B),(95,.slice none 0 0)] ?_
   refine gw (some 97) (.cells #[vI e1.B] 3) (fun b=>.slice (some ⟨b,0,none⟩) 1 1) hS fun b8 w17 hx13 hS56=>?_
   have hS59:=((hS56.nil (α:=Int) 3).b 1).b 1
   by_cases hc13:([]:List Int).length<17592186044416
   ·rw [if_pos hc13] at h
    refine ge_append (α:=Int) (m:=0) (d:=98) (t:=23) (el:=3) (bytes:=8) (c1:=1) (b1:=b8) (x:=(.tmp 95)) (y:=(.tmp 97)) (ty:=23) (v:=(.slice none 0 0)) (z:=vI 0) (l:=([]:List Int)) (u:=e1.B) (by kernel_rfl) (by kernel_rfl) (by kernel_rfl) (by kernel_rfl) (by kernel_rfl) rfl hS59 rfl (by omega) fun v4 w18 hS60=>?_
    refine gb0 [4] [(10,v4)] ?_
    have hS66:=(((((hS60.b 5).b 1).b 5).b 5).b 5).b 5
    obtain rfl:=si h
    exact ge_nil fun a hF=>hQ _ _ _ (Outs.again ⟨v4,hS66,hF.weaken ea⟩)
   rw [if_neg hc13] at h
   cases h
  rw [if_neg hc12] at h
  refine wk 92 (e1.Op==14) false (beq_eq_false_iff_ne.2 hc12) ?_
  refine we_false (by kernel_rfl) ?_
  refine we_skip fun a hF=>hK26 _ _ ?_ a hF
  refine wr [(0,0),(1,0),(2,1),(3,2),(4,0)]<|gb0 [0,1] [(96,vI e1.A),(95,.slice none 0 0)] ?_
  refine gw (some 97) (.cells #[vI e1.A] 3) (fun b=>.slice (some ⟨b,0,none⟩) 1 1) hS fun b9 w19 hx14 hS67=>?_
  have hS70:=((hS67.nil (α:=Int) 3).b 1).b 1
  by_cases hc14:([]:List Int).length<17592186044416
  ·rw [if_pos hc14] at h
   refine ge_append (α:=Int) (m:=0) (d:=98) (t:=23) (el:=3) (bytes:=8) (c1:=1) (b1:=b9) (x:=(.tmp 95)) (y:=(.tmp 97)) (ty:=23) (v:=(.slice none 0 0)) (z:=vI 0) (l:=([]:List Int)) (u:=e1.A) (by kernel_rfl) (by kernel_rfl) (by kernel_rfl) (by kernel_rfl) (by kernel_rfl) rfl hS70 rfl (by omega) fun v5 w20 hS71=>?_
   refine gb0 [4] [(10,v5)] ?_
   have hS77:=(((((hS71.b 5).b 1).b 5).b 5).b 5).b 5
   obtain rfl:=si h
   exact ge_nil fun a hF=>hQ _ _ _ (Outs.again ⟨v5,hS77,hF.weaken ea⟩)
  rw [if_neg hc14] at h
  cases h
 rw [if_neg hc11] at h
 refine gk 83 (e1.Op==12) false (beq_eq_false_iff_ne.2 hc11) ?_
 refine gb [9,10,11,12] [(87,.bool (e1.Op==14)),(86,.bool (e1.Op==14)),(85,vI e1.Op),(84,pP b5 0)] [.loaded ⟨b5,0,none⟩ (vI e1.Op)] ⟨hS.c 0,trivial⟩ ?_
 refine gn hK21 ?_
 by_cases hc15:e1.Op=14
 ·rw [if_pos hc15] at h
  refine wk 87 (e1.Op==14) true (beq_iff_eq.2 hc15) ?_
  refine we_true (by kernel_rfl) ?_
  refine ws fun K28 hK28=>wr [(0,0),(1,0),(2,0)]<|gb [0,1,2] [(11,vI e1.A),(89,vI e1.A),(88,pP b5 1)] [.loaded ⟨b5,1,none⟩ (vI e1.A)] ⟨hS.c 0,trivial⟩ ?_
  refine gn hK28<|ws fun K29 hK29=>ws fun K30 hK30=>wr [(0,0),(1,0),(2,0)]<|gb [0,1,2] [(92,.bool (e1.Op==14)),(91,vI e1.Op),(90,pP b5 0)] [.loaded ⟨b5,0,none⟩ (vI e1.Op)] ⟨hS.c 0,trivial⟩ ?_
  refine gn hK30<|wk 92 (e1.Op==14) true (beq_iff_eq.2 hc15) ?_
  refine we_true (by kernel_rfl) ?_
  refine wr [(0,0),(1,0),(2,0)]<|gb [0,1,2] [(11,vI e1.B),(94,vI e1.B),(93,pP b5 2)] [.loaded ⟨b5,2,none⟩ (vI e1.B)] ⟨hS.c 0,trivial⟩ ?_
  refine gn hK29<|wr [(0,0),(1,0),(2,1),(3,2),(4,0)]<|gb0 [0,1] [(96,vI e1.B),(95,.slice none 0 0)] ?_
  refine gw (some 97) (.cells #[vI e1.B] 3) (fun b=>.slice (some ⟨b,0,none⟩) 1 1) hS fun b10 w21 hx15 hS78=>?_
  have hS81:=((hS78.nil (α:=Int) 3).b 1).b 1
  by_cases hc16:([]:List Int).length<17592186044416
  ·rw [if_pos hc16] at h
   refine ge_append (α:=Int) (m:=0) (d:=98) (t:=23) (el:=3) (bytes:=8) (c1:=1) (b1:=b10) (x:=(.tmp 95)) (y:=(.tmp 97)) (ty:=23) (v:=(.slice none 0 0)) (z:=vI 0) (l:=([]:List Int)) (u:=e1.B) (by kernel_rfl) (by kernel_rfl) (by kernel_rfl) (by kernel_rfl) (by kernel_rfl) rfl hS81 rfl (by omega) fun v6 w22 hS82=>?_
   refine gb0 [4] [(10,v6)] ?_
   have hS88:=(((((hS82.b 5).b 1).b 5).b 5).b 5).b 5
   obtain rfl:=si h
   exact ge_nil fun a hF=>hQ _ _ _ (Outs.again ⟨v6,hS88,hF.weaken ea⟩)
  rw [if_neg hc16] at h
  cases h
 rw [if_neg hc15] at h
 refine wk 87 (e1.Op==14) false (beq_eq_false_iff_ne.2 hc15) ?_
 refine we_false (by kernel_rfl) ?_
 have hS95:=((((((hS.nil (α:=Int) 3).b 5).b 1).b 5).b 5).b 5).b 5
 obtain rfl:=si h
 exact we_skip fun a hF=>hQ _ _ _ (Outs.again ⟨(.slice none 0 0),hS95,hF.weaken ea⟩)
abbrev punctualref_stackFault.A3 (w0:World) (l0:List SIns) (A0:Option Addr) (c0:Nat) (b1:Nat) (b2:Nat) (b3:Nat) (b4:Nat) (i1:Nat) (mp1:List (Int×Int)) (e4:Int) (e5:Int):(List Int)→Act→World→Prop:=fun (s:(List Int)) a w=>∃ (v8:Value),St w0 w [Own.blk b4 (.cells #[vI 0,vI 1,vI 1,vI 0,vI 1,vI 1,vI 1,vI 1,vI 1,vI 1,vI 0,vI 0,vI 0,vI 0,vI 0,vI 0,vI 0,vI 0,vI 0] 3 (0,0)),Own.blk b3 (.cells #[vI 0,vI 0,vI 0,vI 1,vI 2,vI 2,vI 2,vI 2,vI 2,vI 0,vI 1,vI 0,vI 1,vI 0,vI 0,vI 0,vI 0,vI 0,vI 0] 3 (0,0)),Own.blk b1 (.cells #[vI 0,vI 0] 30 (0,0)),Own.of v8 3 s,Own.map (κ:=Int) (ν:=Int) b2 mp1]∧Frm 141 a [(0,.slice A0 l0.length c0),(2,pP b1 0),(3,.map (some b2)),(4,.slice (some ⟨b3,0,none⟩) 19 19),(5,.slice (some ⟨b4,0,none⟩) 19 19),(6,vI (i1:Int)),(8,vI (IntKind.i64.wrap ((IntKind.i64.wrap (((mget mp1 (i1:Int)).getD 0)-e4))+e5))),(10,v8),(20,.slice A0 l0.length c0),(21,vI (l0.length:Int)),(22,vI (i1:Int))]
abbrev punctualref_stackFault.B3 (w0:World):SFault→Exit→Act→World→Prop:=Rets Tryd.prog Tryd.f26 (punctualref_stackFault.Post w0)
theorem punctualref_stackFault_p3 (K:Nat) (w0:World) (l0:List SIns) (A0:Option Addr) (c0:Nat) (hR0:RdL w0 A0 l0) (hL0:l0.length≤c0) (b1:Nat) (b2:Nat) (b3:Nat) (b4:Nat) (i1:Nat) (mp1:List (Int×Int)) (hc1:(i1:Int)<(l0.length:Int)) (e1:SIns) (hx5:l0[i1]?=some e1) (b5:Nat) (hc2:((mget mp1 (i1:Int)).isSome)=true) (hc6:0≤e1.Op) (e4:Int) (hx9:([0,0,0,1,2,2,2,2,2,0,1,0,1,0,0,0,0,0,0]:List Int)[(e1.Op).toNat]?=some e4) (e5:Int) (hx10:([0,1,1,0,1,1,1,1,1,1,0,0,0,0,0,0,0,0,0]:List Int)[(e1.Op).toNat]?=some e5) (m2:List Int) (Z1:Option Addr) (cz1:Nat) (o:(List Int) ⊕ SFault) (h:punctualref_stackFault.p3 i1 e1 m2=some o) (w:World) (hS:St w0 w [Own.blk b5 (.cells #[vI e1.Op,vI e1.A,vI e1.B] 35 (0,0)),Own.blk b4 (.cells #[vI 0,vI 1,vI 1,vI 0,vI 1,vI 1,vI 1,vI 1,vI 1,vI 1,vI 0,vI 0,vI 0,vI 0,vI 0,vI 0,vI 0,vI 0,vI 0] 3 (0,0)),Own.blk b3 (.cells #[vI 0,vI 0,vI 0,vI 1,vI 2,vI 2,vI 2,vI 2,vI 2,vI 0,vI 1,vI 0,vI 1,vI 0,vI 0,vI 0,vI 0,vI 0,vI 0] 3 (0,0)),Own.blk b1 (.cells #[vI 0,vI 0] 30 (0,0)),Own.of (.slice Z1 m2.length cz1) 3 m2,Own.map (κ:=Int) (ν:=Int) b2 mp1]) (Q:Exit→Act→World→Prop) (hQ:∀ x a w,Outs (punctualref_stackFault.A3 w0 l0 A0 c0 b1 b2 b3 b4 i1 mp1 e4 e5) (punctualref_stackFault.B3 w0) o x a w→Q x a w):WE Tryd.prog 141 (subF Tryd.f26 [1,1,1,1,0,1,0,0,1,1,0,0,1,1,1,1,1,1,1,0]) Q [(0,.slice A0 l0.length c0),(2,pP b1 0),(3,.map (some b2)),(4,.slice (some ⟨b3,0,none⟩) 19 19),(5,.slice (some ⟨b4,0,none⟩) 19 19),(6,vI (i1:Int)),(7,pP b5 0),(8,vI (IntKind.i64.wrap ((IntKind.i64.wrap (((mget mp1 (i1:Int)).getD 0)-e4))+e5))),(10,(.slice Z1 m2.length cz1)),(20,.slice A0 l0.length c0),(21,vI (l0.length:Int)),(22,vI (i1:Int))] w:=by
 simp only [punctualref_stackFault.p3] at h
 refine ws fun K32 hK32=>wr [(0,0),(1,0),(2,0)]<|gb [0,1,2] [(101,.bool (e1.Op != 11)),(100,vI e1.Op),(99,pP b5 0)] [.loaded ⟨b5,0,none⟩ (vI e1.Op)] ⟨hS.c 0,trivial⟩ ?_
 refine gn hK32 ?_
 by_cases hc17:e1.Op=11
 ·rw [if_pos hc17] at h
  refine wk 101 (e1.Op != 11) false (bne_eq_false_iff_eq.2 hc17) ?_
  refine we_false (by kernel_rfl) ?_
  have hS102:=(((((hS.b 5).b 5).b 5).b 5).b 5).takeN 5
  obtain rfl:=si h
  exact we_skip fun a hF=>hQ _ _ _ (Outs.again ⟨(.slice Z1 m2.length cz1),hS102,hF.weaken ea⟩)
 rw [if_neg hc17] at h
 refine wk 101 (e1.Op != 11) true (bne_iff_ne.2 hc17) ?_
 refine we_true (by kernel_rfl) ?_
 refine wr [(0,0),(1,0),(2,0),(3,1),(4,2),(5,0)]<|gb0 [0,1] [(103,vI (i1:Int)),(102,(.slice Z1 m2.length cz1))] ?_
 refine ge_addn (d:=104) (ty:=3) (x:=(.tmp 103)) (y:=(.const (vI 1))) (t:=3) (t2:=3) (k:=.i64) (m:=i1) (by kernel_rfl) (by kernel_rfl) (by kernel_rfl) (by have h0:=hR0.small; omega) ?_
 refine gw (some 105) (.cells #[vI ((i1+1:Nat):Int)] 3) (fun b=>.slice (some ⟨b,0,none⟩) 1 1) hS fun b11 w24 hx16 hS103=>?_
 have hS104:=hS103.b 5
 by_cases hc18:m2.length<17592186044416
 ·rw [if_pos hc18] at h
  refine ge_append (α:=Int) (m:=0) (d:=106) (t:=23) (el:=3) (bytes:=8) (c1:=1) (b1:=b11) (x:=(.tmp 102)) (y:=(.tmp 105)) (ty:=23) (v:=(.slice Z1 m2.length cz1)) (z:=vI 0) (l:=m2) (u:=((i1+1:Nat):Int)) (by kernel_rfl) (by kernel_rfl) (by kernel_rfl) (by kernel_rfl) (by kernel_rfl) rfl hS104 rfl (by omega) fun v9 w25 hS105=>?_
  refine gb0 [5] [(10,v9)] ?_
  have hS111:=(((((hS105.b 5).b 1).b 5).b 5).b 5).takeN 5
  obtain rfl:=si h
  exact ge_nil fun a hF=>hQ _ _ _ (Outs.again ⟨v9,hS111,hF.weaken ea⟩)
 rw [if_neg hc18] at h
 cases h
abbrev punctualref_stackFault.A4 (w0:World) (l0:List SIns) (A0:Option Addr) (c0:Nat) (b1:Nat) (b2:Nat) (b3:Nat) (b4:Nat) (i1:Nat) (mp1:List (Int×Int)) (e4:Int) (e5:Int) (m4:List Int) (Z2:Option Addr) (cz2:Nat):(Nat×(List (Int×Int)))→Act→World→Prop:=fun (s:Nat×(List (Int×Int))) a w=>St w0 w [Own.blk b4 (.cells #[vI 0,vI 1,vI 1,vI 0,vI 1,vI 1,vI 1,vI 1,vI 1,vI 1,vI 0,vI 0,vI 0,vI 0,vI 0,vI 0,vI 0,vI 0,vI 0] 3 (0,0)),Own.blk b3 (.cells #[vI 0,vI 0,vI 0,vI 1,vI 2,vI 2,vI 2,vI 2,vI 2,vI 0,vI 1,vI 0,vI 1,vI 0,vI 0,vI 0,vI 0,vI 0,vI 0] 3 (0,0)),Own.blk b1 (.cells #[vI 0,vI 0] 30 (0,0)),Own.of (.slice Z2 m4.length cz2) 3 m4,Own.map (κ:=Int) (ν:=Int) b2 s.2]∧Frm 141 a [(0,.slice A0 l0.length c0),(2,pP b1 0),(3,.map (some b2)),(4,.slice (some ⟨b3,0,none⟩) 19 19),(5,.slice (some ⟨b4,0,none⟩) 19 19),(6,vI (i1:Int)),(8,vI (IntKind.i64.wrap ((IntKind.i64.wrap (((mget mp1 (i1:Int)).getD 0)-e4))+e5))),(20,.slice A0 l0.length c0),(21,vI (l0.length:Int)),(22,vI (i1:Int)),(107,(.slice Z2 m4.length cz2)),(108,vI (m4.length:Int)),(109,vI (s.1:Int))]
abbrev punctualref_stackFault.B4 (w0:World) (l0:List SIns) (A0:Option Addr) (c0:Nat) (b1:Nat) (b2:Nat) (b3:Nat) (b4:Nat) (i1:Nat):((List (Int×Int)) ⊕ SFault)→Exit→Act→World→Prop:=Exits 2 (fun (s:(List (Int×Int))) a w=>St w0 w [Own.blk b4 (.cells #[vI 0,vI 1,vI 1,vI 0,vI 1,vI 1,vI 1,vI 1,vI 1,vI 1,vI 0,vI 0,vI 0,vI 0,vI 0,vI 0,vI 0,vI 0,vI 0] 3 (0,0)),Own.blk b3 (.cells #[vI 0,vI 0,vI 0,vI 1,vI 2,vI 2,vI 2,vI 2,vI 2,vI 0,vI 1,vI 0,vI 1,vI 0,vI 0,vI 0,vI 0,vI 0,vI 0] 3 (0,0)),Own.blk b1 (.cells #[vI 0,vI 0] 30 (0,0)),Own.map (κ:=Int) (ν:=Int) b2 s]∧Frm 141 a [(0,.slice A0 l0.length c0),(2,pP b1 0),(3,.map (some b2)),(4,.slice (some ⟨b3,0,none⟩) 19 19),(5,.slice (some ⟨b4,0,none⟩) 19 19),(20,.slice A0 l0.length c0),(21,vI (l0.length:Int)),(22,vI (i1:Int))]) (Rets Tryd.prog Tryd.f26 (punctualref_stackFault.Post w0))
theorem punctualref_stackFault_r4 (K:Nat) (w0:World) (l0:List SIns) (A0:Option Addr) (c0:Nat) (hR0:RdL w0 A0 l0) (hL0:l0.length≤c0) (b1:Nat) (b2:Nat) (b3:Nat) (b4:Nat) (i1:Nat) (mp1:List (Int×Int)) (hc1:(i1:Int)<(l0.length:Int)) (e1:SIns) (hx5:l0[i1]?=some e1) (b5:Nat) (hc2:((mget mp1 (i1:Int)).isSome)=true) (hc6:0≤e1.Op) (e4:Int) (hx9:([0,0,0,1,2,2,2,2,2,0,1,0,1,0,0,0,0,0,0]:List Int)[(e1.Op).toNat]?=some e4) (e5:Int) (hx10:([0,1,1,0,1,1,1,1,1,1,0,0,0,0,0,0,0,0,0]:List Int)[(e1.Op).toNat]?=some e5) (m2:List Int) (Z1:Option Addr) (cz1:Nat) (m4:List Int) (Z2:Option Addr) (cz2:Nat) (s:Nat×(List (Int×Int))) (o:(Nat×(List (Int×Int))) ⊕ ((List (Int×Int)) ⊕ SFault)) (h:punctualref_stackFault.r4 i1 mp1 e4 e5 m4 s=some o) (a:Act) (w:World) (hA:punctualref_stackFault.A4 w0 l0 A0 c0 b1 b2 b3 b4 i1 mp1 e4 e5 m4 Z2 cz2 s a w) (Q:Exit→Act→World→Prop) (hQ:∀ x a w,Outs (punctualref_stackFault.A4 w0 l0 A0 c0 b1 b2 b3 b4 i1 mp1 e4 e5 m4 Z2 cz2) (punctualref_stackFault.B4 w0 l0 A0 c0 b1 b2 b3 b4 i1) o x a w→Q x a w):(subF Tryd.f26 [1,1,1,1,0,1,0,0,1,1,0,0,1,1,1,1,1,1,1,1,1,0,0]).wp Tryd.prog Q a w:=by
 obtain ⟨i2,mp3⟩:=s
 obtain ⟨hS,hF⟩:=hA
 replace hS:St w0 w [Own.blk b4 (.cells #[vI 0,vI 1,vI 1,vI 0,vI 1,vI 1,vI 1,vI 1,vI 1,vI 1,vI 0,vI 0,vI 0,vI 0,vI 0,vI 0,vI 0,vI 0,vI 0] 3 (0,0)),Own.blk b3 (.cells #[vI 0,vI 0,vI 0,vI 1,vI 2,vI 2,vI 2,vI 2,vI 2,vI 0,vI 1,vI 0,vI 1,vI 0,vI 0,vI 0,vI 0,vI 0,vI 0] 3 (0,0)),Own.blk b1 (.cells #[vI 0,vI 0] 30 (0,0)),Own.of (.slice Z2 m4.length cz2) 3 m4,Own.map (κ:=Int) (ν:=Int) b2 mp3]:=hS
 simp only [punctualref_stackFault.r4] at h
 refine (?_:WE Tryd.prog 141 (subF Tryd.f26 [1,1,1,1,0,1,0,0,1,1,0,0,1,1,1,1,1,1,1,1,1,0,0]) Q [(0,.slice A0 l0.length c0),(2,pP b1 0),(3,.map (some b2)),(4,.slice (some ⟨b3,0,none⟩) 19 19),(5,.slice (some ⟨b4,0,none⟩) 19 19),(6,vI (i1:Int)),(8,vI (IntKind.i64.wrap ((IntKind.i64.wrap (((mget mp1 (i1:Int)).getD 0)-e4))+e5))),(20,.slice A0 l0.length c0),(21,vI (l0.length:Int)),(22,vI (i1:Int)),(107,(.slice Z2 m4.length cz2)),(108,vI (m4.length:Int)),(109,vI (i2:Int))] w) a hF
 clear hF a
 refine ws fun K34 hK34=>wr [(0,0)]<|gb0 [0] [(110,.bool (decide ((i2:Int)<(m4.length:Int))))] ?_
 refine gn hK34<|ws fun K35 hK35=>?_
 by_cases hc19:(i2:Int)<(m4.length:Int)
 ·rw [if_pos hc19] at h
  refine wk 110 (decide ((i2:Int)<(m4.length:Int))) true (decide_eq_true hc19) ?_
  refine we_true (by kernel_rfl) ?_
  refine we_skip fun a hF=>hK35 _ _ ?_ a hF
  refine ws fun K36 hK36=>we_block<|ws fun K37 hK37=>wr [(0,0),(1,0),(2,0)] ?_
  rcases hx17:m4[i2]? with _ | e6
  ·rw [hx17] at h; cases h
  rw [hx17] at h
  simp only [] at h
  refine gi 111 0 23 3 1 m4.length cz2 (.tmp 107) (.tmp 109) Z2 .i64 (i2:Int) i2 ((hS.rdAt 3 rfl).eqSome (pos_of_get hx17)) rfl (lt_of_get hx17) ?_
  refine gb [1,2] [(13,vI e6),(112,vI e6)] [.loaded ⟨blkOf Z2,offOf Z2+i2*1,none⟩ (vI e6)] ⟨RdL.cell (j:=0) (hS.rdAt 3 rfl) hx17 rfl,trivial⟩ ?_
  refine gn hK37<|ws fun K38 hK38=>ws fun K39 hK39=>wr [(0,0),(1,0),(2,0),(3,0),(4,0),(5,0),(6,0),(7,0)]<|gb0 [0,1] [(115,vI e6),(114,.map (some b2))] ?_
  refine ge_lookup2 (κ:=Int) (ν:=Int) (d:=116) (b:=b2) (q:=4) (t:=71) (kt:=3) (et:=3) (x:=(.tmp 114)) (y:=(.tmp 115)) (ty:=84) (m:=mp3) (k:=e6) (z:=0) (v:=((mget mp3 e6).getD 0)) (zv:=vI 0) (vv:=vI ((mget mp3 e6).getD 0)) (by kernel_rfl) (by kernel_rfl) (by kernel_rfl) (by kernel_rfl) (by kernel_rfl) (fun w'=>by kernel_rfl) rfl hS rfl rfl rfl ?_
  refine gb0 [3,4,5,6,7] [(15,.bool ((mget mp3 e6).isSome)),(14,vI ((mget mp3 e6).getD 0)),(118,.bool ((mget mp3 e6).isSome)),(117,vI ((mget mp3 e6).getD 0)),(113,.tuple #[vI ((mget mp3 e6).getD 0),.bool ((mget mp3 e6).isSome)])] ?_
  refine gn hK39<|ws fun K40 hK40=>wr [(0,0),(1,0),(2,0),(3,0),(4,0),(5,0)]<|gb0 [0,1] [(120,.bool ((mget mp3 e6).isSome)),(119,.bool ((mget mp3 e6).isSome))] ?_
  by_cases hc20:((mget mp3 e6).isSome)=true
  ·rw [if_pos hc20] at h
   refine gk 120 ((mget mp3 e6).isSome) true hc20 ?_
   refine gb0 [2,3,4,5] [(124,.bool (((mget mp3 e6).getD 0) != (IntKind.i64.wrap ((IntKind.i64.wrap (((mget mp1 (i1:Int)).getD 0)-e4))+e5)))),(123,.bool (((mget mp3 e6).getD 0) != (IntKind.i64.wrap ((IntKind.i64.wrap (((mget mp1 (i1:Int)).getD 0)-e4))+e5)))),(122,vI (IntKind.i64.wrap ((IntKind.i64.wrap (((mget mp1 (i1:Int)).getD 0)-e4))+e5))),(121,vI ((mget mp3 e6).getD 0))] ?_
   refine gn hK40 ?_
   by_cases hc21:((mget mp3 e6).getD 0)=(IntKind.i64.wrap ((IntKind.i64.wrap (((mget mp1 (i1:Int)).getD 0)-e4))+e5))
   ·rw [if_pos hc21] at h
    refine wk 124 (((mget mp3 e6).getD 0) != (IntKind.i64.wrap ((IntKind.i64.wrap (((mget mp1 (i1:Int)).getD 0)-e4))+e5))) false (bne_eq_false_iff_eq.2 hc21) ?_
    refine we_false (by kernel_rfl) ?_
    refine we_skip fun a hF=>hK38 _ _ ?_ a hF
    refine wr [(0,0),(1,0),(2,0),(3,2)]<|gb0 [0,1,2] [(129,vI (IntKind.i64.wrap ((IntKind.i64.wrap (((mget mp1 (i1:Int)).getD 0)-e4))+e5))),(128,vI e6),(127,.map (some b2))] ?_
    have hS118:=hS.b 4
    refine ge_mapSet (κ:=Int) (ν:=Int) (b:=b2) (ins:=false) (mm:=0) (t:=71) (kt:=3) (et:=3) (x:=(.tmp 127)) (y:=(.tmp 128)) (u:=(.tmp 129)) (ty:=0) (m:=mp3) (k:=e6) (v:=(IntKind.i64.wrap ((IntKind.i64.wrap (((mget mp1 (i1:Int)).getD 0)-e4))+e5))) (vv:=vI (IntKind.i64.wrap ((IntKind.i64.wrap (((mget mp1 (i1:Int)).getD 0)-e4))+e5))) (by kernel_rfl) (by kernel_rfl) (by kernel_rfl) (by kernel_rfl) rfl (by kernel_rfl) (by kernel_rfl) hS118 fun w27 hS119=>?_
    refine gn hK36<|wr [(0,0),(1,0)]<|ge_addn (d:=130) (ty:=3) (x:=(.tmp 109)) (y:=(.const (vI 1))) (t:=3) (t2:=3) (k:=.i64) (m:=i2) (by kernel_rfl) (by kernel_rfl) (by kernel_rfl) (by have h0:=hS119.ofSmall 4 rfl; omega) ?_
    refine gb0 [1] [(109,vI ((i2+1:Nat):Int))] ?_
    have hS123:=(((hS119.b 4).b 4).b 4).b 4
    obtain rfl:=si h
    exact ge_nil fun a hF=>hQ _ _ _ (Outs.again ⟨hS123,hF.weaken ea⟩)
   rw [if_neg hc21] at h
   refine wk 124 (((mget mp3 e6).getD 0) != (IntKind.i64.wrap ((IntKind.i64.wrap (((mget mp1 (i1:Int)).getD 0)-e4))+e5))) true (bne_iff_ne.2 hc21) ?_
   refine we_true (by kernel_rfl) ?_
   refine ws fun K41 hK41=>wr [(0,0),(1,1),(2,2)]<|gb0 [0] [(125,vI (i1:Int))] ?_
   refine ge_call (d:=some 126) (f:=17) (args:=#[vI 8,vI (i1:Int)]) (by kernel_rfl) (punctualref_F_ok 8 (i1:Int) _ _ rfl) ?_
   rintro _ w28 ⟨rfl,hS124⟩
   refine ⟨_,rfl,hS124.below,?_⟩
   have hS126:=(hS.call hS124).b 2
   refine gs b1 0 #[vI 0,vI 0] 30 [vI ((punctualref_F.f 8 (i1:Int)).Code),vI ((punctualref_F.f 8 (i1:Int)).At)] hS126 fun w29 hS127=>?_
   have hS128:=hS127.nc #[vI ((punctualref_F.f 8 (i1:Int)).Code),vI ((punctualref_F.f 8 (i1:Int)).At)] rfl
   refine gn hK41 ?_
   have hS129:=hS128.takeN 0
   obtain rfl:=si h
   exact we_ret fun a hF=>hQ _ _ _ (Outs.out nofun (Exits.on ⟨rfl,(pr [.cell 2 30] [.agg #[vI ((punctualref_F.f 8 (i1:Int)).Code),vI ((punctualref_F.f 8 (i1:Int)).At)]] [.loaded ⟨b1,0,none⟩ (vI ((punctualref_F.f 8 (i1:Int)).Code)),.loaded ⟨b1,1,none⟩ (vI ((punctualref_F.f 8 (i1:Int)).At))] ⟨hS128.c 0,hS128.c 0,trivial⟩ ⟨rfl,hS129⟩) a hF⟩))
  rw [if_neg hc20] at h
  refine gk 120 ((mget mp3 e6).isSome) false (Bool.eq_false_iff.2 hc20) ?_
  refine gb0 [2,3,4,5] [(124,.bool false),(123,undef),(122,undef),(121,undef)] ?_
  refine gn hK40<|we_false (by kernel_rfl) ?_
  refine we_skip fun a hF=>hK38 _ _ ?_ a hF
  refine wr [(0,0),(1,0),(2,0),(3,2)]<|gb0 [0,1,2] [(129,vI (IntKind.i64.wrap ((IntKind.i64.wrap (((mget mp1 (i1:Int)).getD 0)-e4))+e5))),(128,vI e6),(127,.map (some b2))] ?_
  have hS130:=hS.b 4
  refine ge_mapSet (κ:=Int) (ν:=Int) (b:=b2) (ins:=false) (mm:=0) (t:=71) (kt:=3) (et:=3) (x:=(.tmp 127)) (y:=(.tmp 128)) (u:=(.tmp 129)) (ty:=0) (m:=mp3) (k:=e6) (v:=(IntKind.i64.wrap ((IntKind.i64.wrap (((mget mp1 (i1:Int)).getD 0)-e4))+e5))) (vv:=vI (IntKind.i64.wrap ((IntKind.i64.wrap (((mget mp1 (i1:Int)).getD 0)-e4))+e5))) (by kernel_rfl) (by kernel_rfl) (by kernel_rfl) (by kernel_rfl) rfl (by kernel_rfl) (by kernel_rfl) hS130 fun w30 hS131=>?_
  refine gn hK36<|wr [(0,0),(1,0)]<|ge_addn (d:=130) (ty:=3) (x:=(.tmp 109)) (y:=(.const (vI 1))) (t:=3) (t2:=3) (k:=.i64) (m:=i2) (by kernel_rfl) (by kernel_rfl) (by kernel_rfl) (by have h0:=hS131.ofSmall 4 rfl; omega) ?_
  refine gb0 [1] [(109,vI ((i2+1:Nat):Int))] ?_
  have hS135:=(((hS131.b 4).b 4).b 4).b 4
  obtain rfl:=si h
  exact ge_nil fun a hF=>hQ _ _ _ (Outs.again ⟨hS135,hF.weaken ea⟩)
 rw [if_neg hc19] at h
 refine wk 110 (decide ((i2:Int)<(m4.length:Int))) false (decide_eq_false hc19) ?_
 refine we_false (by kernel_rfl) ?_
 have hS140:=((((hS.b 4).b 3).b 3).b 3).takeN 4
 obtain rfl:=si h
 exact we_exit fun a hF=>hQ _ _ _ (Outs.out nofun (Exits.here ⟨hS140,hF.weaken ea⟩))
abbrev punctualref_stackFault.A0 (w0:World) (l0:List SIns) (A0:Option Addr) (c0:Nat) (b1:Nat) (b2:Nat) (b3:Nat) (b4:Nat):(Nat×(List (Int×Int)))→Act→World→Prop:=fun (s:Nat×(List (Int×Int))) a w=>St w0 w [Own.blk b4 (.cells #[vI 0,vI 1,vI 1,vI 0,vI 1,vI 1,vI 1,vI 1,vI 1,vI 1,vI 0,vI 0,vI 0,vI 0,vI 0,vI 0,vI 0,vI 0,vI 0] 3 (0,0)),Own.blk b3 (.cells #[vI 0,vI 0,vI 0,vI 1,vI 2,vI 2,vI 2,vI 2,vI 2,vI 0,vI 1,vI 0,vI 1,vI 0,vI 0,vI 0,vI 0,vI 0,vI 0] 3 (0,0)),Own.blk b1 (.cells #[vI 0,vI 0] 30 (0,0)),Own.map (κ:=Int) (ν:=Int) b2 s.2]∧Frm 141 a [(0,.slice A0 l0.length c0),(2,pP b1 0),(3,.map (some b2)),(4,.slice (some ⟨b3,0,none⟩) 19 19),(5,.slice (some ⟨b4,0,none⟩) 19 19),(20,.slice A0 l0.length c0),(21,vI (l0.length:Int)),(22,vI (s.1:Int))]
abbrev punctualref_stackFault.B0 (w0:World) (l0:List SIns) (A0:Option Addr) (c0:Nat) (b1:Nat) (b2:Nat):((List (Int×Int)) ⊕ SFault)→Exit→Act→World→Prop:=Exits 0 (fun (s:(List (Int×Int))) a w=>St w0 w [Own.blk b1 (.cells #[vI 0,vI 0] 30 (0,0)),Own.map (κ:=Int) (ν:=Int) b2 s]∧Frm 141 a [(0,.slice A0 l0.length c0),(2,pP b1 0),(3,.map (some b2))]) (Rets Tryd.prog Tryd.f26 (punctualref_stackFault.Post w0))
theorem punctualref_stackFault_r0 (K:Nat) (w0:World) (l0:List SIns) (A0:Option Addr) (c0:Nat) (hR0:RdL w0 A0 l0) (hL0:l0.length≤c0) (b1:Nat) (b2:Nat) (b3:Nat) (b4:Nat) (s:Nat×(List (Int×Int))) (o:(Nat×(List (Int×Int))) ⊕ ((List (Int×Int)) ⊕ SFault)) (h:punctualref_stackFault.r0 K l0 s=some o) (a:Act) (w:World) (hA:punctualref_stackFault.A0 w0 l0 A0 c0 b1 b2 b3 b4 s a w) (Q:Exit→Act→World→Prop) (hQ:∀ x a w,Outs (punctualref_stackFault.A0 w0 l0 A0 c0 b1 b2 b3 b4) (punctualref_stackFault.B0 w0 l0 A0 c0 b1 b2) o x a w→Q x a w):(subF Tryd.f26 [1,1,1,1,0,1,0,0]).wp Tryd.prog Q a w:=by
 obtain ⟨i1,mp1⟩:=s
 obtain ⟨hS,hF⟩:=hA
 replace hS:St w0 w [Own.blk b4 (.cells #[vI 0,vI 1,vI 1,vI 0,vI 1,vI 1,vI 1,vI 1,vI 1,vI 1,vI 0,vI 0,vI 0,vI 0,vI 0,vI 0,vI 0,vI 0,vI 0] 3 (0,0)),Own.blk b3 (.cells #[vI 0,vI 0,vI 0,vI 1,vI 2,vI 2,vI 2,vI 2,vI 2,vI 0,vI 1,vI 0,vI 1,vI 0,vI 0,vI 0,vI 0,vI 0,vI 0] 3 (0,0)),Own.blk b1 (.cells #[vI 0,vI 0] 30 (0,0)),Own.map (κ:=Int) (ν:=Int) b2 mp1]:=hS
 simp only [punctualref_stackFault.r0] at h
 refine (?_:WE Tryd.prog 141 (subF Tryd.f26 [1,1,1,1,0,1,0,0]) Q [(0,.slice A0 l0.length c0),(2,pP b1 0),(3,.map (some b2)),(4,.slice (some ⟨b3,0,none⟩) 19 19),(5,.slice (some ⟨b4,0,none⟩) 19 19),(20,.slice A0 l0.length c0),(21,vI (l0.length:Int)),(22,vI (i1:Int))] w) a hF
 clear hF a
 refine ws fun K7 hK7=>wr [(0,0)]<|gb0 [0] [(23,.bool (decide ((i1:Int)<(l0.length:Int))))] ?_
 refine gn hK7<|ws fun K8 hK8=>?_
 by_cases hc1:(i1:Int)<(l0.length:Int)
 ·rw [if_pos hc1] at h
  refine wk 23 (decide ((i1:Int)<(l0.length:Int))) true (decide_eq_true hc1) ?_
  refine we_true (by kernel_rfl) ?_
  refine we_skip fun a hF=>hK8 _ _ ?_ a hF
  refine ws fun K9 hK9=>we_block<|ws fun K10 hK10=>wr [(0,0),(1,0),(2,0),(3,1),(4,0),(5,2)]<|gb0 [0] [(24,vI (i1:Int))] ?_
  rcases hx5:l0[i1]? with _ | e1
  ·rw [hx5] at h; cases h
  rw [hx5] at h
  simp only [] at h
  refine gi 25 0 22 35 3 l0.length c0 (.tmp 20) (.tmp 22) A0 .i64 (i1:Int) i1 ((hS.rd hR0).eqSome (pos_of_get hx5)) rfl (lt_of_get hx5) ?_
  refine gb [2] [(26,.agg #[vI e1.Op,vI e1.A,vI e1.B])] [.loaded ⟨blkOf A0,offOf A0+i1*3,none⟩ (vI e1.Op),.loaded ⟨blkOf A0,offOf A0+i1*3+1,none⟩ (vI e1.A),.loaded ⟨blkOf A0,offOf A0+i1*3+2,none⟩ (vI e1.B)] ⟨RdL.cell (j:=0) (hS.rd hR0) hx5 rfl,RdL.cell (j:=1) (hS.rd hR0) hx5 rfl,RdL.cell (j:=2) (hS.rd hR0) hx5 rfl,trivial⟩ ?_
  refine gw (some 7) (.cells #[vI 0,vI 0,vI 0] 35) (fun b=>pP b 0) hS fun b5 w6 hx6 hS11=>?_
  refine gb0 [4] [(6,vI (i1:Int))] ?_
  refine gs b5 0 #[vI 0,vI 0,vI 0] 35 [vI e1.Op,vI e1.A,vI e1.B] hS11 fun w7 hS12=>?_
  have hS13:=hS12.nc #[vI e1.Op,vI e1.A,vI e1.B] rfl
  refine gn hK10<|ws fun K11 hK11=>wr [(0,0),(1,0),(2,0),(3,0),(4,0),(5,0),(6,0),(7,0)]<|gb0 [0,1] [(29,vI (i1:Int)),(28,.map (some b2))] ?_
  refine ge_lookup2 (κ:=Int) (ν:=Int) (d:=30) (b:=b2) (q:=4) (t:=71) (kt:=3) (et:=3) (x:=(.tmp 28)) (y:=(.tmp 29)) (ty:=84) (m:=mp1) (k:=(i1:Int)) (z:=0) (v:=((mget mp1 (i1:Int)).getD 0)) (zv:=vI 0) (vv:=vI ((mget mp1 (i1:Int)).getD 0)) (by kernel_rfl) (by kernel_rfl) (by kernel_rfl) (by kernel_rfl) (by kernel_rfl) (fun w'=>by kernel_rfl) rfl hS13 rfl rfl rfl ?_
  refine gb0 [3,4,5,6,7] [(9,.bool ((mget mp1 (i1:Int)).isSome)),(8,vI ((mget mp1 (i1:Int)).getD 0)),(32,.bool ((mget mp1 (i1:Int)).isSome)),(31,vI ((mget mp1 (i1:Int)).getD 0)),(27,.tuple #[vI ((mget mp1 (i1:Int)).getD 0),.bool ((mget mp1 (i1:Int)).isSome)])] ?_
  refine gn hK11<|ws fun K12 hK12=>ws fun K13 hK13=>wr [(0,0),(1,0)]<|gb0 [0,1] [(34,.bool (!((mget mp1 (i1:Int)).isSome))),(33,.bool ((mget mp1 (i1:Int)).isSome))] ?_
  refine gn hK13 ?_
  by_cases hc2:((mget mp1 (i1:Int)).isSome)=true
  ·rw [if_pos hc2] at h
   refine wk 34 (!((mget mp1 (i1:Int)).isSome)) false (congrArg (fun z=>!z) hc2) ?_
   refine we_false (by kernel_rfl) ?_
   refine we_skip fun a hF=>hK12 _ _ ?_ a hF
   refine ws fun K14 hK14=>?_
   rcases hq3:punctualref_stackFault.p1 i1 mp1 e1 with _ | (_ | rr4)
   ·rw [hq3] at h; cases h
   ·rw [hq3] at h
    simp only [] at h
    refine we_keep (e':=[(0,.slice A0 l0.length c0),(2,pP b1 0),(3,.map (some b2)),(4,.slice (some ⟨b3,0,none⟩) 19 19),(5,.slice (some ⟨b4,0,none⟩) 19 19),(6,vI (i1:Int)),(7,pP b5 0),(8,vI ((mget mp1 (i1:Int)).getD 0)),(9,.bool ((mget mp1 (i1:Int)).isSome)),(20,.slice A0 l0.length c0),(21,vI (l0.length:Int)),(22,vI (i1:Int)),(23,.bool true),(24,vI (i1:Int)),(25,.pointer (some ⟨blkOf A0,offOf A0+i1*3,none⟩)),(26,.agg #[vI e1.Op,vI e1.A,vI e1.B]),(27,.tuple #[vI ((mget mp1 (i1:Int)).getD 0),.bool ((mget mp1 (i1:Int)).isSome)]),(28,.map (some b2)),(29,vI (i1:Int)),(30,.tuple #[vI ((mget mp1 (i1:Int)).getD 0),.bool ((mget mp1 (i1:Int)).isSome)]),(31,vI ((mget mp1 (i1:Int)).getD 0)),(32,.bool ((mget mp1 (i1:Int)).isSome)),(33,.bool ((mget mp1 (i1:Int)).isSome)),(34,.bool false)]) ea (punctualref_stackFault_p1 K w0 l0 A0 c0 hR0 hL0 b1 b2 b3 b4 i1 mp1 hc1 e1 hx5 b5 hc2 _ hq3 _ hS13 _ ?_)
    rintro _ a w12 ⟨rfl,hS32,hF⟩
    replace hS32:St w0 w12 [Own.blk b5 (.cells #[vI e1.Op,vI e1.A,vI e1.B] 35 (0,0)),Own.blk b4 (.cells #[vI 0,vI 1,vI 1,vI 0,vI 1,vI 1,vI 1,vI 1,vI 1,vI 1,vI 0,vI 0,vI 0,vI 0,vI 0,vI 0,vI 0,vI 0,vI 0] 3 (0,0)),Own.blk b3 (.cells #[vI 0,vI 0,vI 0,vI 1,vI 2,vI 2,vI 2,vI 2,vI 2,vI 0,vI 1,vI 0,vI 1,vI 0,vI 0,vI 0,vI 0,vI 0,vI 0] 3 (0,0)),Own.blk b1 (.cells #[vI 0,vI 0] 30 (0,0)),Own.map (κ:=Int) (ν:=Int) b2 mp1]:=hS32
    refine hK14 [(0,.slice A0 l0.length c0),(2,pP b1 0),(3,.map (some b2)),(4,.slice (some ⟨b3,0,none⟩) 19 19),(5,.slice (some ⟨b4,0,none⟩) 19 19),(6,vI (i1:Int)),(7,pP b5 0),(8,vI ((mget mp1 (i1:Int)).getD 0)),(20,.slice A0 l0.length c0),(21,vI (l0.length:Int)),(22,vI (i1:Int))] w12 ?_ a hF
    refine ws fun K18 hK18=>we_draws (by kernel_rfl) [(0,0),(1,0),(2,0),(3,0),(4,0),(5,0),(6,0),(7,0),(8,0),(9,0),(10,0),(11,0),(12,0),(13,0)] (by kernel_rfl) ?_
    have hS33:=hS32.drew
    refine gb [0,1,2,3] [(65,vI e1.Op),(64,pP b5 0),(63,.slice (some ⟨b3,0,none⟩) 19 19),(62,vI ((mget mp1 (i1:Int)).getD 0))] [.loaded ⟨b5,0,none⟩ (vI e1.Op)] ⟨hS33.c 0,trivial⟩ ?_
    by_cases hc6:0≤e1.Op
    ·rw [if_pos hc6] at h
     rcases hx9:([0,0,0,1,2,2,2,2,2,0,1,0,1,0,0,0,0,0,0]:List Int)[(e1.Op).toNat]? with _ | e4
     ·rw [hx9] at h; cases h
     rw [hx9] at h
     simp only [] at h
     refine gi 66 0 23 3 1 19 19 (.tmp 63) (.tmp 65) (some ⟨b3,0,none⟩) .i64 e1.Op ((e1.Op).toNat) ((hS33.rdBlk 2 ([0,0,0,1,2,2,2,2,2,0,1,0,1,0,0,0,0,0,0]:List Int) rfl rfl rfl).eqSome (pos_of_get hx9)) (Int.toNat_of_nonneg hc6).symm (lt_of_get hx9) ?_
     refine gb [5,6,7,8,9] [(71,vI e1.Op),(70,pP b5 0),(69,.slice (some ⟨b4,0,none⟩) 19 19),(68,vI (IntKind.i64.wrap (((mget mp1 (i1:Int)).getD 0)-e4))),(67,vI e4)] [.loaded ⟨blkOf (some ⟨b3,0,none⟩),offOf (some ⟨b3,0,none⟩)+((e1.Op).toNat)*1,none⟩ (vI e4),.loaded ⟨b5,0,none⟩ (vI e1.Op)] ⟨RdL.cell (j:=0) (hS33.rdBlk 2 ([0,0,0,1,2,2,2,2,2,0,1,0,1,0,0,0,0,0,0]:List Int) rfl rfl rfl) hx9 rfl,hS33.c 0,trivial⟩ ?_
     rcases hx10:([0,1,1,0,1,1,1,1,1,1,0,0,0,0,0,0,0,0,0]:List Int)[(e1.Op).toNat]? with _ | e5
     ·rw [hx10] at h; cases h
     rw [hx10] at h
     simp only [] at h
     refine gi 72 0 23 3 1 19 19 (.tmp 69) (.tmp 71) (some ⟨b4,0,none⟩) .i64 e1.Op ((e1.Op).toNat) ((hS33.rdBlk 1 ([0,1,1,0,1,1,1,1,1,1,0,0,0,0,0,0,0,0,0]:List Int) rfl rfl rfl).eqSome (pos_of_get hx10)) (Int.toNat_of_nonneg hc6).symm (lt_of_get hx10) ?_
     refine gb [11,12,13] [(8,vI (IntKind.i64.wrap ((IntKind.i64.wrap (((mget mp1 (i1:Int)).getD 0)-e4))+e5))),(74,vI (IntKind.i64.wrap ((IntKind.i64.wrap (((mget mp1 (i1:Int)).getD 0)-e4))+e5))),(73,vI e5)] [.loaded ⟨blkOf (some ⟨b4,0,none⟩),offOf (some ⟨b4,0,none⟩)+((e1.Op).toNat)*1,none⟩ (vI e5)] ⟨RdL.cell (j:=0) (hS33.rdBlk 1 ([0,1,1,0,1,1,1,1,1,1,0,0,0,0,0,0,0,0,0]:List Int) rfl rfl rfl) hx10 rfl,trivial⟩ ?_
     refine gn hK18<|ws fun K19 hK19=>wr [(0,0)]<|gb0 [0] [(10,.slice none 0 0)] ?_
     refine gn hK19<|ws fun K20 hK20=>?_
     rcases hq4:punctualref_stackFault.p2 e1 with _ | (m2 | rr3)
     ·rw [hq4] at h; cases h
     ·rw [hq4] at h
      simp only [] at h
      refine we_keep (e':=[(0,.slice A0 l0.length c0),(2,pP b1 0),(3,.map (some b2)),(4,.slice (some ⟨b3,0,none⟩) 19 19),(5,.slice (some ⟨b4,0,none⟩) 19 19),(6,vI (i1:Int)),(7,pP b5 0),(8,vI (IntKind.i64.wrap ((IntKind.i64.wrap (((mget mp1 (i1:Int)).getD 0)-e4))+e5))),(10,.slice none 0 0),(20,.slice A0 l0.length c0),(21,vI (l0.length:Int)),(22,vI (i1:Int)),(62,vI ((mget mp1 (i1:Int)).getD 0)),(63,.slice (some ⟨b3,0,none⟩) 19 19),(64,pP b5 0),(65,vI e1.Op),(66,.pointer (some ⟨blkOf (some ⟨b3,0,none⟩),offOf (some ⟨b3,0,none⟩)+(e1.Op).toNat*1,none⟩)),(67,vI e4),(68,vI (IntKind.i64.wrap (((mget mp1 (i1:Int)).getD 0)-e4))),(69,.slice (some ⟨b4,0,none⟩) 19 19),(70,pP b5 0),(71,vI e1.Op),(72,.pointer (some ⟨blkOf (some ⟨b4,0,none⟩),offOf (some ⟨b4,0,none⟩)+(e1.Op).toNat*1,none⟩)),(73,vI e5),(74,vI (IntKind.i64.wrap ((IntKind.i64.wrap (((mget mp1 (i1:Int)).getD 0)-e4))+e5)))]) ea (punctualref_stackFault_p2 K w0 l0 A0 c0 hR0 hL0 b1 b2 b3 b4 i1 mp1 hc1 e1 hx5 b5 hc2 hc6 e4 hx9 e5 hx10 _ hq4 _ hS33 _ ?_)
      rintro _ a w23 ⟨rfl,v7,hS96,hF⟩
      replace hS96:St w0 w23 [Own.blk b5 (.cells #[vI e1.Op,vI e1.A,vI e1.B] 35 (0,0)),Own.blk b4 (.cells #[vI 0,vI 1,vI 1,vI 0,vI 1,vI 1,vI 1,vI 1,vI 1,vI 1,vI 0,vI 0,vI 0,vI 0,vI 0,vI 0,vI 0,vI 0,vI 0] 3 (0,0)),Own.blk b3 (.cells #[vI 0,vI 0,vI 0,vI 1,vI 2,vI 2,vI 2,vI 2,vI 2,vI 0,vI 1,vI 0,vI 1,vI 0,vI 0,vI 0,vI 0,vI 0,vI 0] 3 (0,0)),Own.blk b1 (.cells #[vI 0,vI 0] 30 (0,0)),Own.of v7 3 m2,Own.map (κ:=Int) (ν:=Int) b2 mp1]:=hS96
      refine hK20 [(0,.slice A0 l0.length c0),(2,pP b1 0),(3,.map (some b2)),(4,.slice (some ⟨b3,0,none⟩) 19 19),(5,.slice (some ⟨b4,0,none⟩) 19 19),(6,vI (i1:Int)),(7,pP b5 0),(8,vI (IntKind.i64.wrap ((IntKind.i64.wrap (((mget mp1 (i1:Int)).getD 0)-e4))+e5))),(10,v7),(20,.slice A0 l0.length c0),(21,vI (l0.length:Int)),(22,vI (i1:Int))] w23 ?_ a hF
      refine ws fun K31 hK31=>?_
      obtain ⟨Z1,cz1,rfl⟩:=hS96.open 4 rfl
      rcases hq5:punctualref_stackFault.p3 i1 e1 m2 with _ | (m4 | rr2)
      ·rw [hq5] at h; cases h
      ·rw [hq5] at h
       simp only [] at h
       refine we_keep (e':=[(0,.slice A0 l0.length c0),(2,pP b1 0),(3,.map (some b2)),(4,.slice (some ⟨b3,0,none⟩) 19 19),(5,.slice (some ⟨b4,0,none⟩) 19 19),(6,vI (i1:Int)),(7,pP b5 0),(8,vI (IntKind.i64.wrap ((IntKind.i64.wrap (((mget mp1 (i1:Int)).getD 0)-e4))+e5))),(10,(.slice Z1 m2.length cz1)),(20,.slice A0 l0.length c0),(21,vI (l0.length:Int)),(22,vI (i1:Int))]) ea (punctualref_stackFault_p3 K w0 l0 A0 c0 hR0 hL0 b1 b2 b3 b4 i1 mp1 hc1 e1 hx5 b5 hc2 hc6 e4 hx9 e5 hx10 m2 Z1 cz1 _ hq5 _ hS96 _ ?_)
       rintro _ a w26 ⟨rfl,v10,hS112,hF⟩
       replace hS112:St w0 w26 [Own.blk b4 (.cells #[vI 0,vI 1,vI 1,vI 0,vI 1,vI 1,vI 1,vI 1,vI 1,vI 1,vI 0,vI 0,vI 0,vI 0,vI 0,vI 0,vI 0,vI 0,vI 0] 3 (0,0)),Own.blk b3 (.cells #[vI 0,vI 0,vI 0,vI 1,vI 2,vI 2,vI 2,vI 2,vI 2,vI 0,vI 1,vI 0,vI 1,vI 0,vI 0,vI 0,vI 0,vI 0,vI 0] 3 (0,0)),Own.blk b1 (.cells #[vI 0,vI 0] 30 (0,0)),Own.of v10 3 m4,Own.map (κ:=Int) (ν:=Int) b2 mp1]:=hS112
       refine hK31 [(0,.slice A0 l0.length c0),(2,pP b1 0),(3,.map (some b2)),(4,.slice (some ⟨b3,0,none⟩) 19 19),(5,.slice (some ⟨b4,0,none⟩) 19 19),(6,vI (i1:Int)),(8,vI (IntKind.i64.wrap ((IntKind.i64.wrap (((mget mp1 (i1:Int)).getD 0)-e4))+e5))),(10,v10),(20,.slice A0 l0.length c0),(21,vI (l0.length:Int)),(22,vI (i1:Int))] w26 ?_ a hF
       refine ws fun K33 hK33=>wr [(0,0),(1,0),(2,0)]<|gb0 [0] [(107,v10)] ?_
       obtain ⟨Z2,cz2,rfl⟩:=hS112.open 3 rfl
       refine gb0 [1,2] [(109,vI 0),(108,vI (m4.length:Int))] ?_
       refine gn hK33<|we_block ?_
       have hS117:=((((hS112.b 4).b 4).b 4).b 4).b 4
       rcases hq7:iter (punctualref_stackFault.r4 i1 mp1 e4 e5 m4) K (0,mp1) with _ | (mp5 | rr1)
       ·rw [hq7] at h; cases h
       ·rw [hq7] at h
        simp only [] at h
        refine we_iter (A:=punctualref_stackFault.A4 w0 l0 A0 c0 b1 b2 b3 b4 i1 mp1 e4 e5 m4 Z2 cz2) (B:=punctualref_stackFault.B4 w0 l0 A0 c0 b1 b2 b3 b4 i1) hq7 (fun a hF=>⟨hS117,hF.weaken ea⟩) (fun s o hf a w hA Q hQ=>punctualref_stackFault_r4 K w0 l0 A0 c0 hR0 hL0 b1 b2 b3 b4 i1 mp1 hc1 e1 hx5 b5 hc2 hc6 e4 hx9 e5 hx10 m2 Z1 cz1 m4 Z2 cz2 s o hf a w hA Q hQ) ?_
        rintro _ a w31 _ ⟨rfl,hS141,hF⟩
        replace hS141:St w0 w31 [Own.blk b4 (.cells #[vI 0,vI 1,vI 1,vI 0,vI 1,vI 1,vI 1,vI 1,vI 1,vI 1,vI 0,vI 0,vI 0,vI 0,vI 0,vI 0,vI 0,vI 0,vI 0] 3 (0,0)),Own.blk b3 (.cells #[vI 0,vI 0,vI 0,vI 1,vI 2,vI 2,vI 2,vI 2,vI 2,vI 0,vI 1,vI 0,vI 1,vI 0,vI 0,vI 0,vI 0,vI 0,vI 0] 3 (0,0)),Own.blk b1 (.cells #[vI 0,vI 0] 30 (0,0)),Own.map (κ:=Int) (ν:=Int) b2 mp5]:=hS141
        refine hK9 [(0,.slice A0 l0.length c0),(2,pP b1 0),(3,.map (some b2)),(4,.slice (some ⟨b3,0,none⟩) 19 19),(5,.slice (some ⟨b4,0,none⟩) 19 19),(20,.slice A0 l0.length c0),(21,vI (l0.length:Int)),(22,vI (i1:Int))] w31 ?_ a hF
        refine wr [(0,0),(1,0)]<|ge_addn (d:=131) (ty:=3) (x:=(.tmp 22)) (y:=(.const (vI 1))) (t:=3) (t2:=3) (k:=.i64) (m:=i1) (by kernel_rfl) (by kernel_rfl) (by kernel_rfl) (by have h0:=hR0.small; omega) ?_
        refine gb0 [1] [(22,vI ((i1+1:Nat):Int))] ?_
        have hS145:=(((hS141.b 3).b 3).b 3).b 3
        obtain rfl:=si h
        exact ge_nil fun a hF=>hQ _ _ _ (Outs.again ⟨hS145,hF.weaken ea⟩)
       rw [hq7] at h
       simp only [] at h
       refine we_iter (A:=punctualref_stackFault.A4 w0 l0 A0 c0 b1 b2 b3 b4 i1 mp1 e4 e5 m4 Z2 cz2) (B:=punctualref_stackFault.B4 w0 l0 A0 c0 b1 b2 b3 b4 i1) hq7 (fun a hF=>⟨hS117,hF.weaken ea⟩) (fun s o hf a w hA Q hQ=>punctualref_stackFault_r4 K w0 l0 A0 c0 hR0 hL0 b1 b2 b3 b4 i1 mp1 hc1 e1 hx5 b5 hc2 hc6 e4 hx9 e5 hx10 m2 Z1 cz1 m4 Z2 cz2 s o hf a w hA Q hQ) ?_
       rintro _ a w1 _ ⟨rfl,hb⟩
       obtain rfl:=si h
       exact hQ _ _ _ (Outs.out nofun (Exits.on ⟨rfl,hb⟩))
      rw [hq5] at h
      simp only [] at h
      refine we_keep (e':=[(0,.slice A0 l0.length c0),(2,pP b1 0),(3,.map (some b2)),(4,.slice (some ⟨b3,0,none⟩) 19 19),(5,.slice (some ⟨b4,0,none⟩) 19 19),(6,vI (i1:Int)),(7,pP b5 0),(8,vI (IntKind.i64.wrap ((IntKind.i64.wrap (((mget mp1 (i1:Int)).getD 0)-e4))+e5))),(10,(.slice Z1 m2.length cz1)),(20,.slice A0 l0.length c0),(21,vI (l0.length:Int)),(22,vI (i1:Int))]) ea (punctualref_stackFault_p3 K w0 l0 A0 c0 hR0 hL0 b1 b2 b3 b4 i1 mp1 hc1 e1 hx5 b5 hc2 hc6 e4 hx9 e5 hx10 m2 Z1 cz1 _ hq5 _ hS96 _ ?_)
      rintro _ a w1 ⟨_,rfl,hb⟩
      obtain rfl:=si h
      exact hQ _ _ _ (Outs.out nofun (Exits.on ⟨rfl,hb⟩))
     rw [hq4] at h
     simp only [] at h
     refine we_keep (e':=[(0,.slice A0 l0.length c0),(2,pP b1 0),(3,.map (some b2)),(4,.slice (some ⟨b3,0,none⟩) 19 19),(5,.slice (some ⟨b4,0,none⟩) 19 19),(6,vI (i1:Int)),(7,pP b5 0),(8,vI (IntKind.i64.wrap ((IntKind.i64.wrap (((mget mp1 (i1:Int)).getD 0)-e4))+e5))),(10,.slice none 0 0),(20,.slice A0 l0.length c0),(21,vI (l0.length:Int)),(22,vI (i1:Int)),(62,vI ((mget mp1 (i1:Int)).getD 0)),(63,.slice (some ⟨b3,0,none⟩) 19 19),(64,pP b5 0),(65,vI e1.Op),(66,.pointer (some ⟨blkOf (some ⟨b3,0,none⟩),offOf (some ⟨b3,0,none⟩)+(e1.Op).toNat*1,none⟩)),(67,vI e4),(68,vI (IntKind.i64.wrap (((mget mp1 (i1:Int)).getD 0)-e4))),(69,.slice (some ⟨b4,0,none⟩) 19 19),(70,pP b5 0),(71,vI e1.Op),(72,.pointer (some ⟨blkOf (some ⟨b4,0,none⟩),offOf (some ⟨b4,0,none⟩)+(e1.Op).toNat*1,none⟩)),(73,vI e5),(74,vI (IntKind.i64.wrap ((IntKind.i64.wrap (((mget mp1 (i1:Int)).getD 0)-e4))+e5)))]) ea (punctualref_stackFault_p2 K w0 l0 A0 c0 hR0 hL0 b1 b2 b3 b4 i1 mp1 hc1 e1 hx5 b5 hc2 hc6 e4 hx9 e5 hx10 _ hq4 _ hS33 _ ?_)
     rintro _ a w1 ⟨_,rfl,hb⟩
     obtain rfl:=si h
     exact hQ _ _ _ (Outs.out nofun (Exits.on ⟨rfl,hb⟩))
    rw [if_neg hc6] at h
    cases h
   rw [hq3] at h
   simp only [] at h
   refine we_keep (e':=[(0,.slice A0 l0.length c0),(2,pP b1 0),(3,.map (some b2)),(4,.slice (some ⟨b3,0,none⟩) 19 19),(5,.slice (some ⟨b4,0,none⟩) 19 19),(6,vI (i1:Int)),(7,pP b5 0),(8,vI ((mget mp1 (i1:Int)).getD 0)),(9,.bool ((mget mp1 (i1:Int)).isSome)),(20,.slice A0 l0.length c0),(21,vI (l0.length:Int)),(22,vI (i1:Int)),(23,.bool true),(24,vI (i1:Int)),(25,.pointer (some ⟨blkOf A0,offOf A0+i1*3,none⟩)),(26,.agg #[vI e1.Op,vI e1.A,vI e1.B]),(27,.tuple #[vI ((mget mp1 (i1:Int)).getD 0),.bool ((mget mp1 (i1:Int)).isSome)]),(28,.map (some b2)),(29,vI (i1:Int)),(30,.tuple #[vI ((mget mp1 (i1:Int)).getD 0),.bool ((mget mp1 (i1:Int)).isSome)]),(31,vI ((mget mp1 (i1:Int)).getD 0)),(32,.bool ((mget mp1 (i1:Int)).isSome)),(33,.bool ((mget mp1 (i1:Int)).isSome)),(34,.bool false)]) ea (punctualref_stackFault_p1 K w0 l0 A0 c0 hR0 hL0 b1 b2 b3 b4 i1 mp1 hc1 e1 hx5 b5 hc2 _ hq3 _ hS13 _ ?_)
   rintro _ a w1 ⟨_,rfl,hb⟩
   obtain rfl:=si h
   exact hQ _ _ _ (Outs.out nofun (Exits.on ⟨rfl,hb⟩))
  rw [if_neg hc2] at h
  refine wk 34 (!((mget mp1 (i1:Int)).isSome)) true (congrArg (fun z=>!z) (Bool.eq_false_iff.2 hc2)) ?_
  refine we_true (by kernel_rfl) ?_
  refine ws fun K42 hK42=>wr [(0,0),(1,1),(2,2)]<|gb0 [0] [(35,vI (i1:Int))] ?_
  refine ge_call (d:=some 36) (f:=17) (args:=#[vI 7,vI (i1:Int)]) (by kernel_rfl) (punctualref_F_ok 7 (i1:Int) _ _ rfl) ?_
  rintro _ w32 ⟨rfl,hS146⟩
  refine ⟨_,rfl,hS146.below,?_⟩
  have hS148:=(hS13.call hS146).b 3
  refine gs b1 0 #[vI 0,vI 0] 30 [vI ((punctualref_F.f 7 (i1:Int)).Code),vI ((punctualref_F.f 7 (i1:Int)).At)] hS148 fun w33 hS149=>?_
  have hS150:=hS149.nc #[vI ((punctualref_F.f 7 (i1:Int)).Code),vI ((punctualref_F.f 7 (i1:Int)).At)] rfl
  refine gn hK42 ?_
  have hS151:=hS150.takeN 0
  obtain rfl:=si h
  exact we_ret fun a hF=>hQ _ _ _ (Outs.out nofun (Exits.on ⟨rfl,(pr [.cell 2 30] [.agg #[vI ((punctualref_F.f 7 (i1:Int)).Code),vI ((punctualref_F.f 7 (i1:Int)).At)]] [.loaded ⟨b1,0,none⟩ (vI ((punctualref_F.f 7 (i1:Int)).Code)),.loaded ⟨b1,1,none⟩ (vI ((punctualref_F.f 7 (i1:Int)).At))] ⟨hS150.c 0,hS150.c 0,trivial⟩ ⟨rfl,hS151⟩) a hF⟩))
 rw [if_neg hc1] at h
 refine wk 23 (decide ((i1:Int)<(l0.length:Int))) false (decide_eq_false hc1) ?_
 refine we_false (by kernel_rfl) ?_
 have hS154:=((hS.b 3).b 3).takeN 2
 obtain rfl:=si h
 exact we_exit fun a hF=>hQ _ _ _ (Outs.out nofun (Exits.here ⟨hS154,hF.weaken ea⟩))
theorem punctualref_stackFault_ok (K:Nat) (l0:List SIns) (A0:Option Addr) (c0:Nat) (w0:World) (hR0:RdL w0 A0 l0) (hL0:l0.length≤c0) (r:SFault) (h:punctualref_stackFault.f K l0=some r) :
  Calls Tryd.prog 26 #[.slice A0 l0.length c0] w0 (punctualref_stackFault.Post w0 r):=by
 have hS:=St.start w0
 unfold punctualref_stackFault.f at h
 refine calls_enter (n:=141) (args:=[.slice A0 l0.length c0]) (fn:=Tryd.f26) rfl rfl rfl rfl ?_
 show WE _ _ _ _ [(0,.slice A0 l0.length c0)] _
 refine ws fun K1 hK1=>wr [(0,1)]<|gw (some 2) (.cells #[vI 0,vI 0] 30) (fun b=>pP b 0) hS fun b1 w1 hx1 hS1=>?_
 refine gn hK1<|ws fun K2 hK2=>wr [(0,1),(1,2),(2,0),(3,0)]<|gw (some 16) (.map #[] 0) (fun b=>.map (some b)) hS1 fun b2 w2 hx2 hS2=>?_
 have hS3:=hS2.newMap (κ:=Int) (ν:=Int)
 refine ge_mapSet (κ:=Int) (ν:=Int) (b:=b2) (ins:=true) (mm:=0) (t:=71) (kt:=3) (et:=3) (x:=(.tmp 16)) (y:=(.const (vI 0))) (u:=(.const (vI 0))) (ty:=0) (m:=([]:List (Int×Int))) (k:=0) (v:=0) (vv:=vI 0) (by kernel_rfl) (by kernel_rfl) (by kernel_rfl) (by kernel_rfl) rfl (by kernel_rfl) (by kernel_rfl) hS3 fun w3 hS4=>?_
 refine gb0 [2,3] [(3,.map (some b2)),(17,.map (some b2))] ?_
 refine gn hK2<|ws fun K3 hK3=>wr [(0,1),(1,0)]<|gw (some 18) (.cells #[vI 0,vI 0,vI 0,vI 1,vI 2,vI 2,vI 2,vI 2,vI 2,vI 0,vI 1,vI 0,vI 1,vI 0,vI 0,vI 0,vI 0,vI 0,vI 0] 3) (fun b=>.slice (some ⟨b,0,none⟩) 19 19) hS4 fun b3 w4 hx3 hS5=>?_
 refine gb0 [1] [(4,.slice (some ⟨b3,0,none⟩) 19 19)] ?_
 refine gn hK3<|ws fun K4 hK4=>wr [(0,1),(1,0)]<|gw (some 19) (.cells #[vI 0,vI 1,vI 1,vI 0,vI 1,vI 1,vI 1,vI 1,vI 1,vI 1,vI 0,vI 0,vI 0,vI 0,vI 0,vI 0,vI 0,vI 0,vI 0] 3) (fun b=>.slice (some ⟨b,0,none⟩) 19 19) hS5 fun b4 w5 hx4 hS6=>?_
 refine gb0 [1] [(5,.slice (some ⟨b4,0,none⟩) 19 19)] ?_
 refine gn hK4<|ws fun K5 hK5=>ws fun K6 hK6=>wr [(0,0),(1,0),(2,0)]<|gb0 [0,1,2] [(22,vI 0),(21,vI (l0.length:Int)),(20,.slice A0 l0.length c0)] ?_
 refine gn hK6<|we_block ?_
 have hS10:=(((hS6.b 2).b 3).b 3).b 3
 rcases hq9:iter (punctualref_stackFault.r0 K l0) K (0,(mset ([]:List (Int×Int)) 0 0)) with _ | (mp6 | rr5)
 ·rw [hq9] at h; cases h
 ·rw [hq9] at h
  simp only [] at h
  refine we_iter (A:=punctualref_stackFault.A0 w0 l0 A0 c0 b1 b2 b3 b4) (B:=punctualref_stackFault.B0 w0 l0 A0 c0 b1 b2) hq9 (fun a hF=>⟨hS10,hF.weaken ea⟩) (fun s o hf a w hA Q hQ=>punctualref_stackFault_r0 K w0 l0 A0 c0 hR0 hL0 b1 b2 b3 b4 s o hf a w hA Q hQ) ?_
  rintro _ a w34 _ ⟨rfl,hS155,hF⟩
  replace hS155:St w0 w34 [Own.blk b1 (.cells #[vI 0,vI 0] 30 (0,0)),Own.map (κ:=Int) (ν:=Int) b2 mp6]:=hS155
  refine hK5 [(0,.slice A0 l0.length c0),(2,pP b1 0),(3,.map (some b2))] w34 ?_ a hF
  refine ws fun K43 hK43=>ws fun K44 hK44=>wr [(0,0),(1,0),(2,0),(3,0),(4,0)]<|gb0 [0,1,2] [(134,vI (l0.length:Int)),(133,.slice A0 l0.length c0),(132,.map (some b2))] ?_
  refine ge_lookup (κ:=Int) (ν:=Int) (d:=135) (b:=b2) (q:=1) (t:=71) (kt:=3) (et:=3) (x:=(.tmp 132)) (y:=(.tmp 134)) (ty:=3) (m:=mp6) (k:=(l0.length:Int)) (z:=0) (v:=((mget mp6 (l0.length:Int)).getD 0)) (zv:=vI 0) (vv:=vI ((mget mp6 (l0.length:Int)).getD 0)) (by kernel_rfl) (by kernel_rfl) (by kernel_rfl) (by kernel_rfl) (by kernel_rfl) (fun w'=>by kernel_rfl) rfl hS155 rfl rfl rfl ?_
  refine gb0 [4] [(136,.bool (((mget mp6 (l0.length:Int)).getD 0) != 0))] ?_
  refine gn hK44 ?_
  by_cases hc22:((mget mp6 (l0.length:Int)).getD 0)=0
  ·rw [if_pos hc22] at h
   refine wk 136 (((mget mp6 (l0.length:Int)).getD 0) != 0) false (bne_eq_false_iff_eq.2 hc22) ?_
   refine we_false (by kernel_rfl) ?_
   refine we_skip fun a hF=>hK43 _ _ ?_ a hF
   refine ws fun K45 hK45=>wr [(0,0),(1,2)]<|gb0 [0] [(140,.agg #[vI 0,vI 0])] ?_
   refine gs b1 0 #[vI 0,vI 0] 30 [vI 0,vI 0] hS155 fun w35 hS156=>?_
   have hS157:=hS156.nc #[vI 0,vI 0] rfl
   refine gn hK45 ?_
   have hS158:=hS157.takeN 0
   obtain rfl:=si h
   exact we_ret (pr [.cell 2 30] [.agg #[vI 0,vI 0]] [.loaded ⟨b1,0,none⟩ (vI 0),.loaded ⟨b1,1,none⟩ (vI 0)] ⟨hS157.c 0,hS157.c 0,trivial⟩ ⟨rfl,hS158⟩)
  rw [if_neg hc22] at h
  refine wk 136 (((mget mp6 (l0.length:Int)).getD 0) != 0) true (bne_iff_ne.2 hc22) ?_
  refine we_true (by kernel_rfl) ?_
  refine ws fun K46 hK46=>wr [(0,0),(1,0),(2,1),(3,2)]<|gb0 [0,1] [(138,vI (l0.length:Int)),(137,.slice A0 l0.length c0)] ?_
  refine ge_call (d:=some 139) (f:=17) (args:=#[vI 8,vI (l0.length:Int)]) (by kernel_rfl) (punctualref_F_ok 8 (l0.length:Int) _ _ rfl) ?_
  rintro _ w36 ⟨rfl,hS159⟩
  refine ⟨_,rfl,hS159.below,?_⟩
  have hS160:=hS155.call hS159
  refine gs b1 0 #[vI 0,vI 0] 30 [vI ((punctualref_F.f 8 (l0.length:Int)).Code),vI ((punctualref_F.f 8 (l0.length:Int)).At)] hS160 fun w37 hS161=>?_
  have hS162:=hS161.nc #[vI ((punctualref_F.f 8 (l0.length:Int)).Code),vI ((punctualref_F.f 8 (l0.length:Int)).At)] rfl
  refine gn hK46 ?_
  have hS163:=hS162.takeN 0
  obtain rfl:=si h
  exact we_ret (pr [.cell 2 30] [.agg #[vI ((punctualref_F.f 8 (l0.length:Int)).Code),vI ((punctualref_F.f 8 (l0.length:Int)).At)]] [.loaded ⟨b1,0,none⟩ (vI ((punctualref_F.f 8 (l0.length:Int)).Code)),.loaded ⟨b1,1,none⟩ (vI ((punctualref_F.f 8 (l0.length:Int)).At))] ⟨hS162.c 0,hS162.c 0,trivial⟩ ⟨rfl,hS163⟩)
 rw [hq9] at h
 simp only [] at h
 refine we_iter (A:=punctualref_stackFault.A0 w0 l0 A0 c0 b1 b2 b3 b4) (B:=punctualref_stackFault.B0 w0 l0 A0 c0 b1 b2) hq9 (fun a hF=>⟨hS10,hF.weaken ea⟩) (fun s o hf a w hA Q hQ=>punctualref_stackFault_r0 K w0 l0 A0 c0 hR0 hL0 b1 b2 b3 b4 s o hf a w hA Q hQ) ?_
 rintro _ a w1 _ ⟨rfl,hb⟩
 obtain rfl:=si h
 exact hb

structure PImage where
 m_Regions:List Sregion

/-! punctual/punctualref.ReadImage -/
abbrev punctualref_ReadImage.Post (w0:World) (l0:List SIns) (A0:Option Addr) (c0:Nat) (r:(Option PImage)×SFault) (e:Ending) (w:World):Prop:=match r.1 with
 | none=>e=.returned (.tuple #[.pointer none,.agg #[vI r.2.Code,vI r.2.At]])∧St w0 w []
 | some x=>∃ (pb:Nat) (pv1:Value),e=.returned (.tuple #[pP pb 0,.agg #[vI r.2.Code,vI r.2.At]])∧St w0 w [Own.blk pb (.cells #[.slice A0 l0.length c0,pv1] 68 (0,0)),Own.of pv1 73 x.m_Regions]
def punctualref_ReadImage.r0 (l0 : List SIns) : Nat → Option (Nat ⊕ (Unit ⊕ ((Option PImage) × SFault)))
 | i1 =>
  if (i1:Int)<(l0.length:Int) then
   match l0[i1]? with
   | none=>none
   | some e1 =>
    match punctualref_wrongIns.f e1 with
    | none=>none
    | some r1 =>
     if r1=0 then
      some (.inl (i1+1))
     else
      some (.inr (.inr (none,(punctualref_F.f r1 (i1:Int)))))
  else
   some (.inr (.inl ()))
def punctualref_ReadImage.p2 (m1 : List Int) : Option (Int ⊕ ((Option PImage) × SFault)) :=
  if (m1.length:Int) > 0 then
   if 0≤(IntKind.i64.wrap ((m1.length:Int)-1)) then
    match m1[(IntKind.i64.wrap ((m1.length:Int)-1)).toNat]? with
    | none=>none
    | some e3 =>
     some (.inl e3)
   else
    none
  else
   some (.inl (-1))
def punctualref_ReadImage.p3 (e2 : SIns) : Option (Bool ⊕ ((Option PImage) × SFault)) :=
  if e2.Op=13 then
   some (.inl true)
  else
   some (.inl (e2.Op==16))
def punctualref_ReadImage.p4 (e2 : SIns) : Option (Bool ⊕ ((Option PImage) × SFault)) :=
  if e2.Op=14 then
   some (.inl true)
  else
   some (.inl (e2.Op==17))
def punctualref_ReadImage.p5 (l0 : List SIns) (i2 : Nat) (e2 : SIns) (z2 : Int) : Option (Unit ⊕ ((Option PImage) × SFault)) :=
  if z2<0 then
   some (.inr (none,(punctualref_F.f ((mget (mset (mset ([]:List (Int×Int)) 14 9) 17 10) e2.Op).getD 0) (i2:Int))))
  else
   if 0≤z2 then
    match l0[(z2).toNat]? with
    | none=>none
    | some e4 =>
     if e4.Op=((mget (mset (mset ([]:List (Int×Int)) 14 13) 17 16) e2.Op).getD 0) then
      if e4.A=e2.A then
       if e2.Op=14 then
        if e2.B=(IntKind.i64.wrap (z2+1)) then
         some (.inl ())
        else
         some (.inr (none,(punctualref_F.f ((mget (mset (mset ([]:List (Int×Int)) 14 9) 17 10) e2.Op).getD 0) (i2:Int))))
       else
        some (.inl ())
      else
       some (.inr (none,(punctualref_F.f ((mget (mset (mset ([]:List (Int×Int)) 14 9) 17 10) e2.Op).getD 0) (i2:Int))))
     else
      some (.inr (none,(punctualref_F.f ((mget (mset (mset ([]:List (Int×Int)) 14 9) 17 10) e2.Op).getD 0) (i2:Int))))
   else
    none
def punctualref_ReadImage.r1 (K : Nat) (l0 : List SIns) : Nat × (List Int) × (List Sregion) → Option ((Nat × (List Int) × (List Sregion)) ⊕ (((List Int) × (List Sregion)) ⊕ ((Option PImage) × SFault)))
 | (i2,m1,m2) =>
  if (i2:Int)<(l0.length:Int) then
   match l0[i2]? with
   | none=>none
   | some e2 =>
    match punctualref_ReadImage.p2 m1 with
    | none=>none
    | some (.inl z2) =>
     match punctualref_ReadImage.p3 e2 with
     | none=>none
     | some (.inl q2) =>
      if q2=true then
       match punctualref_ReadImage_1.f K e2.Op m1 l0 e2 with
       | none=>none
       | some r2 =>
        if r2=true then
         some (.inr (.inr (none,(punctualref_F.f ((mget (mset (mset ([]:List (Int×Int)) 13 9) 16 10) e2.Op).getD 0) (i2:Int)))))
        else
         if m1.length<17592186044416 then
          some (.inl ((i2+1),(m1++[(i2:Int)]),m2))
         else
          none
      else
       match punctualref_ReadImage.p4 e2 with
       | none=>none
       | some (.inl q4) =>
        if q4=true then
         match punctualref_ReadImage.p5 l0 i2 e2 z2 with
         | none=>none
         | some (.inl _) =>
          if m2.length<8796093022208 then
           if 0≤(IntKind.i64.wrap ((m1.length:Int)-1)) then
            if ((IntKind.i64.wrap ((m1.length:Int)-1)).toNat)≤m1.length then
             some (.inl ((i2+1),(m1.take ((IntKind.i64.wrap ((m1.length:Int)-1)).toNat)),(m2++[(⟨z2,(i2:Int)⟩:Sregion)])))
            else
             none
           else
            none
          else
           none
         | some (.inr rr1) =>
          some (.inr (.inr rr1))
        else
         if e2.Op=15 then
          match punctualref_ReadImage_1.f K 13 m1 l0 e2 with
          | none=>none
          | some r3 =>
           if r3=true then
            some (.inl ((i2+1),m1,m2))
           else
            some (.inr (.inr (none,(punctualref_F.f 9 (i2:Int)))))
         else
          some (.inl ((i2+1),m1,m2))
       | some (.inr rr2) =>
        some (.inr (.inr rr2))
     | some (.inr rr3) =>
      some (.inr (.inr rr3))
    | some (.inr rr4) =>
     some (.inr (.inr rr4))
  else
   some (.inr (.inl (m1,m2)))
def punctualref_ReadImage.r6 (K : Nat) (l0 : List SIns) (m6 : List Sregion) : Nat → Option (Nat ⊕ (Unit ⊕ ((Option PImage) × SFault)))
 | i3 =>
  if (i3:Int)<(l0.length:Int) then
   match l0[i3]? with
   | none=>none
   | some e7 =>
    if e7.Op=11 then
     match punctualref_Image_inner.f K l0 m6 (i3:Int) with
     | none=>none
     | some r4 =>
      match punctualref_Image_inner.f K l0 m6 e7.A with
      | none=>none
      | some r5 =>
       if e7.A≤(i3:Int) then
        some (.inr (.inr (none,(punctualref_F.f 7 (i3:Int)))))
       else
        if e7.A > (l0.length:Int) then
         some (.inr (.inr (none,(punctualref_F.f 7 (i3:Int)))))
        else
         if r4.2=r5.2 then
          if (Sregion.eqb r4.1 r5.1)=true then
           some (.inl (i3+1))
          else
           some (.inr (.inr (none,(punctualref_F.f 7 (i3:Int)))))
         else
          some (.inr (.inr (none,(punctualref_F.f 7 (i3:Int)))))
    else
     if e7.Op=12 then
      match punctualref_Image_inner.f K l0 m6 (i3:Int) with
      | none=>none
      | some r6 =>
       match punctualref_Image_inner.f K l0 m6 e7.A with
       | none=>none
       | some r7 =>
        if e7.A≤(i3:Int) then
         some (.inr (.inr (none,(punctualref_F.f 7 (i3:Int)))))
        else
         if e7.A > (l0.length:Int) then
          some (.inr (.inr (none,(punctualref_F.f 7 (i3:Int)))))
         else
          if r6.2=r7.2 then
           if (Sregion.eqb r6.1 r7.1)=true then
            some (.inl (i3+1))
           else
            some (.inr (.inr (none,(punctualref_F.f 7 (i3:Int)))))
          else
           some (.inr (.inr (none,(punctualref_F.f 7 (i3:Int)))))
     else
      some (.inl (i3+1))
  else
   some (.inr (.inl ()))
def punctualref_ReadImage.f (K : Nat) (l0 : List SIns) : Option ((Option PImage) × SFault) :=
 if (l0.length:Int) > 2000 then
  some (none,(punctualref_F.f 2 0))
 else
  match iter (punctualref_ReadImage.r0 l0) K 0 with
  | none=>none
  | some (.inl _) =>
   match iter (punctualref_ReadImage.r1 K l0) K (0,([]:List Int),([]:List Sregion)) with
   | none=>none
   | some (.inl (m5,m6)) =>
    if (m5.length:Int) > 0 then
     match m5[0]? with
     | none=>none
     | some e5 =>
      if 0≤e5 then
       match l0[(e5).toNat]? with
       | none=>none
       | some e6 =>
        if e6.Op=13 then
         some (none,(punctualref_F.f 9 e5))
        else
         some (none,(punctualref_F.f 10 e5))
      else
       none
    else
     match iter (punctualref_ReadImage.r6 K l0 m6) K 0 with
     | none=>none
     | some (.inl _) =>
      match punctualref_stackFault.f K l0 with
      | none=>none
      | some r8 =>
       if r8.Code=0 then
        some ((some (⟨m6⟩:PImage)),(⟨0,0⟩:SFault))
       else
        some (none,r8)
     | some (.inr rr5) =>
      some rr5
   | some (.inr rr6) =>
    some rr6
  | some (.inr rr7) =>
   some rr7
abbrev punctualref_ReadImage.A0 (w0:World) (l0:List SIns) (A0:Option Addr) (c0:Nat) (b1:Nat) (b2:Nat):Nat→Act→World→Prop:=fun (s:Nat) a w=>St w0 w [Own.blk b2 (.cells #[vI 0,vI 0] 30 (0,0)),Own.blk b1 (.cells #[.slice A0 l0.length c0] 22 (0,0))]∧Frm 230 a [(1,pP b1 0),(3,pP b2 0),(24,.slice A0 l0.length c0),(25,vI (l0.length:Int)),(26,vI (s:Int))]
abbrev punctualref_ReadImage.B0 (w0:World) (l0:List SIns) (A0:Option Addr) (c0:Nat) (b1:Nat) (b2:Nat):(Unit ⊕ ((Option PImage)×SFault))→Exit→Act→World→Prop:=Exits 0 (fun (s:Unit) a w=>St w0 w [Own.blk b2 (.cells #[vI 0,vI 0] 30 (0,0)),Own.blk b1 (.cells #[.slice A0 l0.length c0] 22 (0,0))]∧Frm 230 a [(1,pP b1 0),(3,pP b2 0)]) (Rets Tryd.prog Tryd.f16 (punctualref_ReadImage.Post w0 l0 A0 c0))
theorem punctualref_ReadImage_r0 (K:Nat) (w0:World) (l0:List SIns) (A0:Option Addr) (c0:Nat) (hR0:RdL w0 A0 l0) (hL0:l0.length≤c0) (b1:Nat) (b2:Nat) (hc1:¬ ((l0.length:Int) > 2000)) (s:Nat) (o:Nat ⊕ (Unit ⊕ ((Option PImage)×SFault))) (h:punctualref_ReadImage.r0 l0 s=some o) (a:Act) (w:World) (hA:punctualref_ReadImage.A0 w0 l0 A0 c0 b1 b2 s a w) (Q:Exit→Act→World→Prop) (hQ:∀ x a w,Outs (punctualref_ReadImage.A0 w0 l0 A0 c0 b1 b2) (punctualref_ReadImage.B0 w0 l0 A0 c0 b1 b2) o x a w→Q x a w):(subF Tryd.f16 [1,1,0,1,0,0]).wp Tryd.prog Q a w:=by
 obtain ⟨i1,hs⟩:∃ z,z=s:=⟨s,rfl⟩
 subst hs
 obtain ⟨hS,hF⟩:=hA
 replace hS:St w0 w [Own.blk b2 (.cells #[vI 0,vI 0] 30 (0,0)),Own.blk b1 (.cells #[.slice A0 l0.length c0] 22 (0,0))]:=hS
 simp only [punctualref_ReadImage.r0] at h
 refine (?_:WE Tryd.prog 230 (subF Tryd.f16 [1,1,0,1,0,0]) Q [(1,pP b1 0),(3,pP b2 0),(24,.slice A0 l0.length c0),(25,vI (l0.length:Int)),(26,vI (i1:Int))] w) a hF
 clear hF a
 refine ws fun K7 hK7=>wr [(0,0)]<|gb0 [0] [(27,.bool (decide ((i1:Int)<(l0.length:Int))))] ?_
 refine gn hK7<|ws fun K8 hK8=>?_
 by_cases hc2:(i1:Int)<(l0.length:Int)
 ·rw [if_pos hc2] at h
  refine wk 27 (decide ((i1:Int)<(l0.length:Int))) true (decide_eq_true hc2) ?_
  refine we_true (by kernel_rfl) ?_
  refine we_skip fun a hF=>hK8 _ _ ?_ a hF
  refine ws fun K9 hK9=>we_block<|ws fun K10 hK10=>wr [(0,0),(1,0),(2,0),(3,1),(4,0),(5,2)]<|gb0 [0] [(28,vI (i1:Int))] ?_
  rcases hx3:l0[i1]? with _ | e1
  ·rw [hx3] at h; cases h
  rw [hx3] at h
  simp only [] at h
  refine gi 29 0 22 35 3 l0.length c0 (.tmp 24) (.tmp 26) A0 .i64 (i1:Int) i1 ((hS.rd hR0).eqSome (pos_of_get hx3)) rfl (lt_of_get hx3) ?_
  refine gb [2] [(30,.agg #[vI e1.Op,vI e1.A,vI e1.B])] [.loaded ⟨blkOf A0,offOf A0+i1*3,none⟩ (vI e1.Op),.loaded ⟨blkOf A0,offOf A0+i1*3+1,none⟩ (vI e1.A),.loaded ⟨blkOf A0,offOf A0+i1*3+2,none⟩ (vI e1.B)] ⟨RdL.cell (j:=0) (hS.rd hR0) hx3 rfl,RdL.cell (j:=1) (hS.rd hR0) hx3 rfl,RdL.cell (j:=2) (hS.rd hR0) hx3 rfl,trivial⟩ ?_
  refine gw (some 5) (.cells #[vI 0,vI 0,vI 0] 35) (fun b=>pP b 0) hS fun b3 w5 hx4 hS10=>?_
  refine gb0 [4] [(4,vI (i1:Int))] ?_
  refine gs b3 0 #[vI 0,vI 0,vI 0] 35 [vI e1.Op,vI e1.A,vI e1.B] hS10 fun w6 hS11=>?_
  have hS12:=hS11.nc #[vI e1.Op,vI e1.A,vI e1.B] rfl
  refine gn hK10<|ws fun K11 hK11=>wr [(0,0),(1,1),(2,0)] ?_
  rcases hq2:punctualref_wrongIns.f e1 with _ | r1
  ·rw [hq2] at h; cases h
  rw [hq2] at h
  simp only [] at h
  refine gb [0] [(31,.agg #[vI e1.Op,vI e1.A,vI e1.B])] [.loaded ⟨b3,0,none⟩ (vI e1.Op),.loaded ⟨b3,1,none⟩ (vI e1.A),.loaded ⟨b3,2,none⟩ (vI e1.B)] ⟨hS12.c 0,hS12.c 0,hS12.c 0,trivial⟩ ?_
  refine ge_call (d:=some 32) (f:=23) (args:=#[.agg #[vI e1.Op,vI e1.A,vI e1.B]]) (by kernel_rfl) (punctualref_wrongIns_ok e1 _ _ hq2) ?_
  rintro _ w7 ⟨rfl,hS13⟩
  refine ⟨_,rfl,hS13.below,?_⟩
  have hS14:=hS12.call hS13
  refine gb0 [2] [(6,vI r1)] ?_
  refine gn hK11<|ws fun K12 hK12=>wr [(0,0),(1,0)]<|gb0 [0,1] [(34,.bool (r1 != 0)),(33,vI r1)] ?_
  refine gn hK12 ?_
  by_cases hc3:r1=0
  ·rw [if_pos hc3] at h
   refine wk 34 (r1 != 0) false (bne_eq_false_iff_eq.2 hc3) ?_
   refine we_false (by kernel_rfl) ?_
   refine we_skip fun a hF=>hK9 _ _ ?_ a hF
   refine wr [(0,0),(1,0)]<|ge_addn (d:=38) (ty:=3) (x:=(.tmp 26)) (y:=(.const (vI 1))) (t:=3) (t2:=3) (k:=.i64) (m:=i1) (by kernel_rfl) (by kernel_rfl) (by kernel_rfl) (by have h0:=hR0.small; omega) ?_
   refine gb0 [1] [(26,vI ((i1+1:Nat):Int))] ?_
   have hS17:=((hS14.b 2).b 2).takeN 2
   obtain rfl:=si h
   exact ge_nil fun a hF=>hQ _ _ _ (Outs.again ⟨hS17,hF.weaken ea⟩)
  rw [if_neg hc3] at h
  refine wk 34 (r1 != 0) true (bne_iff_ne.2 hc3) ?_
  refine we_true (by kernel_rfl) ?_
  refine ws fun K13 hK13=>wr [(0,0),(1,0),(2,1),(3,0),(4,2)]<|gb0 [0,1] [(36,vI (i1:Int)),(35,vI r1)] ?_
  refine ge_call (d:=some 37) (f:=17) (args:=#[vI r1,vI (i1:Int)]) (by kernel_rfl) (punctualref_F_ok r1 (i1:Int) _ _ rfl) ?_
  rintro _ w8 ⟨rfl,hS18⟩
  refine ⟨_,rfl,hS18.below,?_⟩
  have hS19:=hS14.call hS18
  refine gb0 [3] [(2,.pointer none)] ?_
  have hS20:=hS19.b 1
  refine gs b2 0 #[vI 0,vI 0] 30 [vI ((punctualref_F.f r1 (i1:Int)).Code),vI ((punctualref_F.f r1 (i1:Int)).At)] hS20 fun w9 hS21=>?_
  have hS22:=hS21.nc #[vI ((punctualref_F.f r1 (i1:Int)).Code),vI ((punctualref_F.f r1 (i1:Int)).At)] rfl
  refine gn hK13 ?_
  have hS23:=hS22.takeN 0
  obtain rfl:=si h
  exact we_ret fun a hF=>hQ _ _ _ (Outs.out nofun (Exits.on ⟨rfl,(pr [.tmp 2,.cell 3 30] [.pointer none,.agg #[vI ((punctualref_F.f r1 (i1:Int)).Code),vI ((punctualref_F.f r1 (i1:Int)).At)]] [.loaded ⟨b2,0,none⟩ (vI ((punctualref_F.f r1 (i1:Int)).Code)),.loaded ⟨b2,1,none⟩ (vI ((punctualref_F.f r1 (i1:Int)).At))] ⟨hS22.c 0,hS22.c 0,trivial⟩ ⟨rfl,hS23⟩) a hF⟩))
 rw [if_neg hc2] at h
 refine wk 27 (decide ((i1:Int)<(l0.length:Int))) false (decide_eq_false hc2) ?_
 refine we_false (by kernel_rfl) ?_
 have hS25:=(hS.b 1).b 1
 obtain rfl:=si h
 exact we_exit fun a hF=>hQ _ _ _ (Outs.out nofun (Exits.here ⟨hS25,hF.weaken ea⟩))
abbrev punctualref_ReadImage.A2 (w0:World) (l0:List SIns) (A0:Option Addr) (c0:Nat) (b1:Nat) (b2:Nat) (b4:Nat) (b5:Nat) (i2:Nat) (m1:List Int) (m2:List Sregion) (e2:SIns) (b6:Nat) (Z1:Option Addr) (cz1:Nat) (Z2:Option Addr) (cz2:Nat):Int→Act→World→Prop:=fun (s:Int) a w=>St w0 w [Own.blk b6 (.cells #[vI e2.Op,vI e2.A,vI e2.B] 35 (0,0)),Own.blk b5 (.cells #[(.slice Z1 m1.length cz1)] 23 (0,0)),Own.blk b4 (.cells #[.slice A0 l0.length c0,(.slice Z2 m2.length cz2)] 68 (0,0)),Own.blk b2 (.cells #[vI 0,vI 0] 30 (0,0)),Own.blk b1 (.cells #[.slice A0 l0.length c0] 22 (0,0)),Own.of (.slice Z1 m1.length cz1) 3 m1,Own.of (.slice Z2 m2.length cz2) 73 m2]∧Frm 230 a [(1,pP b1 0),(3,pP b2 0),(7,pP b4 0),(8,pP b5 0),(9,vI (i2:Int)),(10,pP b6 0),(11,vI s),(42,.slice A0 l0.length c0),(43,vI (l0.length:Int)),(44,vI (i2:Int))]
abbrev punctualref_ReadImage.B2 (w0:World) (l0:List SIns) (A0:Option Addr) (c0:Nat):((Option PImage)×SFault)→Exit→Act→World→Prop:=Rets Tryd.prog Tryd.f16 (punctualref_ReadImage.Post w0 l0 A0 c0)
theorem punctualref_ReadImage_p2 (K:Nat) (w0:World) (l0:List SIns) (A0:Option Addr) (c0:Nat) (hR0:RdL w0 A0 l0) (hL0:l0.length≤c0) (b1:Nat) (b2:Nat) (hc1:¬ ((l0.length:Int) > 2000)) (b4:Nat) (b5:Nat) (i2:Nat) (m1:List Int) (m2:List Sregion) (hc4:(i2:Int)<(l0.length:Int)) (e2:SIns) (hx7:l0[i2]?=some e2) (b6:Nat) (Z1:Option Addr) (cz1:Nat) (Z2:Option Addr) (cz2:Nat) (o:Int ⊕ ((Option PImage)×SFault)) (h:punctualref_ReadImage.p2 m1=some o) (w:World) (hS:St w0 w [Own.blk b6 (.cells #[vI e2.Op,vI e2.A,vI e2.B] 35 (0,0)),Own.blk b5 (.cells #[(.slice Z1 m1.length cz1)] 23 (0,0)),Own.blk b4 (.cells #[.slice A0 l0.length c0,(.slice Z2 m2.length cz2)] 68 (0,0)),Own.blk b2 (.cells #[vI 0,vI 0] 30 (0,0)),Own.blk b1 (.cells #[.slice A0 l0.length c0] 22 (0,0)),Own.of (.slice Z1 m1.length cz1) 3 m1,Own.of (.slice Z2 m2.length cz2) 73 m2]) (Q:Exit→Act→World→Prop) (hQ:∀ x a w,Outs (punctualref_ReadImage.A2 w0 l0 A0 c0 b1 b2 b4 b5 i2 m1 m2 e2 b6 Z1 cz1 Z2 cz2) (punctualref_ReadImage.B2 w0 l0 A0 c0) o x a w→Q x a w):WE Tryd.prog 230 (subF Tryd.f16 [1,1,1,1,1,0,1,0,0,1,1,0,0,1,1,0]) Q [(1,pP b1 0),(3,pP b2 0),(7,pP b4 0),(8,pP b5 0),(9,vI (i2:Int)),(10,pP b6 0),(11,vI (-1)),(42,.slice A0 l0.length c0),(43,vI (l0.length:Int)),(44,vI (i2:Int)),(45,.bool true),(46,vI (i2:Int)),(47,.pointer (some ⟨blkOf A0,offOf A0+i2*3,none⟩)),(48,.agg #[vI e2.Op,vI e2.A,vI e2.B])] w:=by
 simp only [punctualref_ReadImage.p2] at h
 refine ws fun K24 hK24=>wr [(0,0),(1,0),(2,0)]<|gb [0,1,2] [(51,.bool (decide ((m1.length:Int) > 0))),(50,vI (m1.length:Int)),(49,(.slice Z1 m1.length cz1))] [.loaded ⟨b5,0,none⟩ ((.slice Z1 m1.length cz1))] ⟨hS.c 1,trivial⟩ ?_
 refine gn hK24 ?_
 by_cases hc5:(m1.length:Int) > 0
 ·rw [if_pos hc5] at h
  refine wk 51 (decide ((m1.length:Int) > 0)) true (decide_eq_true hc5) ?_
  refine we_true (by kernel_rfl) ?_
  refine wr [(0,0),(1,0),(2,0),(3,0),(4,0),(5,0),(6,0)]<|gb [0,1,2,3] [(55,vI (IntKind.i64.wrap ((m1.length:Int)-1))),(54,vI (m1.length:Int)),(53,(.slice Z1 m1.length cz1)),(52,(.slice Z1 m1.length cz1))] [.loaded ⟨b5,0,none⟩ ((.slice Z1 m1.length cz1)),.loaded ⟨b5,0,none⟩ ((.slice Z1 m1.length cz1))] ⟨hS.c 1,hS.c 1,trivial⟩ ?_
  by_cases hc6:0≤(IntKind.i64.wrap ((m1.length:Int)-1))
  ·rw [if_pos hc6] at h
   rcases hx9:m1[(IntKind.i64.wrap ((m1.length:Int)-1)).toNat]? with _ | e3
   ·rw [hx9] at h; cases h
   rw [hx9] at h
   simp only [] at h
   refine gi 56 0 23 3 1 m1.length cz1 (.tmp 52) (.tmp 55) Z1 .i64 (IntKind.i64.wrap ((m1.length:Int)-1)) ((IntKind.i64.wrap ((m1.length:Int)-1)).toNat) ((hS.rdAt 5 rfl).eqSome (pos_of_get hx9)) (Int.toNat_of_nonneg hc6).symm (lt_of_get hx9) ?_
   refine gb [5,6] [(11,vI e3),(57,vI e3)] [.loaded ⟨blkOf Z1,offOf Z1+((IntKind.i64.wrap ((m1.length:Int)-1)).toNat)*1,none⟩ (vI e3)] ⟨RdL.cell (j:=0) (hS.rdAt 5 rfl) hx9 rfl,trivial⟩ ?_
   have hS45:=((((((hS.b 6).b 6).b 6).b 6).b 6).b 6).b 6
   obtain rfl:=si h
   exact ge_nil fun a hF=>hQ _ _ _ (Outs.again ⟨hS45,hF.weaken ea⟩)
  rw [if_neg hc6] at h
  cases h
 rw [if_neg hc5] at h
 refine wk 51 (decide ((m1.length:Int) > 0)) false (decide_eq_false hc5) ?_
 refine we_false (by kernel_rfl) ?_
 have hS52:=((((((hS.b 6).b 6).b 6).b 6).b 6).b 6).b 6
 obtain rfl:=si h
 exact we_skip fun a hF=>hQ _ _ _ (Outs.again ⟨hS52,hF.weaken ea⟩)
abbrev punctualref_ReadImage.A3 (w0:World) (l0:List SIns) (A0:Option Addr) (c0:Nat) (b1:Nat) (b2:Nat) (b4:Nat) (b5:Nat) (i2:Nat) (m1:List Int) (m2:List Sregion) (e2:SIns) (b6:Nat) (Z1:Option Addr) (cz1:Nat) (Z2:Option Addr) (cz2:Nat) (z2:Int):Bool→Act→World→Prop:=fun (s:Bool) a w=>St w0 w [Own.blk b6 (.cells #[vI e2.Op,vI e2.A,vI e2.B] 35 (0,0)),Own.blk b5 (.cells #[(.slice Z1 m1.length cz1)] 23 (0,0)),Own.blk b4 (.cells #[.slice A0 l0.length c0,(.slice Z2 m2.length cz2)] 68 (0,0)),Own.blk b2 (.cells #[vI 0,vI 0] 30 (0,0)),Own.blk b1 (.cells #[.slice A0 l0.length c0] 22 (0,0)),Own.of (.slice Z1 m1.length cz1) 3 m1,Own.of (.slice Z2 m2.length cz2) 73 m2]∧Frm 230 a [(1,pP b1 0),(3,pP b2 0),(7,pP b4 0),(8,pP b5 0),(9,vI (i2:Int)),(10,pP b6 0),(11,vI z2),(12,.func (.func 24) #[] #[pP b5 0,pP b1 0,pP b6 0]),(42,.slice A0 l0.length c0),(43,vI (l0.length:Int)),(44,vI (i2:Int)),(60,vI e2.Op),(61,.bool s)]
abbrev punctualref_ReadImage.B3 (w0:World) (l0:List SIns) (A0:Option Addr) (c0:Nat):((Option PImage)×SFault)→Exit→Act→World→Prop:=Rets Tryd.prog Tryd.f16 (punctualref_ReadImage.Post w0 l0 A0 c0)
theorem punctualref_ReadImage_p3 (K:Nat) (w0:World) (l0:List SIns) (A0:Option Addr) (c0:Nat) (hR0:RdL w0 A0 l0) (hL0:l0.length≤c0) (b1:Nat) (b2:Nat) (hc1:¬ ((l0.length:Int) > 2000)) (b4:Nat) (b5:Nat) (i2:Nat) (m1:List Int) (m2:List Sregion) (hc4:(i2:Int)<(l0.length:Int)) (e2:SIns) (hx7:l0[i2]?=some e2) (b6:Nat) (Z1:Option Addr) (cz1:Nat) (Z2:Option Addr) (cz2:Nat) (z2:Int) (o:Bool ⊕ ((Option PImage)×SFault)) (h:punctualref_ReadImage.p3 e2=some o) (w:World) (hS:St w0 w [Own.blk b6 (.cells #[vI e2.Op,vI e2.A,vI e2.B] 35 (0,0)),Own.blk b5 (.cells #[(.slice Z1 m1.length cz1)] 23 (0,0)),Own.blk b4 (.cells #[.slice A0 l0.length c0,(.slice Z2 m2.length cz2)] 68 (0,0)),Own.blk b2 (.cells #[vI 0,vI 0] 30 (0,0)),Own.blk b1 (.cells #[.slice A0 l0.length c0] 22 (0,0)),Own.of (.slice Z1 m1.length cz1) 3 m1,Own.of (.slice Z2 m2.length cz2) 73 m2]) (Q:Exit→Act→World→Prop) (hQ:∀ x a w,Outs (punctualref_ReadImage.A3 w0 l0 A0 c0 b1 b2 b4 b5 i2 m1 m2 e2 b6 Z1 cz1 Z2 cz2 z2) (punctualref_ReadImage.B3 w0 l0 A0 c0) o x a w→Q x a w):WE Tryd.prog 230 (subF Tryd.f16 [1,1,1,1,1,0,1,0,0,1,1,0,0,1,1,1,1,1,0,0]) Q [(1,pP b1 0),(3,pP b2 0),(7,pP b4 0),(8,pP b5 0),(9,vI (i2:Int)),(10,pP b6 0),(11,vI z2),(12,.func (.func 24) #[] #[pP b5 0,pP b1 0,pP b6 0]),(42,.slice A0 l0.length c0),(43,vI (l0.length:Int)),(44,vI (i2:Int)),(58,.func (.func 24) #[] #[pP b5 0,pP b1 0,pP b6 0]),(59,pP b6 0),(60,vI e2.Op)] w:=by
 simp only [punctualref_ReadImage.p3] at h
 refine ws fun K28 hK28=>wr [(0,0),(1,0)]<|gb0 [0,1] [(61,.bool (e2.Op==13)),(62,.bool (e2.Op==13))] ?_
 refine gn hK28 ?_
 by_cases hc7:e2.Op=13
 ·rw [if_pos hc7] at h
  refine wk 61 (e2.Op==13) true (beq_iff_eq.2 hc7) ?_
  refine we_true (by kernel_rfl) ?_
  have hS60:=((((((hS.b 6).b 6).b 6).b 6).b 6).b 6).b 6
  obtain rfl:=si h
  exact we_skip fun a hF=>hQ _ _ _ (Outs.again ⟨hS60,hF.weaken ea⟩)
 rw [if_neg hc7] at h
 refine wk 61 (e2.Op==13) false (beq_eq_false_iff_ne.2 hc7) ?_
 refine we_false (by kernel_rfl) ?_
 refine wr [(0,0),(1,0)]<|gb0 [0,1] [(61,.bool (e2.Op==16)),(63,.bool (e2.Op==16))] ?_
 have hS67:=((((((hS.b 6).b 6).b 6).b 6).b 6).b 6).b 6
 obtain rfl:=si h
 exact ge_nil fun a hF=>hQ _ _ _ (Outs.again ⟨hS67,hF.weaken ea⟩)
abbrev punctualref_ReadImage.A4 (w0:World) (l0:List SIns) (A0:Option Addr) (c0:Nat) (b1:Nat) (b2:Nat) (b4:Nat) (b5:Nat) (i2:Nat) (m1:List Int) (m2:List Sregion) (e2:SIns) (b6:Nat) (Z1:Option Addr) (cz1:Nat) (Z2:Option Addr) (cz2:Nat) (z2:Int):Bool→Act→World→Prop:=fun (s:Bool) a w=>St w0 w [Own.blk b6 (.cells #[vI e2.Op,vI e2.A,vI e2.B] 35 (0,0)),Own.blk b5 (.cells #[(.slice Z1 m1.length cz1)] 23 (0,0)),Own.blk b4 (.cells #[.slice A0 l0.length c0,(.slice Z2 m2.length cz2)] 68 (0,0)),Own.blk b2 (.cells #[vI 0,vI 0] 30 (0,0)),Own.blk b1 (.cells #[.slice A0 l0.length c0] 22 (0,0)),Own.of (.slice Z1 m1.length cz1) 3 m1,Own.of (.slice Z2 m2.length cz2) 73 m2]∧Frm 230 a [(1,pP b1 0),(3,pP b2 0),(7,pP b4 0),(8,pP b5 0),(9,vI (i2:Int)),(10,pP b6 0),(11,vI z2),(12,.func (.func 24) #[] #[pP b5 0,pP b1 0,pP b6 0]),(42,.slice A0 l0.length c0),(43,vI (l0.length:Int)),(44,vI (i2:Int)),(60,vI e2.Op),(79,.bool s)]
abbrev punctualref_ReadImage.B4 (w0:World) (l0:List SIns) (A0:Option Addr) (c0:Nat):((Option PImage)×SFault)→Exit→Act→World→Prop:=Rets Tryd.prog Tryd.f16 (punctualref_ReadImage.Post w0 l0 A0 c0)
theorem punctualref_ReadImage_p4 (K:Nat) (w0:World) (l0:List SIns) (A0:Option Addr) (c0:Nat) (hR0:RdL w0 A0 l0) (hL0:l0.length≤c0) (b1:Nat) (b2:Nat) (hc1:¬ ((l0.length:Int) > 2000)) (b4:Nat) (b5:Nat) (i2:Nat) (m1:List Int) (m2:List Sregion) (hc4:(i2:Int)<(l0.length:Int)) (e2:SIns) (hx7:l0[i2]?=some e2) (b6:Nat) (Z1:Option Addr) (cz1:Nat) (Z2:Option Addr) (cz2:Nat) (z2:Int) (q2:Bool) (hc8:¬ (q2=true)) (o:Bool ⊕ ((Option PImage)×SFault)) (h:punctualref_ReadImage.p4 e2=some o) (w:World) (hS:St w0 w [Own.blk b6 (.cells #[vI e2.Op,vI e2.A,vI e2.B] 35 (0,0)),Own.blk b5 (.cells #[(.slice Z1 m1.length cz1)] 23 (0,0)),Own.blk b4 (.cells #[.slice A0 l0.length c0,(.slice Z2 m2.length cz2)] 68 (0,0)),Own.blk b2 (.cells #[vI 0,vI 0] 30 (0,0)),Own.blk b1 (.cells #[.slice A0 l0.length c0] 22 (0,0)),Own.of (.slice Z1 m1.length cz1) 3 m1,Own.of (.slice Z2 m2.length cz2) 73 m2]) (Q:Exit→Act→World→Prop) (hQ:∀ x a w,Outs (punctualref_ReadImage.A4 w0 l0 A0 c0 b1 b2 b4 b5 i2 m1 m2 e2 b6 Z1 cz1 Z2 cz2 z2) (punctualref_ReadImage.B4 w0 l0 A0 c0) o x a w→Q x a w):WE Tryd.prog 230 (subF Tryd.f16 [1,1,1,1,1,0,1,0,0,1,1,0,0,1,1,1,1,1,0,1,1,0]) Q [(1,pP b1 0),(3,pP b2 0),(7,pP b4 0),(8,pP b5 0),(9,vI (i2:Int)),(10,pP b6 0),(11,vI z2),(12,.func (.func 24) #[] #[pP b5 0,pP b1 0,pP b6 0]),(42,.slice A0 l0.length c0),(43,vI (l0.length:Int)),(44,vI (i2:Int)),(60,vI e2.Op),(61,.bool false)] w:=by
 simp only [punctualref_ReadImage.p4] at h
 refine ws fun K33 hK33=>wr [(0,0),(1,0)]<|gb0 [0,1] [(79,.bool (e2.Op==14)),(80,.bool (e2.Op==14))] ?_
 refine gn hK33 ?_
 by_cases hc11:e2.Op=14
 ·rw [if_pos hc11] at h
  refine wk 79 (e2.Op==14) true (beq_iff_eq.2 hc11) ?_
  refine we_true (by kernel_rfl) ?_
  have hS100:=((((((hS.b 6).b 6).b 6).b 6).b 6).b 6).b 6
  obtain rfl:=si h
  exact we_skip fun a hF=>hQ _ _ _ (Outs.again ⟨hS100,hF.weaken ea⟩)
 rw [if_neg hc11] at h
 refine wk 79 (e2.Op==14) false (beq_eq_false_iff_ne.2 hc11) ?_
 refine we_false (by kernel_rfl) ?_
 refine wr [(0,0),(1,0)]<|gb0 [0,1] [(79,.bool (e2.Op==17)),(81,.bool (e2.Op==17))] ?_
 have hS107:=((((((hS.b 6).b 6).b 6).b 6).b 6).b 6).b 6
 obtain rfl:=si h
 exact ge_nil fun a hF=>hQ _ _ _ (Outs.again ⟨hS107,hF.weaken ea⟩)
abbrev punctualref_ReadImage.A5 (w0:World) (l0:List SIns) (A0:Option Addr) (c0:Nat) (b1:Nat) (b2:Nat) (b4:Nat) (b5:Nat) (i2:Nat) (m1:List Int) (m2:List Sregion) (Z1:Option Addr) (cz1:Nat) (Z2:Option Addr) (cz2:Nat) (z2:Int):Unit→Act→World→Prop:=fun (s:Unit) a w=>St w0 w [Own.blk b5 (.cells #[(.slice Z1 m1.length cz1)] 23 (0,0)),Own.blk b4 (.cells #[.slice A0 l0.length c0,(.slice Z2 m2.length cz2)] 68 (0,0)),Own.blk b2 (.cells #[vI 0,vI 0] 30 (0,0)),Own.blk b1 (.cells #[.slice A0 l0.length c0] 22 (0,0)),Own.of (.slice Z1 m1.length cz1) 3 m1,Own.of (.slice Z2 m2.length cz2) 73 m2]∧Frm 230 a [(1,pP b1 0),(3,pP b2 0),(7,pP b4 0),(8,pP b5 0),(9,vI (i2:Int)),(11,vI z2),(42,.slice A0 l0.length c0),(43,vI (l0.length:Int)),(44,vI (i2:Int))]
abbrev punctualref_ReadImage.B5 (w0:World) (l0:List SIns) (A0:Option Addr) (c0:Nat):((Option PImage)×SFault)→Exit→Act→World→Prop:=Rets Tryd.prog Tryd.f16 (punctualref_ReadImage.Post w0 l0 A0 c0)
theorem punctualref_ReadImage_p5 (K:Nat) (w0:World) (l0:List SIns) (A0:Option Addr) (c0:Nat) (hR0:RdL w0 A0 l0) (hL0:l0.length≤c0) (b1:Nat) (b2:Nat) (hc1:¬ ((l0.length:Int) > 2000)) (b4:Nat) (b5:Nat) (i2:Nat) (m1:List Int) (m2:List Sregion) (hc4:(i2:Int)<(l0.length:Int)) (e2:SIns) (hx7:l0[i2]?=some e2) (b6:Nat) (Z1:Option Addr) (cz1:Nat) (Z2:Option Addr) (cz2:Nat) (z2:Int) (q2:Bool) (hc8:¬ (q2=true)) (q4:Bool) (hc12:q4=true) (o:Unit ⊕ ((Option PImage)×SFault)) (h:punctualref_ReadImage.p5 l0 i2 e2 z2=some o) (w:World) (hS:St w0 w [Own.blk b6 (.cells #[vI e2.Op,vI e2.A,vI e2.B] 35 (0,0)),Own.blk b5 (.cells #[(.slice Z1 m1.length cz1)] 23 (0,0)),Own.blk b4 (.cells #[.slice A0 l0.length c0,(.slice Z2 m2.length cz2)] 68 (0,0)),Own.blk b2 (.cells #[vI 0,vI 0] 30 (0,0)),Own.blk b1 (.cells #[.slice A0 l0.length c0] 22 (0,0)),Own.of (.slice Z1 m1.length cz1) 3 m1,Own.of (.slice Z2 m2.length cz2) 73 m2]) (Q:Exit→Act→World→Prop) (hQ:∀ x a w,Outs (punctualref_ReadImage.A5 w0 l0 A0 c0 b1 b2 b4 b5 i2 m1 m2 Z1 cz1 Z2 cz2 z2) (punctualref_ReadImage.B5 w0 l0 A0 c0) o x a w→Q x a w):WE Tryd.prog 230 (subF Tryd.f16 [1,1,1,1,1,0,1,0,0,1,1,0,0,1,1,1,1,1,0,1,1,1,0,0]) Q [(1,pP b1 0),(3,pP b2 0),(7,pP b4 0),(8,pP b5 0),(9,vI (i2:Int)),(10,pP b6 0),(11,vI z2),(12,.func (.func 24) #[] #[pP b5 0,pP b1 0,pP b6 0]),(42,.slice A0 l0.length c0),(43,vI (l0.length:Int)),(44,vI (i2:Int)),(60,vI e2.Op),(79,.bool true)] w:=by
 simp only [punctualref_ReadImage.p5] at h
 refine ws fun K35 hK35=>we_orders3 (by kernel_rfl) [(3,[⟨b1,0,none⟩],[],[]),(7,[⟨blkOf A0,offOf A0+((z2).toNat)*3,none⟩],[],[]),(13,[⟨b6,0,none⟩],[],[]),(18,[⟨b1,0,none⟩],[],[17,16,15,14,11,10,9,8]),(22,[⟨blkOf A0,offOf A0+((z2).toNat)*3+1,none⟩],[],[21,20,19,18,17,16,15,14,11,10,9,8]),(24,[⟨b6,1,none⟩],[],[23,17,16,15,14,11,10,9,8]),(29,[⟨b6,0,none⟩],[],[28,27,26,25,24,23,22,21,20,19,18,17,16,15,14,11,10,9,8]),(33,[⟨b6,2,none⟩],[],[32,31,30,29,28,27,26,25,24,23,22,21,20,19,18,17,16,15,14,11,10,9,8])] (.vals [0] (.vals [1] (.vals [2] (.vals [3] (.vals [4] (.vals [5] (.vals [6] (.vals [7] (.vals [12] (.vals [13] (.alt 8 1 (.alt 9 2 (.alt 10 2 (.vals [11] (.alt 14 1 (.vals [15] (.vals [16] (.vals [17] (.vals [18] (.vals [19] (.vals [20] (.vals [21] (.vals [22] (.vals [23] (.vals [24] (.vals [25] (.vals [26] (.vals [27] (.vals [28] (.vals [29] (.vals [30] (.vals [31] (.vals [32] (.vals [33] (.vals [34] (.vals [35] (.vals [36] (.vals [37] (.vals [38] .fin)))))))))))))))))))))))) .nomore)) .nomore) (.alt 10 2 (.alt 9 2 (.vals [11] (.alt 14 1 (.vals [15] (.vals [16] (.vals [17] (.vals [18] (.vals [19] (.vals [20] (.vals [21] (.vals [22] (.vals [23] (.vals [24] (.vals [25] (.vals [26] (.vals [27] (.vals [28] (.vals [29] (.vals [30] (.vals [31] (.vals [32] (.vals [33] (.vals [34] (.vals [35] (.vals [36] (.vals [37] (.vals [38] .fin)))))))))))))))))))))))) .nomore)) .nomore) .nomore)) .nomore))))))))))) (by kernel_rfl) (by kernel_rfl) ?_
 have hS109:=hS.drew
 refine g30 [0,1,2] [(84,.bool (decide (z2<0))),(83,.bool (decide (z2<0))),(82,vI z2)] ?_
 by_cases hc13:z2<0
 ·rw [if_pos hc13] at h
  refine go3_known (t:=84) (b:=decide (z2<0)) (c:=true) (by kernel_rfl) (decide_eq_true hc13) ?_
  refine g30 [3,4,5,6,7,12,13] [(93,undef),(92,undef),(89,undef),(88,undef),(87,undef),(86,undef),(85,undef)] ?_
  refine go_alt3 (fun KK hKK=>?_) ?_
  ·refine ge_one2<|ge_off rfl rfl rfl (by kernel_rfl) ?_
   refine ge_nil fun a hF=>hKK _ _ (RS.refl _ _) ?_ a hF
   refine go_alt3 (fun KK hKK=>?_) ?_
   ·refine ge_offN rfl rfl (by kernel_rfl) ?_
    refine ge_nil fun a hF=>hKK _ _ (RS.refl _ _) ?_ a hF
    refine go_alt3 (fun KK hKK=>?_) ?_
    ·refine ge_offN rfl rfl (by kernel_rfl) ?_
     refine ge_nil fun a hF=>hKK _ _ (RS.refl _ _) ?_ a hF
     refine g30 [11] [(91,undef)] ?_
     refine go_alt3 (fun KK hKK=>?_) ?_
     ·refine ge_off rfl rfl rfl (by kernel_rfl) ?_
      refine ge_nil fun a hF=>hKK _ _ (RS.refl _ _) ?_ a hF
      refine g30 [15,16,17,18,19,20,21,22,23,24,25,26,27,28,29,30,31,32,33,34,35,36,37,38] [(118,.bool true),(117,undef),(116,undef),(115,undef),(114,undef),(113,undef),(112,undef),(111,undef),(110,undef),(109,undef),(108,undef),(107,.bool true),(106,.bool true),(105,undef),(104,undef),(103,undef),(102,undef),(101,undef),(100,undef),(99,undef),(98,undef),(97,.bool true),(96,.bool true),(95,undef)] ?_
      refine go_fin3 fun a hF=>hK35 _ _ ?_ a hF
      refine we_true (by kernel_rfl) ?_
      refine ws fun K36 hK36=>wr [(0,1),(1,2),(2,2),(3,0),(4,0),(5,0),(6,0),(7,0),(8,1),(9,0),(10,2)]<|gw (some 119) (.map #[] 0) (fun b=>.map (some b)) hS109 fun b9 w27 hx12 hS110=>?_
      have hS111:=hS110.newMap (κ:=Int) (ν:=Int)
      refine ge_mapSet (κ:=Int) (ν:=Int) (b:=b9) (ins:=true) (mm:=0) (t:=70) (kt:=3) (et:=28) (x:=(.tmp 119)) (y:=(.const (vI 14))) (u:=(.const (vI 9))) (ty:=0) (m:=([]:List (Int×Int))) (k:=14) (v:=9) (vv:=vI 9) (by kernel_rfl) (by kernel_rfl) (by kernel_rfl) (by kernel_rfl) rfl (by kernel_rfl) (by kernel_rfl) hS111 fun w28 hS112=>?_
      refine ge_mapSet (κ:=Int) (ν:=Int) (b:=b9) (ins:=true) (mm:=0) (t:=70) (kt:=3) (et:=28) (x:=(.tmp 119)) (y:=(.const (vI 17))) (u:=(.const (vI 10))) (ty:=0) (m:=(mset ([]:List (Int×Int)) 14 9)) (k:=17) (v:=10) (vv:=vI 10) (by kernel_rfl) (by kernel_rfl) (by kernel_rfl) (by kernel_rfl) rfl (by kernel_rfl) (by kernel_rfl) hS112 fun w29 hS113=>?_
      refine gb [3,4,5] [(122,vI e2.Op),(121,pP b6 0),(120,.map (some b9))] [.loaded ⟨b6,0,none⟩ (vI e2.Op)] ⟨hS113.c 1,trivial⟩ ?_
      refine ge_lookup (κ:=Int) (ν:=Int) (d:=123) (b:=b9) (q:=0) (t:=70) (kt:=3) (et:=28) (x:=(.tmp 120)) (y:=(.tmp 122)) (ty:=28) (m:=(mset (mset ([]:List (Int×Int)) 14 9) 17 10)) (k:=e2.Op) (z:=0) (v:=((mget (mset (mset ([]:List (Int×Int)) 14 9) 17 10) e2.Op).getD 0)) (zv:=vI 0) (vv:=vI ((mget (mset (mset ([]:List (Int×Int)) 14 9) 17 10) e2.Op).getD 0)) (by kernel_rfl) (by kernel_rfl) (by kernel_rfl) (by kernel_rfl) (by kernel_rfl) (fun w'=>by kernel_rfl) rfl hS113 rfl rfl rfl ?_
      refine gb0 [7] [(124,vI (i2:Int))] ?_
      refine ge_call (d:=some 125) (f:=17) (args:=#[vI ((mget (mset (mset ([]:List (Int×Int)) 14 9) 17 10) e2.Op).getD 0),vI (i2:Int)]) (by kernel_rfl) (punctualref_F_ok ((mget (mset (mset ([]:List (Int×Int)) 14 9) 17 10) e2.Op).getD 0) (i2:Int) _ _ rfl) ?_
      rintro _ w30 ⟨rfl,hS114⟩
      refine ⟨_,rfl,hS114.below,?_⟩
      have hS115:=hS113.call hS114
      refine gb0 [9] [(2,.pointer none)] ?_
      have hS116:=hS115.b 4
      refine gs b2 0 #[vI 0,vI 0] 30 [vI ((punctualref_F.f ((mget (mset (mset ([]:List (Int×Int)) 14 9) 17 10) e2.Op).getD 0) (i2:Int)).Code),vI ((punctualref_F.f ((mget (mset (mset ([]:List (Int×Int)) 14 9) 17 10) e2.Op).getD 0) (i2:Int)).At)] hS116 fun w31 hS117=>?_
      have hS118:=hS117.nc #[vI ((punctualref_F.f ((mget (mset (mset ([]:List (Int×Int)) 14 9) 17 10) e2.Op).getD 0) (i2:Int)).Code),vI ((punctualref_F.f ((mget (mset (mset ([]:List (Int×Int)) 14 9) 17 10) e2.Op).getD 0) (i2:Int)).At)] rfl
      refine gn hK36 ?_
      have hS119:=hS118.takeN 0
      obtain rfl:=si h
      exact we_ret fun a hF=>hQ _ _ _ (Outs.out nofun ⟨rfl,(pr [.tmp 2,.cell 3 30] [.pointer none,.agg #[vI ((punctualref_F.f ((mget (mset (mset ([]:List (Int×Int)) 14 9) 17 10) e2.Op).getD 0) (i2:Int)).Code),vI ((punctualref_F.f ((mget (mset (mset ([]:List (Int×Int)) 14 9) 17 10) e2.Op).getD 0) (i2:Int)).At)]] [.loaded ⟨b2,0,none⟩ (vI ((punctualref_F.f ((mget (mset (mset ([]:List (Int×Int)) 14 9) 17 10) e2.Op).getD 0) (i2:Int)).Code)),.loaded ⟨b2,1,none⟩ (vI ((punctualref_F.f ((mget (mset (mset ([]:List (Int×Int)) 14 9) 17 10) e2.Op).getD 0) (i2:Int)).At))] ⟨hS118.c 0,hS118.c 0,trivial⟩ ⟨rfl,hS119⟩) a hF⟩)
     exact go_nomore3
    exact go_nomore3
   refine go_alt3 (fun KK hKK=>?_) ?_
   ·refine ge_offN rfl rfl (by kernel_rfl) ?_
    refine ge_nil fun a hF=>hKK _ _ (RS.refl _ _) ?_ a hF
    refine go_alt3 (fun KK hKK=>?_) ?_
    ·refine ge_offN rfl rfl (by kernel_rfl) ?_
     refine ge_nil fun a hF=>hKK _ _ (RS.refl _ _) ?_ a hF
     refine g30 [11] [(91,undef)] ?_
     refine go_alt3 (fun KK hKK=>?_) ?_
     ·refine ge_off rfl rfl rfl (by kernel_rfl) ?_
      refine ge_nil fun a hF=>hKK _ _ (RS.refl _ _) ?_ a hF
      refine g30 [15,16,17,18,19,20,21,22,23,24,25,26,27,28,29,30,31,32,33,34,35,36,37,38] [(118,.bool true),(117,undef),(116,undef),(115,undef),(114,undef),(113,undef),(112,undef),(111,undef),(110,undef),(109,undef),(108,undef),(107,.bool true),(106,.bool true),(105,undef),(104,undef),(103,undef),(102,undef),(101,undef),(100,undef),(99,undef),(98,undef),(97,.bool true),(96,.bool true),(95,undef)] ?_
      refine go_fin3 fun a hF=>hK35 _ _ ?_ a hF
      refine we_true (by kernel_rfl) ?_
      refine ws fun K36 hK36=>wr [(0,1),(1,2),(2,2),(3,0),(4,0),(5,0),(6,0),(7,0),(8,1),(9,0),(10,2)]<|gw (some 119) (.map #[] 0) (fun b=>.map (some b)) hS109 fun b9 w27 hx12 hS110=>?_
      have hS111:=hS110.newMap (κ:=Int) (ν:=Int)
      refine ge_mapSet (κ:=Int) (ν:=Int) (b:=b9) (ins:=true) (mm:=0) (t:=70) (kt:=3) (et:=28) (x:=(.tmp 119)) (y:=(.const (vI 14))) (u:=(.const (vI 9))) (ty:=0) (m:=([]:List (Int×Int))) (k:=14) (v:=9) (vv:=vI 9) (by kernel_rfl) (by kernel_rfl) (by kernel_rfl) (by kernel_rfl) rfl (by kernel_rfl) (by kernel_rfl) hS111 fun w28 hS112=>?_
      refine ge_mapSet (κ:=Int) (ν:=Int) (b:=b9) (ins:=true) (mm:=0) (t:=70) (kt:=3) (et:=28) (x:=(.tmp 119)) (y:=(.const (vI 17))) (u:=(.const (vI 10))) (ty:=0) (m:=(mset ([]:List (Int×Int)) 14 9)) (k:=17) (v:=10) (vv:=vI 10) (by kernel_rfl) (by kernel_rfl) (by kernel_rfl) (by kernel_rfl) rfl (by kernel_rfl) (by kernel_rfl) hS112 fun w29 hS113=>?_
      refine gb [3,4,5] [(122,vI e2.Op),(121,pP b6 0),(120,.map (some b9))] [.loaded ⟨b6,0,none⟩ (vI e2.Op)] ⟨hS113.c 1,trivial⟩ ?_
      refine ge_lookup (κ:=Int) (ν:=Int) (d:=123) (b:=b9) (q:=0) (t:=70) (kt:=3) (et:=28) (x:=(.tmp 120)) (y:=(.tmp 122)) (ty:=28) (m:=(mset (mset ([]:List (Int×Int)) 14 9) 17 10)) (k:=e2.Op) (z:=0) (v:=((mget (mset (mset ([]:List (Int×Int)) 14 9) 17 10) e2.Op).getD 0)) (zv:=vI 0) (vv:=vI ((mget (mset (mset ([]:List (Int×Int)) 14 9) 17 10) e2.Op).getD 0)) (by kernel_rfl) (by kernel_rfl) (by kernel_rfl) (by kernel_rfl) (by kernel_rfl) (fun w'=>by kernel_rfl) rfl hS113 rfl rfl rfl ?_
      refine gb0 [7] [(124,vI (i2:Int))] ?_
      refine ge_call (d:=some 125) (f:=17) (args:=#[vI ((mget (mset (mset ([]:List (Int×Int)) 14 9) 17 10) e2.Op).getD 0),vI (i2:Int)]) (by kernel_rfl) (punctualref_F_ok ((mget (mset (mset ([]:List (Int×Int)) 14 9) 17 10) e2.Op).getD 0) (i2:Int) _ _ rfl) ?_
      rintro _ w30 ⟨rfl,hS114⟩
      refine ⟨_,rfl,hS114.below,?_⟩
      have hS115:=hS113.call hS114
      refine gb0 [9] [(2,.pointer none)] ?_
      have hS116:=hS115.b 4
      refine gs b2 0 #[vI 0,vI 0] 30 [vI ((punctualref_F.f ((mget (mset (mset ([]:List (Int×Int)) 14 9) 17 10) e2.Op).getD 0) (i2:Int)).Code),vI ((punctualref_F.f ((mget (mset (mset ([]:List (Int×Int)) 14 9) 17 10) e2.Op).getD 0) (i2:Int)).At)] hS116 fun w31 hS117=>?_
      have hS118:=hS117.nc #[vI ((punctualref_F.f ((mget (mset (mset ([]:List (Int×Int)) 14 9) 17 10) e2.Op).getD 0) (i2:Int)).Code),vI ((punctualref_F.f ((mget (mset (mset ([]:List (Int×Int)) 14 9) 17 10) e2.Op).getD 0) (i2:Int)).At)] rfl
      refine gn hK36 ?_
      have hS119:=hS118.takeN 0
      obtain rfl:=si h
      exact we_ret fun a hF=>hQ _ _ _ (Outs.out nofun ⟨rfl,(pr [.tmp 2,.cell 3 30] [.pointer none,.agg #[vI ((punctualref_F.f ((mget (mset (mset ([]:List (Int×Int)) 14 9) 17 10) e2.Op).getD 0) (i2:Int)).Code),vI ((punctualref_F.f ((mget (mset (mset ([]:List (Int×Int)) 14 9) 17 10) e2.Op).getD 0) (i2:Int)).At)]] [.loaded ⟨b2,0,none⟩ (vI ((punctualref_F.f ((mget (mset (mset ([]:List (Int×Int)) 14 9) 17 10) e2.Op).getD 0) (i2:Int)).Code)),.loaded ⟨b2,1,none⟩ (vI ((punctualref_F.f ((mget (mset (mset ([]:List (Int×Int)) 14 9) 17 10) e2.Op).getD 0) (i2:Int)).At))] ⟨hS118.c 0,hS118.c 0,trivial⟩ ⟨rfl,hS119⟩) a hF⟩)
     exact go_nomore3
    exact go_nomore3
   exact go_nomore3
  exact go_nomore3
 rw [if_neg hc13] at h
 refine go3_known (t:=84) (b:=decide (z2<0)) (c:=false) (by kernel_rfl) (decide_eq_false hc13) ?_
 refine g3 3 [(85,.slice A0 l0.length c0)] [.loaded ⟨b1,0,none⟩ (.slice A0 l0.length c0)] ⟨hS109.c 4,trivial⟩ ?_
 refine g30 [4] [(86,vI z2)] ?_
 by_cases hc14:0≤z2
 ·rw [if_pos hc14] at h
  rcases hx13:l0[(z2).toNat]? with _ | e4
  ·rw [hx13] at h; cases h
  rw [hx13] at h
  simp only [] at h
  refine go3_index (d:=87) (ty:=0) (t:=22) (el:=35) (sz:=3) (m:=l0.length) (c:=c0) (x:=(.tmp 85)) (y:=(.tmp 86)) (A:=A0) (k':=.i64) (j:=z2) (jn:=((z2).toNat)) (b0:=blkOf A0) (o0:=offOf A0) (by kernel_rfl) (by kernel_rfl) (by kernel_rfl) (by kernel_rfl) (by kernel_rfl) ((hS109.rd hR0).eqSome (pos_of_get hx13)) (Int.toNat_of_nonneg hc14).symm (lt_of_get hx13) ?_
  refine g30 [6] [(88,.pointer (some ⟨blkOf A0,offOf A0+(z2).toNat*3,none⟩))] ?_
  refine g3 7 [(89,vI e4.Op)] [.loaded ⟨blkOf A0,offOf A0+((z2).toNat)*3,none⟩ (vI e4.Op)] ⟨RdL.cell (j:=0) (hS109.rd hR0) hx13 rfl,trivial⟩ ?_
  refine g30 [12] [(92,pP b6 0)] ?_
  refine g3 13 [(93,vI e2.Op)] [.loaded ⟨b6,0,none⟩ (vI e2.Op)] ⟨hS109.c 0,trivial⟩ ?_
  refine go_alt3 (fun KK hKK=>?_) ?_
  ·refine ge_one2<|gw (some 90) (.map #[] 0) (fun b=>.map (some b)) hS109 fun b10 w32 hx14 hS120=>?_
   have hS121:=hS120.newMap (κ:=Int) (ν:=Int)
   refine ge_nil fun a hF=>hKK _ _ (RS.of2 (l:=[.loaded ⟨b1,0,none⟩ (.slice A0 l0.length c0),.loaded ⟨blkOf A0,offOf A0+((z2).toNat)*3,none⟩ (vI e4.Op),.loaded ⟨b6,0,none⟩ (vI e2.Op)]) (by kernel_rfl) ⟨hS109.c 4,RdL.cell (j:=0) (hS109.rd hR0) hx13 rfl,hS109.c 0,trivial⟩ ⟨hS121.c 5,RdL.cell (j:=0) (hS121.rd hR0) hx13 rfl,hS121.c 1,trivial⟩) ?_ a hF
   refine go_alt3 (fun KK hKK=>?_) ?_
   ·refine ge_mapSet (κ:=Int) (ν:=Int) (b:=b10) (ins:=true) (mm:=0) (t:=71) (kt:=3) (et:=3) (x:=(.tmp 90)) (y:=(.const (vI 14))) (u:=(.const (vI 13))) (ty:=0) (m:=([]:List (Int×Int))) (k:=14) (v:=13) (vv:=vI 13) (by kernel_rfl) (by kernel_rfl) (by kernel_rfl) (by kernel_rfl) rfl (by kernel_rfl) (by kernel_rfl) hS121 fun w33 hS122=>?_
    refine ge_nil fun a hF=>hKK _ _ (RS.of2 (l:=[.loaded ⟨b1,0,none⟩ (.slice A0 l0.length c0),.loaded ⟨blkOf A0,offOf A0+((z2).toNat)*3,none⟩ (vI e4.Op),.loaded ⟨b6,0,none⟩ (vI e2.Op)]) (by kernel_rfl) ⟨hS121.c 5,RdL.cell (j:=0) (hS121.rd hR0) hx13 rfl,hS121.c 1,trivial⟩ ⟨hS122.c 5,RdL.cell (j:=0) (hS122.rd hR0) hx13 rfl,hS122.c 1,trivial⟩) ?_ a hF
    refine go_alt3 (fun KK hKK=>?_) ?_
    ·refine ge_mapSet (κ:=Int) (ν:=Int) (b:=b10) (ins:=true) (mm:=0) (t:=71) (kt:=3) (et:=3) (x:=(.tmp 90)) (y:=(.const (vI 17))) (u:=(.const (vI 16))) (ty:=0) (m:=(mset ([]:List (Int×Int)) 14 13)) (k:=17) (v:=16) (vv:=vI 16) (by kernel_rfl) (by kernel_rfl) (by kernel_rfl) (by kernel_rfl) rfl (by kernel_rfl) (by kernel_rfl) hS122 fun w34 hS123=>?_
     have hS124:=hS123.toE (m:=(mset (mset ([]:List (Int×Int)) 14 13) 17 16)) (fun k=>by simp only [mget_mset]; (repeat' split); all_goals first | rfl | omega)
     refine ge_nil fun a hF=>hKK _ _ (RS.of2 (l:=[.loaded ⟨b1,0,none⟩ (.slice A0 l0.length c0),.loaded ⟨blkOf A0,offOf A0+((z2).toNat)*3,none⟩ (vI e4.Op),.loaded ⟨b6,0,none⟩ (vI e2.Op)]) (by kernel_rfl) ⟨hS122.c 5,RdL.cell (j:=0) (hS122.rd hR0) hx13 rfl,hS122.c 1,trivial⟩ ⟨hS124.c 5,RdL.cell (j:=0) (hS124.rd hR0) hx13 rfl,hS124.c 1,trivial⟩) ?_ a hF
     refine g30 [11] [(91,.map (some b10))] ?_
     refine go_alt3 (fun KK hKK=>?_) ?_
     ·refine ge_val2 ?_
      refine ge_lookupE (κ:=Int) (ν:=Int) (d:=94) (b:=b10) (q:=0) (t:=71) (kt:=3) (et:=3) (x:=(.tmp 91)) (y:=(.tmp 93)) (ty:=3) (m:=(mset (mset ([]:List (Int×Int)) 14 13) 17 16)) (k:=e2.Op) (z:=0) (v:=((mget (mset (mset ([]:List (Int×Int)) 14 13) 17 16) e2.Op).getD 0)) (zv:=vI 0) (vv:=vI ((mget (mset (mset ([]:List (Int×Int)) 14 13) 17 16) e2.Op).getD 0)) (by kernel_rfl) (by kernel_rfl) (by kernel_rfl) (by kernel_rfl) (by kernel_rfl) (fun w'=>by kernel_rfl) rfl hS124 rfl rfl rfl ?_
      refine ge_nil fun a hF=>hKK _ _ (RS.refl _ _) ?_ a hF
      refine g30 [15,16,17] [(97,.bool (e4.Op != ((mget (mset (mset ([]:List (Int×Int)) 14 13) 17 16) e2.Op).getD 0))),(96,.bool (e4.Op != ((mget (mset (mset ([]:List (Int×Int)) 14 13) 17 16) e2.Op).getD 0))),(95,.bool (e4.Op != ((mget (mset (mset ([]:List (Int×Int)) 14 13) 17 16) e2.Op).getD 0)))] ?_
      by_cases hc15:e4.Op=((mget (mset (mset ([]:List (Int×Int)) 14 13) 17 16) e2.Op).getD 0)
      ·rw [if_pos hc15] at h
       refine go3_known (t:=97) (b:=(e4.Op != ((mget (mset (mset ([]:List (Int×Int)) 14 13) 17 16) e2.Op).getD 0))) (c:=false) (by kernel_rfl) (bne_eq_false_iff_eq.2 hc15) ?_
       refine g3 18 [(98,.slice A0 l0.length c0)] [.loaded ⟨b1,0,none⟩ (.slice A0 l0.length c0)] ⟨hS124.c 5,trivial⟩ ?_
       refine g30 [19] [(99,vI z2)] ?_
       refine go3_index (d:=100) (ty:=0) (t:=22) (el:=35) (sz:=3) (m:=l0.length) (c:=c0) (x:=(.tmp 98)) (y:=(.tmp 99)) (A:=A0) (k':=.i64) (j:=z2) (jn:=((z2).toNat)) (b0:=blkOf A0) (o0:=offOf A0) (by kernel_rfl) (by kernel_rfl) (by kernel_rfl) (by kernel_rfl) (by kernel_rfl) ((hS124.rd hR0).eqSome (pos_of_get hx13)) (Int.toNat_of_nonneg hc14).symm (lt_of_get hx13) ?_
       refine g30 [21] [(101,.pointer (some ⟨blkOf A0,offOf A0+(z2).toNat*3+1,none⟩))] ?_
       refine g3 22 [(102,vI e4.A)] [.loaded ⟨blkOf A0,offOf A0+((z2).toNat)*3+1,none⟩ (vI e4.A)] ⟨RdL.cell (j:=1) (hS124.rd hR0) hx13 rfl,trivial⟩ ?_
       refine g30 [23] [(103,pP b6 1)] ?_
       refine g3 24 [(104,vI e2.A)] [.loaded ⟨b6,1,none⟩ (vI e2.A)] ⟨hS124.c 1,trivial⟩ ?_
       refine g30 [25,26,27] [(107,.bool (e4.A != e2.A)),(106,.bool (e4.A != e2.A)),(105,.bool (e4.A != e2.A))] ?_
       by_cases hc16:e4.A=e2.A
       ·rw [if_pos hc16] at h
        refine go3_known (t:=107) (b:=(e4.A != e2.A)) (c:=false) (by kernel_rfl) (bne_eq_false_iff_eq.2 hc16) ?_
        refine g30 [28] [(108,pP b6 0)] ?_
        refine g3 29 [(109,vI e2.Op)] [.loaded ⟨b6,0,none⟩ (vI e2.Op)] ⟨hS124.c 1,trivial⟩ ?_
        refine g30 [30,31] [(111,.bool (e2.Op==14)),(110,.bool (e2.Op==14))] ?_
        by_cases hc17:e2.Op=14
        ·rw [if_pos hc17] at h
         refine go3_known (t:=111) (b:=(e2.Op==14)) (c:=true) (by kernel_rfl) (beq_iff_eq.2 hc17) ?_
         refine g30 [32] [(112,pP b6 2)] ?_
         refine g3 33 [(113,vI e2.B)] [.loaded ⟨b6,2,none⟩ (vI e2.B)] ⟨hS124.c 1,trivial⟩ ?_
         refine g30 [34,35,36,37,38] [(118,.bool (e2.B != (IntKind.i64.wrap (z2+1)))),(117,.bool (e2.B != (IntKind.i64.wrap (z2+1)))),(116,.bool (e2.B != (IntKind.i64.wrap (z2+1)))),(115,vI (IntKind.i64.wrap (z2+1))),(114,vI z2)] ?_
         refine go_fin3 fun a hF=>hK35 _ _ ?_ a hF
         by_cases hc18:e2.B=(IntKind.i64.wrap (z2+1))
         ·rw [if_pos hc18] at h
          refine wk 118 (e2.B != (IntKind.i64.wrap (z2+1))) false (bne_eq_false_iff_eq.2 hc18) ?_
          refine we_false (by kernel_rfl) ?_
          have hS131:=((((((hS124.b 7).b 7).b 7).b 7).b 7).b 7).takeN 6
          obtain rfl:=si h
          exact we_skip fun a hF=>hQ _ _ _ (Outs.again ⟨hS131,hF.weaken ea⟩)
         rw [if_neg hc18] at h
         refine wk 118 (e2.B != (IntKind.i64.wrap (z2+1))) true (bne_iff_ne.2 hc18) ?_
         refine we_true (by kernel_rfl) ?_
         refine ws fun K37 hK37=>wr [(0,1),(1,2),(2,2),(3,0),(4,0),(5,0),(6,0),(7,0),(8,1),(9,0),(10,2)]<|gw (some 119) (.map #[] 0) (fun b=>.map (some b)) hS124 fun b11 w35 hx15 hS132=>?_
         have hS133:=hS132.newMap (κ:=Int) (ν:=Int)
         refine ge_mapSet (κ:=Int) (ν:=Int) (b:=b11) (ins:=true) (mm:=0) (t:=70) (kt:=3) (et:=28) (x:=(.tmp 119)) (y:=(.const (vI 14))) (u:=(.const (vI 9))) (ty:=0) (m:=([]:List (Int×Int))) (k:=14) (v:=9) (vv:=vI 9) (by kernel_rfl) (by kernel_rfl) (by kernel_rfl) (by kernel_rfl) rfl (by kernel_rfl) (by kernel_rfl) hS133 fun w36 hS134=>?_
         refine ge_mapSet (κ:=Int) (ν:=Int) (b:=b11) (ins:=true) (mm:=0) (t:=70) (kt:=3) (et:=28) (x:=(.tmp 119)) (y:=(.const (vI 17))) (u:=(.const (vI 10))) (ty:=0) (m:=(mset ([]:List (Int×Int)) 14 9)) (k:=17) (v:=10) (vv:=vI 10) (by kernel_rfl) (by kernel_rfl) (by kernel_rfl) (by kernel_rfl) rfl (by kernel_rfl) (by kernel_rfl) hS134 fun w37 hS135=>?_
         refine gb [3,4,5] [(122,vI e2.Op),(121,pP b6 0),(120,.map (some b11))] [.loaded ⟨b6,0,none⟩ (vI e2.Op)] ⟨hS135.c 2,trivial⟩ ?_
         refine ge_lookup (κ:=Int) (ν:=Int) (d:=123) (b:=b11) (q:=0) (t:=70) (kt:=3) (et:=28) (x:=(.tmp 120)) (y:=(.tmp 122)) (ty:=28) (m:=(mset (mset ([]:List (Int×Int)) 14 9) 17 10)) (k:=e2.Op) (z:=0) (v:=((mget (mset (mset ([]:List (Int×Int)) 14 9) 17 10) e2.Op).getD 0)) (zv:=vI 0) (vv:=vI ((mget (mset (mset ([]:List (Int×Int)) 14 9) 17 10) e2.Op).getD 0)) (by kernel_rfl) (by kernel_rfl) (by kernel_rfl) (by kernel_rfl) (by kernel_rfl) (fun w'=>by kernel_rfl) rfl hS135 rfl rfl rfl ?_
         refine gb0 [7] [(124,vI (i2:Int))] ?_
         refine ge_call (d:=some 125) (f:=17) (args:=#[vI ((mget (mset (mset ([]:List (Int×Int)) 14 9) 17 10) e2.Op).getD 0),vI (i2:Int)]) (by kernel_rfl) (punctualref_F_ok ((mget (mset (mset ([]:List (Int×Int)) 14 9) 17 10) e2.Op).getD 0) (i2:Int) _ _ rfl) ?_
         rintro _ w38 ⟨rfl,hS136⟩
         refine ⟨_,rfl,hS136.below,?_⟩
         have hS137:=hS135.call hS136
         refine gb0 [9] [(2,.pointer none)] ?_
         have hS138:=hS137.b 5
         refine gs b2 0 #[vI 0,vI 0] 30 [vI ((punctualref_F.f ((mget (mset (mset ([]:List (Int×Int)) 14 9) 17 10) e2.Op).getD 0) (i2:Int)).Code),vI ((punctualref_F.f ((mget (mset (mset ([]:List (Int×Int)) 14 9) 17 10) e2.Op).getD 0) (i2:Int)).At)] hS138 fun w39 hS139=>?_
         have hS140:=hS139.nc #[vI ((punctualref_F.f ((mget (mset (mset ([]:List (Int×Int)) 14 9) 17 10) e2.Op).getD 0) (i2:Int)).Code),vI ((punctualref_F.f ((mget (mset (mset ([]:List (Int×Int)) 14 9) 17 10) e2.Op).getD 0) (i2:Int)).At)] rfl
         refine gn hK37 ?_
         have hS141:=hS140.takeN 0
         obtain rfl:=si h
         exact we_ret fun a hF=>hQ _ _ _ (Outs.out nofun ⟨rfl,(pr [.tmp 2,.cell 3 30] [.pointer none,.agg #[vI ((punctualref_F.f ((mget (mset (mset ([]:List (Int×Int)) 14 9) 17 10) e2.Op).getD 0) (i2:Int)).Code),vI ((punctualref_F.f ((mget (mset (mset ([]:List (Int×Int)) 14 9) 17 10) e2.Op).getD 0) (i2:Int)).At)]] [.loaded ⟨b2,0,none⟩ (vI ((punctualref_F.f ((mget (mset (mset ([]:List (Int×Int)) 14 9) 17 10) e2.Op).getD 0) (i2:Int)).Code)),.loaded ⟨b2,1,none⟩ (vI ((punctualref_F.f ((mget (mset (mset ([]:List (Int×Int)) 14 9) 17 10) e2.Op).getD 0) (i2:Int)).At))] ⟨hS140.c 0,hS140.c 0,trivial⟩ ⟨rfl,hS141⟩) a hF⟩)
        rw [if_neg hc17] at h
        refine go3_known (t:=111) (b:=(e2.Op==14)) (c:=false) (by kernel_rfl) (beq_eq_false_iff_ne.2 hc17) ?_
        refine g30 [32,33,34,35,36,37,38] [(118,.bool false),(117,.bool false),(116,undef),(115,undef),(114,undef),(113,undef),(112,undef)] ?_
        refine go_fin3 fun a hF=>hK35 _ _ ?_ a hF
        refine we_false (by kernel_rfl) ?_
        have hS148:=((((((hS124.b 7).b 7).b 7).b 7).b 7).b 7).takeN 6
        obtain rfl:=si h
        exact we_skip fun a hF=>hQ _ _ _ (Outs.again ⟨hS148,hF.weaken ea⟩)
       rw [if_neg hc16] at h
       refine go3_known (t:=107) (b:=(e4.A != e2.A)) (c:=true) (by kernel_rfl) (bne_iff_ne.2 hc16) ?_
       refine g30 [28,29,30,31,32,33,34,35,36,37,38] [(118,.bool true),(117,undef),(116,undef),(115,undef),(114,undef),(113,undef),(112,undef),(111,undef),(110,undef),(109,undef),(108,undef)] ?_
       refine go_fin3 fun a hF=>hK35 _ _ ?_ a hF
       refine we_true (by kernel_rfl) ?_
       refine ws fun K38 hK38=>wr [(0,1),(1,2),(2,2),(3,0),(4,0),(5,0),(6,0),(7,0),(8,1),(9,0),(10,2)]<|gw (some 119) (.map #[] 0) (fun b=>.map (some b)) hS124 fun b12 w40 hx16 hS149=>?_
       have hS150:=hS149.newMap (κ:=Int) (ν:=Int)
       refine ge_mapSet (κ:=Int) (ν:=Int) (b:=b12) (ins:=true) (mm:=0) (t:=70) (kt:=3) (et:=28) (x:=(.tmp 119)) (y:=(.const (vI 14))) (u:=(.const (vI 9))) (ty:=0) (m:=([]:List (Int×Int))) (k:=14) (v:=9) (vv:=vI 9) (by kernel_rfl) (by kernel_rfl) (by kernel_rfl) (by kernel_rfl) rfl (by kernel_rfl) (by kernel_rfl) hS150 fun w41 hS151=>?_
       refine ge_mapSet (κ:=Int) (ν:=Int) (b:=b12) (ins:=true) (mm:=0) (t:=70) (kt:=3) (et:=28) (x:=(.tmp 119)) (y:=(.const (vI 17))) (u:=(.const (vI 10))) (ty:=0) (m:=(mset ([]:List (Int×Int)) 14 9)) (k:=17) (v:=10) (vv:=vI 10) (by kernel_rfl) (by kernel_rfl) (by kernel_rfl) (by kernel_rfl) rfl (by kernel_rfl) (by kernel_rfl) hS151 fun w42 hS152=>?_
       refine gb [3,4,5] [(122,vI e2.Op),(121,pP b6 0),(120,.map (some b12))] [.loaded ⟨b6,0,none⟩ (vI e2.Op)] ⟨hS152.c 2,trivial⟩ ?_
       refine ge_lookup (κ:=Int) (ν:=Int) (d:=123) (b:=b12) (q:=0) (t:=70) (kt:=3) (et:=28) (x:=(.tmp 120)) (y:=(.tmp 122)) (ty:=28) (m:=(mset (mset ([]:List (Int×Int)) 14 9) 17 10)) (k:=e2.Op) (z:=0) (v:=((mget (mset (mset ([]:List (Int×Int)) 14 9) 17 10) e2.Op).getD 0)) (zv:=vI 0) (vv:=vI ((mget (mset (mset ([]:List (Int×Int)) 14 9) 17 10) e2.Op).getD 0)) (by kernel_rfl) (by kernel_rfl) (by kernel_rfl) (by kernel_rfl) (by kernel_rfl) (fun w'=>by kernel_rfl) rfl hS152 rfl rfl rfl ?_
       refine gb0 [7] [(124,vI (i2:Int))] ?_
       refine ge_call (d:=some 125) (f:=17) (args:=#[vI ((mget (mset (mset ([]:List (Int×Int)) 14 9) 17 10) e2.Op).getD 0),vI (i2:Int)]) (by kernel_rfl) (punctualref_F_ok ((mget (mset (mset ([]:List (Int×Int)) 14 9) 17 10) e2.Op).getD 0) (i2:Int) _ _ rfl) ?_
       rintro _ w43 ⟨rfl,hS153⟩
       refine ⟨_,rfl,hS153.below,?_⟩
       have hS154:=hS152.call hS153
       refine gb0 [9] [(2,.pointer none)] ?_
       have hS155:=hS154.b 5
       refine gs b2 0 #[vI 0,vI 0] 30 [vI ((punctualref_F.f ((mget (mset (mset ([]:List (Int×Int)) 14 9) 17 10) e2.Op).getD 0) (i2:Int)).Code),vI ((punctualref_F.f ((mget (mset (mset ([]:List (Int×Int)) 14 9) 17 10) e2.Op).getD 0) (i2:Int)).At)] hS155 fun w44 hS156=>?_
       have hS157:=hS156.nc #[vI ((punctualref_F.f ((mget (mset (mset ([]:List (Int×Int)) 14 9) 17 10) e2.Op).getD 0) (i2:Int)).Code),vI ((punctualref_F.f ((mget (mset (mset ([]:List (Int×Int)) 14 9) 17 10) e2.Op).getD 0) (i2:Int)).At)] rfl
       refine gn hK38 ?_
       have hS158:=hS157.takeN 0
       obtain rfl:=si h
       exact we_ret fun a hF=>hQ _ _ _ (Outs.out nofun ⟨rfl,(pr [.tmp 2,.cell 3 30] [.pointer none,.agg #[vI ((punctualref_F.f ((mget (mset (mset ([]:List (Int×Int)) 14 9) 17 10) e2.Op).getD 0) (i2:Int)).Code),vI ((punctualref_F.f ((mget (mset (mset ([]:List (Int×Int)) 14 9) 17 10) e2.Op).getD 0) (i2:Int)).At)]] [.loaded ⟨b2,0,none⟩ (vI ((punctualref_F.f ((mget (mset (mset ([]:List (Int×Int)) 14 9) 17 10) e2.Op).getD 0) (i2:Int)).Code)),.loaded ⟨b2,1,none⟩ (vI ((punctualref_F.f ((mget (mset (mset ([]:List (Int×Int)) 14 9) 17 10) e2.Op).getD 0) (i2:Int)).At))] ⟨hS157.c 0,hS157.c 0,trivial⟩ ⟨rfl,hS158⟩) a hF⟩)
      rw [if_neg hc15] at h
      refine go3_known (t:=97) (b:=(e4.Op != ((mget (mset (mset ([]:List (Int×Int)) 14 13) 17 16) e2.Op).getD 0))) (c:=true) (by kernel_rfl) (bne_iff_ne.2 hc15) ?_
      refine g30 [18,19,20,21,22,23,24,25,26,27,28,29,30,31,32,33,34,35,36,37,38] [(118,.bool true),(117,undef),(116,undef),(115,undef),(114,undef),(113,undef),(112,undef),(111,undef),(110,undef),(109,undef),(108,undef),(107,.bool true),(106,.bool true),(105,undef),(104,undef),(103,undef),(102,undef),(101,undef),(100,undef),(99,undef),(98,undef)] ?_
      refine go_fin3 fun a hF=>hK35 _ _ ?_ a hF
      refine we_true (by kernel_rfl) ?_
      refine ws fun K39 hK39=>wr [(0,1),(1,2),(2,2),(3,0),(4,0),(5,0),(6,0),(7,0),(8,1),(9,0),(10,2)]<|gw (some 119) (.map #[] 0) (fun b=>.map (some b)) hS124 fun b13 w45 hx17 hS159=>?_
      have hS160:=hS159.newMap (κ:=Int) (ν:=Int)
      refine ge_mapSet (κ:=Int) (ν:=Int) (b:=b13) (ins:=true) (mm:=0) (t:=70) (kt:=3) (et:=28) (x:=(.tmp 119)) (y:=(.const (vI 14))) (u:=(.const (vI 9))) (ty:=0) (m:=([]:List (Int×Int))) (k:=14) (v:=9) (vv:=vI 9) (by kernel_rfl) (by kernel_rfl) (by kernel_rfl) (by kernel_rfl) rfl (by kernel_rfl) (by kernel_rfl) hS160 fun w46 hS161=>?_
      refine ge_mapSet (κ:=Int) (ν:=Int) (b:=b13) (ins:=true) (mm:=0) (t:=70) (kt:=3) (et:=28) (x:=(.tmp 119)) (y:=(.const (vI 17))) (u:=(.const (vI 10))) (ty:=0) (m:=(mset ([]:List (Int×Int)) 14 9)) (k:=17) (v:=10) (vv:=vI 10) (by kernel_rfl) (by kernel_rfl) (by kernel_rfl) (by kernel_rfl) rfl (by kernel_rfl) (by kernel_rfl) hS161 fun w47 hS162=>?_
      refine gb [3,4,5] [(122,vI e2.Op),(121,pP b6 0),(120,.map (some b13))] [.loaded ⟨b6,0,none⟩ (vI e2.Op)] ⟨hS162.c 2,trivial⟩ ?_
      refine ge_lookup (κ:=Int) (ν:=Int) (d:=123) (b:=b13) (q:=0) (t:=70) (kt:=3) (et:=28) (x:=(.tmp 120)) (y:=(.tmp 122)) (ty:=28) (m:=(mset (mset ([]:List (Int×Int)) 14 9) 17 10)) (k:=e2.Op) (z:=0) (v:=((mget (mset (mset ([]:List (Int×Int)) 14 9) 17 10) e2.Op).getD 0)) (zv:=vI 0) (vv:=vI ((mget (mset (mset ([]:List (Int×Int)) 14 9) 17 10) e2.Op).getD 0)) (by kernel_rfl) (by kernel_rfl) (by kernel_rfl) (by kernel_rfl) (by kernel_rfl) (fun w'=>by kernel_rfl) rfl hS162 rfl rfl rfl ?_
      refine gb0 [7] [(124,vI (i2:Int))] ?_
      refine ge_call (d:=some 125) (f:=17) (args:=#[vI ((mget (mset (mset ([]:List (Int×Int)) 14 9) 17 10) e2.Op).getD 0),vI (i2:Int)]) (by kernel_rfl) (punctualref_F_ok ((mget (mset (mset ([]:List (Int×Int)) 14 9) 17 10) e2.Op).getD 0) (i2:Int) _ _ rfl) ?_
      rintro _ w48 ⟨rfl,hS163⟩
      refine ⟨_,rfl,hS163.below,?_⟩
      have hS164:=hS162.call hS163
      refine gb0 [9] [(2,.pointer none)] ?_
      have hS165:=hS164.b 5
      refine gs b2 0 #[vI 0,vI 0] 30 [vI ((punctualref_F.f ((mget (mset (mset ([]:List (Int×Int)) 14 9) 17 10) e2.Op).getD 0) (i2:Int)).Code),vI ((punctualref_F.f ((mget (mset (mset ([]:List (Int×Int)) 14 9) 17 10) e2.Op).getD 0) (i2:Int)).At)] hS165 fun w49 hS166=>?_
      have hS167:=hS166.nc #[vI ((punctualref_F.f ((mget (mset (mset ([]:List (Int×Int)) 14 9) 17 10) e2.Op).getD 0) (i2:Int)).Code),vI ((punctualref_F.f ((mget (mset (mset ([]:List (Int×Int)) 14 9) 17 10) e2.Op).getD 0) (i2:Int)).At)] rfl
      refine gn hK39 ?_
      have hS168:=hS167.takeN 0
      obtain rfl:=si h
      exact we_ret fun a hF=>hQ _ _ _ (Outs.out nofun ⟨rfl,(pr [.tmp 2,.cell 3 30] [.pointer none,.agg #[vI ((punctualref_F.f ((mget (mset (mset ([]:List (Int×Int)) 14 9) 17 10) e2.Op).getD 0) (i2:Int)).Code),vI ((punctualref_F.f ((mget (mset (mset ([]:List (Int×Int)) 14 9) 17 10) e2.Op).getD 0) (i2:Int)).At)]] [.loaded ⟨b2,0,none⟩ (vI ((punctualref_F.f ((mget (mset (mset ([]:List (Int×Int)) 14 9) 17 10) e2.Op).getD 0) (i2:Int)).Code)),.loaded ⟨b2,1,none⟩ (vI ((punctualref_F.f ((mget (mset (mset ([]:List (Int×Int)) 14 9) 17 10) e2.Op).getD 0) (i2:Int)).At))] ⟨hS167.c 0,hS167.c 0,trivial⟩ ⟨rfl,hS168⟩) a hF⟩)
     exact go_nomore3
    exact go_nomore3
   refine go_alt3 (fun KK hKK=>?_) ?_
   ·refine ge_mapSet (κ:=Int) (ν:=Int) (b:=b10) (ins:=true) (mm:=0) (t:=71) (kt:=3) (et:=3) (x:=(.tmp 90)) (y:=(.const (vI 17))) (u:=(.const (vI 16))) (ty:=0) (m:=([]:List (Int×Int))) (k:=17) (v:=16) (vv:=vI 16) (by kernel_rfl) (by kernel_rfl) (by kernel_rfl) (by kernel_rfl) rfl (by kernel_rfl) (by kernel_rfl) hS121 fun w33 hS122=>?_
    refine ge_nil fun a hF=>hKK _ _ (RS.of2 (l:=[.loaded ⟨b1,0,none⟩ (.slice A0 l0.length c0),.loaded ⟨blkOf A0,offOf A0+((z2).toNat)*3,none⟩ (vI e4.Op),.loaded ⟨b6,0,none⟩ (vI e2.Op)]) (by kernel_rfl) ⟨hS121.c 5,RdL.cell (j:=0) (hS121.rd hR0) hx13 rfl,hS121.c 1,trivial⟩ ⟨hS122.c 5,RdL.cell (j:=0) (hS122.rd hR0) hx13 rfl,hS122.c 1,trivial⟩) ?_ a hF
    refine go_alt3 (fun KK hKK=>?_) ?_
    ·refine ge_mapSet (κ:=Int) (ν:=Int) (b:=b10) (ins:=true) (mm:=0) (t:=71) (kt:=3) (et:=3) (x:=(.tmp 90)) (y:=(.const (vI 14))) (u:=(.const (vI 13))) (ty:=0) (m:=(mset ([]:List (Int×Int)) 17 16)) (k:=14) (v:=13) (vv:=vI 13) (by kernel_rfl) (by kernel_rfl) (by kernel_rfl) (by kernel_rfl) rfl (by kernel_rfl) (by kernel_rfl) hS122 fun w34 hS123=>?_
     have hS124:=hS123.toE (m:=(mset (mset ([]:List (Int×Int)) 14 13) 17 16)) (fun k=>by simp only [mget_mset]; (repeat' split); all_goals first | rfl | omega)
     refine ge_nil fun a hF=>hKK _ _ (RS.of2 (l:=[.loaded ⟨b1,0,none⟩ (.slice A0 l0.length c0),.loaded ⟨blkOf A0,offOf A0+((z2).toNat)*3,none⟩ (vI e4.Op),.loaded ⟨b6,0,none⟩ (vI e2.Op)]) (by kernel_rfl) ⟨hS122.c 5,RdL.cell (j:=0) (hS122.rd hR0) hx13 rfl,hS122.c 1,trivial⟩ ⟨hS124.c 5,RdL.cell (j:=0) (hS124.rd hR0) hx13 rfl,hS124.c 1,trivial⟩) ?_ a hF
     refine g30 [11] [(91,.map (some b10))] ?_
     refine go_alt3 (fun KK hKK=>?_) ?_
     ·refine ge_val2 ?_
      refine ge_lookupE (κ:=Int) (ν:=Int) (d:=94) (b:=b10) (q:=0) (t:=71) (kt:=3) (et:=3) (x:=(.tmp 91)) (y:=(.tmp 93)) (ty:=3) (m:=(mset (mset ([]:List (Int×Int)) 14 13) 17 16)) (k:=e2.Op) (z:=0) (v:=((mget (mset (mset ([]:List (Int×Int)) 14 13) 17 16) e2.Op).getD 0)) (zv:=vI 0) (vv:=vI ((mget (mset (mset ([]:List (Int×Int)) 14 13) 17 16) e2.Op).getD 0)) (by kernel_rfl) (by kernel_rfl) (by kernel_rfl) (by kernel_rfl) (by kernel_rfl) (fun w'=>by kernel_rfl) rfl hS124 rfl rfl rfl ?_
      refine ge_nil fun a hF=>hKK _ _ (RS.refl _ _) ?_ a hF
      refine g30 [15,16,17] [(97,.bool (e4.Op != ((mget (mset (mset ([]:List (Int×Int)) 14 13) 17 16) e2.Op).getD 0))),(96,.bool (e4.Op != ((mget (mset (mset ([]:List (Int×Int)) 14 13) 17 16) e2.Op).getD 0))),(95,.bool (e4.Op != ((mget (mset (mset ([]:List (Int×Int)) 14 13) 17 16) e2.Op).getD 0)))] ?_
      by_cases hc15:e4.Op=((mget (mset (mset ([]:List (Int×Int)) 14 13) 17 16) e2.Op).getD 0)
      ·rw [if_pos hc15] at h
       refine go3_known (t:=97) (b:=(e4.Op != ((mget (mset (mset ([]:List (Int×Int)) 14 13) 17 16) e2.Op).getD 0))) (c:=false) (by kernel_rfl) (bne_eq_false_iff_eq.2 hc15) ?_
       refine g3 18 [(98,.slice A0 l0.length c0)] [.loaded ⟨b1,0,none⟩ (.slice A0 l0.length c0)] ⟨hS124.c 5,trivial⟩ ?_
       refine g30 [19] [(99,vI z2)] ?_
       refine go3_index (d:=100) (ty:=0) (t:=22) (el:=35) (sz:=3) (m:=l0.length) (c:=c0) (x:=(.tmp 98)) (y:=(.tmp 99)) (A:=A0) (k':=.i64) (j:=z2) (jn:=((z2).toNat)) (b0:=blkOf A0) (o0:=offOf A0) (by kernel_rfl) (by kernel_rfl) (by kernel_rfl) (by kernel_rfl) (by kernel_rfl) ((hS124.rd hR0).eqSome (pos_of_get hx13)) (Int.toNat_of_nonneg hc14).symm (lt_of_get hx13) ?_
       refine g30 [21] [(101,.pointer (some ⟨blkOf A0,offOf A0+(z2).toNat*3+1,none⟩))] ?_
       refine g3 22 [(102,vI e4.A)] [.loaded ⟨blkOf A0,offOf A0+((z2).toNat)*3+1,none⟩ (vI e4.A)] ⟨RdL.cell (j:=1) (hS124.rd hR0) hx13 rfl,trivial⟩ ?_
       refine g30 [23] [(103,pP b6 1)] ?_
       refine g3 24 [(104,vI e2.A)] [.loaded ⟨b6,1,none⟩ (vI e2.A)] ⟨hS124.c 1,trivial⟩ ?_
       refine g30 [25,26,27] [(107,.bool (e4.A != e2.A)),(106,.bool (e4.A != e2.A)),(105,.bool (e4.A != e2.A))] ?_
       by_cases hc16:e4.A=e2.A
       ·rw [if_pos hc16] at h
        refine go3_known (t:=107) (b:=(e4.A != e2.A)) (c:=false) (by kernel_rfl) (bne_eq_false_iff_eq.2 hc16) ?_
        refine g30 [28] [(108,pP b6 0)] ?_
        refine g3 29 [(109,vI e2.Op)] [.loaded ⟨b6,0,none⟩ (vI e2.Op)] ⟨hS124.c 1,trivial⟩ ?_
        refine g30 [30,31] [(111,.bool (e2.Op==14)),(110,.bool (e2.Op==14))] ?_
        by_cases hc17:e2.Op=14
        ·rw [if_pos hc17] at h
         refine go3_known (t:=111) (b:=(e2.Op==14)) (c:=true) (by kernel_rfl) (beq_iff_eq.2 hc17) ?_
         refine g30 [32] [(112,pP b6 2)] ?_
         refine g3 33 [(113,vI e2.B)] [.loaded ⟨b6,2,none⟩ (vI e2.B)] ⟨hS124.c 1,trivial⟩ ?_
         refine g30 [34,35,36,37,38] [(118,.bool (e2.B != (IntKind.i64.wrap (z2+1)))),(117,.bool (e2.B != (IntKind.i64.wrap (z2+1)))),(116,.bool (e2.B != (IntKind.i64.wrap (z2+1)))),(115,vI (IntKind.i64.wrap (z2+1))),(114,vI z2)] ?_
         refine go_fin3 fun a hF=>hK35 _ _ ?_ a hF
         by_cases hc18:e2.B=(IntKind.i64.wrap (z2+1))
         ·rw [if_pos hc18] at h
          refine wk 118 (e2.B != (IntKind.i64.wrap (z2+1))) false (bne_eq_false_iff_eq.2 hc18) ?_
          refine we_false (by kernel_rfl) ?_
          have hS131:=((((((hS124.b 7).b 7).b 7).b 7).b 7).b 7).takeN 6
          obtain rfl:=si h
          exact we_skip fun a hF=>hQ _ _ _ (Outs.again ⟨hS131,hF.weaken ea⟩)
         rw [if_neg hc18] at h
         refine wk 118 (e2.B != (IntKind.i64.wrap (z2+1))) true (bne_iff_ne.2 hc18) ?_
         refine we_true (by kernel_rfl) ?_
         refine ws fun K37 hK37=>wr [(0,1),(1,2),(2,2),(3,0),(4,0),(5,0),(6,0),(7,0),(8,1),(9,0),(10,2)]<|gw (some 119) (.map #[] 0) (fun b=>.map (some b)) hS124 fun b11 w35 hx15 hS132=>?_
         have hS133:=hS132.newMap (κ:=Int) (ν:=Int)
         refine ge_mapSet (κ:=Int) (ν:=Int) (b:=b11) (ins:=true) (mm:=0) (t:=70) (kt:=3) (et:=28) (x:=(.tmp 119)) (y:=(.const (vI 14))) (u:=(.const (vI 9))) (ty:=0) (m:=([]:List (Int×Int))) (k:=14) (v:=9) (vv:=vI 9) (by kernel_rfl) (by kernel_rfl) (by kernel_rfl) (by kernel_rfl) rfl (by kernel_rfl) (by kernel_rfl) hS133 fun w36 hS134=>?_
         refine ge_mapSet (κ:=Int) (ν:=Int) (b:=b11) (ins:=true) (mm:=0) (t:=70) (kt:=3) (et:=28) (x:=(.tmp 119)) (y:=(.const (vI 17))) (u:=(.const (vI 10))) (ty:=0) (m:=(mset ([]:List (Int×Int)) 14 9)) (k:=17) (v:=10) (vv:=vI 10) (by kernel_rfl) (by kernel_rfl) (by kernel_rfl) (by kernel_rfl) rfl (by kernel_rfl) (by kernel_rfl) hS134 fun w37 hS135=>?_
         refine gb [3,4,5] [(122,vI e2.Op),(121,pP b6 0),(120,.map (some b11))] [.loaded ⟨b6,0,none⟩ (vI e2.Op)] ⟨hS135.c 2,trivial⟩ ?_
         refine ge_lookup (κ:=Int) (ν:=Int) (d:=123) (b:=b11) (q:=0) (t:=70) (kt:=3) (et:=28) (x:=(.tmp 120)) (y:=(.tmp 122)) (ty:=28) (m:=(mset (mset ([]:List (Int×Int)) 14 9) 17 10)) (k:=e2.Op) (z:=0) (v:=((mget (mset (mset ([]:List (Int×Int)) 14 9) 17 10) e2.Op).getD 0)) (zv:=vI 0) (vv:=vI ((mget (mset (mset ([]:List (Int×Int)) 14 9) 17 10) e2.Op).getD 0)) (by kernel_rfl) (by kernel_rfl) (by kernel_rfl) (by kernel_rfl) (by kernel_rfl) (fun w'=>by kernel_rfl) rfl hS135 rfl rfl rfl ?_
         refine gb0 [7] [(124,vI (i2:Int))] ?_
         refine ge_call (d:=some 125) (f:=17) (args:=#[vI ((mget (mset (mset ([]:List (Int×Int)) 14 9) 17 10) e2.Op).getD 0),vI (i2:Int)]) (by kernel_rfl) (punctualref_F_ok ((mget (mset (mset ([]:List (Int×Int)) 14 9) 17 10) e2.Op).getD 0) (i2:Int) _ _ rfl) ?_
         rintro _ w38 ⟨rfl,hS136⟩
         refine ⟨_,rfl,hS136.below,?_⟩
         have hS137:=hS135.call hS136
         refine gb0 [9] [(2,.pointer none)] ?_
         have hS138:=hS137.b 5
         refine gs b2 0 #[vI 0,vI 0] 30 [vI ((punctualref_F.f ((mget (mset (mset ([]:List (Int×Int)) 14 9) 17 10) e2.Op).getD 0) (i2:Int)).Code),vI ((punctualref_F.f ((mget (mset (mset ([]:List (Int×Int)) 14 9) 17 10) e2.Op).getD 0) (i2:Int)).At)] hS138 fun w39 hS139=>?_
         have hS140:=hS139.nc #[vI ((punctualref_F.f ((mget (mset (mset ([]:List (Int×Int)) 14 9) 17 10) e2.Op).getD 0) (i2:Int)).Code),vI ((punctualref_F.f ((mget (mset (mset ([]:List (Int×Int)) 14 9) 17 10) e2.Op).getD 0) (i2:Int)).At)] rfl
         refine gn hK37 ?_
         have hS141:=hS140.takeN 0
         obtain rfl:=si h
         exact we_ret fun a hF=>hQ _ _ _ (Outs.out nofun ⟨rfl,(pr [.tmp 2,.cell 3 30] [.pointer none,.agg #[vI ((punctualref_F.f ((mget (mset (mset ([]:List (Int×Int)) 14 9) 17 10) e2.Op).getD 0) (i2:Int)).Code),vI ((punctualref_F.f ((mget (mset (mset ([]:List (Int×Int)) 14 9) 17 10) e2.Op).getD 0) (i2:Int)).At)]] [.loaded ⟨b2,0,none⟩ (vI ((punctualref_F.f ((mget (mset (mset ([]:List (Int×Int)) 14 9) 17 10) e2.Op).getD 0) (i2:Int)).Code)),.loaded ⟨b2,1,none⟩ (vI ((punctualref_F.f ((mget (mset (mset ([]:List (Int×Int)) 14 9) 17 10) e2.Op).getD 0) (i2:Int)).At))] ⟨hS140.c 0,hS140.c 0,trivial⟩ ⟨rfl,hS141⟩) a hF⟩)
        rw [if_neg hc17] at h
        refine go3_known (t:=111) (b:=(e2.Op==14)) (c:=false) (by kernel_rfl) (beq_eq_false_iff_ne.2 hc17) ?_
        refine g30 [32,33,34,35,36,37,38] [(118,.bool false),(117,.bool false),(116,undef),(115,undef),(114,undef),(113,undef),(112,undef)] ?_
        refine go_fin3 fun a hF=>hK35 _ _ ?_ a hF
        refine we_false (by kernel_rfl) ?_
        have hS148:=((((((hS124.b 7).b 7).b 7).b 7).b 7).b 7).takeN 6
        obtain rfl:=si h
        exact we_skip fun a hF=>hQ _ _ _ (Outs.again ⟨hS148,hF.weaken ea⟩)
       rw [if_neg hc16] at h
       refine go3_known (t:=107) (b:=(e4.A != e2.A)) (c:=true) (by kernel_rfl) (bne_iff_ne.2 hc16) ?_
       refine g30 [28,29,30,31,32,33,34,35,36,37,38] [(118,.bool true),(117,undef),(116,undef),(115,undef),(114,undef),(113,undef),(112,undef),(111,undef),(110,undef),(109,undef),(108,undef)] ?_
       refine go_fin3 fun a hF=>hK35 _ _ ?_ a hF
       refine we_true (by kernel_rfl) ?_
       refine ws fun K38 hK38=>wr [(0,1),(1,2),(2,2),(3,0),(4,0),(5,0),(6,0),(7,0),(8,1),(9,0),(10,2)]<|gw (some 119) (.map #[] 0) (fun b=>.map (some b)) hS124 fun b12 w40 hx16 hS149=>?_
       have hS150:=hS149.newMap (κ:=Int) (ν:=Int)
       refine ge_mapSet (κ:=Int) (ν:=Int) (b:=b12) (ins:=true) (mm:=0) (t:=70) (kt:=3) (et:=28) (x:=(.tmp 119)) (y:=(.const (vI 14))) (u:=(.const (vI 9))) (ty:=0) (m:=([]:List (Int×Int))) (k:=14) (v:=9) (vv:=vI 9) (by kernel_rfl) (by kernel_rfl) (by kernel_rfl) (by kernel_rfl) rfl (by kernel_rfl) (by kernel_rfl) hS150 fun w41 hS151=>?_
       refine ge_mapSet (κ:=Int) (ν:=Int) (b:=b12) (ins:=true) (mm:=0) (t:=70) (kt:=3) (et:=28) (x:=(.tmp 119)) (y:=(.const (vI 17))) (u:=(.const (vI 10))) (ty:=0) (m:=(mset ([]:List (Int×Int)) 14 9)) (k:=17) (v:=10) (vv:=vI 10) (by kernel_rfl) (by kernel_rfl) (by kernel_rfl) (by kernel_rfl) rfl (by kernel_rfl) (by kernel_rfl) hS151 fun w42 hS152=>?_
       refine gb [3,4,5] [(122,vI e2.Op),(121,pP b6 0),(120,.map (some b12))] [.loaded ⟨b6,0,none⟩ (vI e2.Op)] ⟨hS152.c 2,trivial⟩ ?_
       refine ge_lookup (κ:=Int) (ν:=Int) (d:=123) (b:=b12) (q:=0) (t:=70) (kt:=3) (et:=28) (x:=(.tmp 120)) (y:=(.tmp 122)) (ty:=28) (m:=(mset (mset ([]:List (Int×Int)) 14 9) 17 10)) (k:=e2.Op) (z:=0) (v:=((mget (mset (mset ([]:List (Int×Int)) 14 9) 17 10) e2.Op).getD 0)) (zv:=vI 0) (vv:=vI ((mget (mset (mset ([]:List (Int×Int)) 14 9) 17 10) e2.Op).getD 0)) (by kernel_rfl) (by kernel_rfl) (by kernel_rfl) (by kernel_rfl) (by kernel_rfl) (fun w'=>by kernel_rfl) rfl hS152 rfl rfl rfl ?_
       refine gb0 [7] [(124,vI (i2:Int))] ?_
       refine ge_call (d:=some 125) (f:=17) (args:=#[vI ((mget (mset (mset ([]:List (Int×Int)) 14 9) 17 10) e2.Op).getD 0),vI (i2:Int)]) (by kernel_rfl) (punctualref_F_ok ((mget (mset (mset ([]:List (Int×Int)) 14 9) 17 10) e2.Op).getD 0) (i2:Int) _ _ rfl) ?_
       rintro _ w43 ⟨rfl,hS153⟩
       refine ⟨_,rfl,hS153.below,?_⟩
       have hS154:=hS152.call hS153
       refine gb0 [9] [(2,.pointer none)] ?_
       have hS155:=hS154.b 5
       refine gs b2 0 #[vI 0,vI 0] 30 [vI ((punctualref_F.f ((mget (mset (mset ([]:List (Int×Int)) 14 9) 17 10) e2.Op).getD 0) (i2:Int)).Code),vI ((punctualref_F.f ((mget (mset (mset ([]:List (Int×Int)) 14 9) 17 10) e2.Op).getD 0) (i2:Int)).At)] hS155 fun w44 hS156=>?_
       have hS157:=hS156.nc #[vI ((punctualref_F.f ((mget (mset (mset ([]:List (Int×Int)) 14 9) 17 10) e2.Op).getD 0) (i2:Int)).Code),vI ((punctualref_F.f ((mget (mset (mset ([]:List (Int×Int)) 14 9) 17 10) e2.Op).getD 0) (i2:Int)).At)] rfl
       refine gn hK38 ?_
       have hS158:=hS157.takeN 0
       obtain rfl:=si h
       exact we_ret fun a hF=>hQ _ _ _ (Outs.out nofun ⟨rfl,(pr [.tmp 2,.cell 3 30] [.pointer none,.agg #[vI ((punctualref_F.f ((mget (mset (mset ([]:List (Int×Int)) 14 9) 17 10) e2.Op).getD 0) (i2:Int)).Code),vI ((punctualref_F.f ((mget (mset (mset ([]:List (Int×Int)) 14 9) 17 10) e2.Op).getD 0) (i2:Int)).At)]] [.loaded ⟨b2,0,none⟩ (vI ((punctualref_F.f ((mget (mset (mset ([]:List (Int×Int)) 14 9) 17 10) e2.Op).getD 0) (i2:Int)).Code)),.loaded ⟨b2,1,none⟩ (vI ((punctualref_F.f ((mget (mset (mset ([]:List (Int×Int)) 14 9) 17 10) e2.Op).getD 0) (i2:Int)).At))] ⟨hS157.c 0,hS157.c 0,trivial⟩ ⟨rfl,hS158⟩) a hF⟩)
      rw [if_neg hc15] at h
      refine go3_known (t:=97) (b:=(e4.Op != ((mget (mset (mset ([]:List (Int×Int)) 14 13) 17 16) e2.Op).getD 0))) (c:=true) (by kernel_rfl) (bne_iff_ne.2 hc15) ?_
      refine g30 [18,19,20,21,22,23,24,25,26,27,28,29,30,31,32,33,34,35,36,37,38] [(118,.bool true),(117,undef),(116,undef),(115,undef),(114,undef),(113,undef),(112,undef),(111,undef),(110,undef),(109,undef),(108,undef),(107,.bool true),(106,.bool true),(105,undef),(104,undef),(103,undef),(102,undef),(101,undef),(100,undef),(99,undef),(98,undef)] ?_
      refine go_fin3 fun a hF=>hK35 _ _ ?_ a hF
      refine we_true (by kernel_rfl) ?_
      refine ws fun K39 hK39=>wr [(0,1),(1,2),(2,2),(3,0),(4,0),(5,0),(6,0),(7,0),(8,1),(9,0),(10,2)]<|gw (some 119) (.map #[] 0) (fun b=>.map (some b)) hS124 fun b13 w45 hx17 hS159=>?_
      have hS160:=hS159.newMap (κ:=Int) (ν:=Int)
      refine ge_mapSet (κ:=Int) (ν:=Int) (b:=b13) (ins:=true) (mm:=0) (t:=70) (kt:=3) (et:=28) (x:=(.tmp 119)) (y:=(.const (vI 14))) (u:=(.const (vI 9))) (ty:=0) (m:=([]:List (Int×Int))) (k:=14) (v:=9) (vv:=vI 9) (by kernel_rfl) (by kernel_rfl) (by kernel_rfl) (by kernel_rfl) rfl (by kernel_rfl) (by kernel_rfl) hS160 fun w46 hS161=>?_
      refine ge_mapSet (κ:=Int) (ν:=Int) (b:=b13) (ins:=true) (mm:=0) (t:=70) (kt:=3) (et:=28) (x:=(.tmp 119)) (y:=(.const (vI 17))) (u:=(.const (vI 10))) (ty:=0) (m:=(mset ([]:List (Int×Int)) 14 9)) (k:=17) (v:=10) (vv:=vI 10) (by kernel_rfl) (by kernel_rfl) (by kernel_rfl) (by kernel_rfl) rfl (by kernel_rfl) (by kernel_rfl) hS161 fun w47 hS162=>?_
      refine gb [3,4,5] [(122,vI e2.Op),(121,pP b6 0),(120,.map (some b13))] [.loaded ⟨b6,0,none⟩ (vI e2.Op)] ⟨hS162.c 2,trivial⟩ ?_
      refine ge_lookup (κ:=Int) (ν:=Int) (d:=123) (b:=b13) (q:=0) (t:=70) (kt:=3) (et:=28) (x:=(.tmp 120)) (y:=(.tmp 122)) (ty:=28) (m:=(mset (mset ([]:List (Int×Int)) 14 9) 17 10)) (k:=e2.Op) (z:=0) (v:=((mget (mset (mset ([]:List (Int×Int)) 14 9) 17 10) e2.Op).getD 0)) (zv:=vI 0) (vv:=vI ((mget (mset (mset ([]:List (Int×Int)) 14 9) 17 10) e2.Op).getD 0)) (by kernel_rfl) (by kernel_rfl) (by kernel_rfl) (by kernel_rfl) (by kernel_rfl) (fun w'=>by kernel_rfl) rfl hS162 rfl rfl rfl ?_
      refine gb0 [7] [(124,vI (i2:Int))] ?_
      refine ge_call (d:=some 125) (f:=17) (args:=#[vI ((mget (mset (mset ([]:List (Int×Int)) 14 9) 17 10) e2.Op).getD 0),vI (i2:Int)]) (by kernel_rfl) (punctualref_F_ok ((mget (mset (mset ([]:List (Int×Int)) 14 9) 17 10) e2.Op).getD 0) (i2:Int) _ _ rfl) ?_
      rintro _ w48 ⟨rfl,hS163⟩
      refine ⟨_,rfl,hS163.below,?_⟩
      have hS164:=hS162.call hS163
      refine gb0 [9] [(2,.pointer none)] ?_
      have hS165:=hS164.b 5
      refine gs b2 0 #[vI 0,vI 0] 30 [vI ((punctualref_F.f ((mget (mset (mset ([]:List (Int×Int)) 14 9) 17 10) e2.Op).getD 0) (i2:Int)).Code),vI ((punctualref_F.f ((mget (mset (mset ([]:List (Int×Int)) 14 9) 17 10) e2.Op).getD 0) (i2:Int)).At)] hS165 fun w49 hS166=>?_
      have hS167:=hS166.nc #[vI ((punctualref_F.f ((mget (mset (mset ([]:List (Int×Int)) 14 9) 17 10) e2.Op).getD 0) (i2:Int)).Code),vI ((punctualref_F.f ((mget (mset (mset ([]:List (Int×Int)) 14 9) 17 10) e2.Op).getD 0) (i2:Int)).At)] rfl
      refine gn hK39 ?_
      have hS168:=hS167.takeN 0
      obtain rfl:=si h
      exact we_ret fun a hF=>hQ _ _ _ (Outs.out nofun ⟨rfl,(pr [.tmp 2,.cell 3 30] [.pointer none,.agg #[vI ((punctualref_F.f ((mget (mset (mset ([]:List (Int×Int)) 14 9) 17 10) e2.Op).getD 0) (i2:Int)).Code),vI ((punctualref_F.f ((mget (mset (mset ([]:List (Int×Int)) 14 9) 17 10) e2.Op).getD 0) (i2:Int)).At)]] [.loaded ⟨b2,0,none⟩ (vI ((punctualref_F.f ((mget (mset (mset ([]:List (Int×Int)) 14 9) 17 10) e2.Op).getD 0) (i2:Int)).Code)),.loaded ⟨b2,1,none⟩ (vI ((punctualref_F.f ((mget (mset (mset ([]:List (Int×Int)) 14 9) 17 10) e2.Op).getD 0) (i2:Int)).At))] ⟨hS167.c 0,hS167.c 0,trivial⟩ ⟨rfl,hS168⟩) a hF⟩)
     exact go_nomore3
    exact go_nomore3
   exact go_nomore3
  exact go_nomore3
 rw [if_neg hc14] at h
 cases h
abbrev punctualref_ReadImage.A1 (w0:World) (l0:List SIns) (A0:Option Addr) (c0:Nat) (b1:Nat) (b2:Nat) (b4:Nat) (b5:Nat):(Nat×(List Int)×(List Sregion))→Act→World→Prop:=fun (s:Nat×(List Int)×(List Sregion)) a w=>∃ (v1:Value) (v2:Value),St w0 w [Own.blk b5 (.cells #[v1] 23 (0,0)),Own.blk b4 (.cells #[.slice A0 l0.length c0,v2] 68 (0,0)),Own.blk b2 (.cells #[vI 0,vI 0] 30 (0,0)),Own.blk b1 (.cells #[.slice A0 l0.length c0] 22 (0,0)),Own.of v1 3 s.2.1,Own.of v2 73 s.2.2]∧Frm 230 a [(1,pP b1 0),(3,pP b2 0),(7,pP b4 0),(8,pP b5 0),(42,.slice A0 l0.length c0),(43,vI (l0.length:Int)),(44,vI (s.1:Int))]
abbrev punctualref_ReadImage.B1 (w0:World) (l0:List SIns) (A0:Option Addr) (c0:Nat) (b1:Nat) (b2:Nat) (b4:Nat) (b5:Nat):(((List Int)×(List Sregion)) ⊕ ((Option PImage)×SFault))→Exit→Act→World→Prop:=Exits 2 (fun (s:(List Int)×(List Sregion)) a w=>∃ (v3:Value) (v4:Value),St w0 w [Own.blk b5 (.cells #[v3] 23 (0,0)),Own.blk b4 (.cells #[.slice A0 l0.length c0,v4] 68 (0,0)),Own.blk b2 (.cells #[vI 0,vI 0] 30 (0,0)),Own.blk b1 (.cells #[.slice A0 l0.length c0] 22 (0,0)),Own.of v3 3 s.1,Own.of v4 73 s.2]∧Frm 230 a [(1,pP b1 0),(3,pP b2 0),(7,pP b4 0),(8,pP b5 0)]) (Rets Tryd.prog Tryd.f16 (punctualref_ReadImage.Post w0 l0 A0 c0))
theorem punctualref_ReadImage_r1 (K:Nat) (w0:World) (l0:List SIns) (A0:Option Addr) (c0:Nat) (hR0:RdL w0 A0 l0) (hL0:l0.length≤c0) (b1:Nat) (b2:Nat) (hc1:¬ ((l0.length:Int) > 2000)) (b4:Nat) (b5:Nat) (s:Nat×(List Int)×(List Sregion)) (o:(Nat×(List Int)×(List Sregion)) ⊕ (((List Int)×(List Sregion)) ⊕ ((Option PImage)×SFault))) (h:punctualref_ReadImage.r1 K l0 s=some o) (a:Act) (w:World) (hA:punctualref_ReadImage.A1 w0 l0 A0 c0 b1 b2 b4 b5 s a w) (Q:Exit→Act→World→Prop) (hQ:∀ x a w,Outs (punctualref_ReadImage.A1 w0 l0 A0 c0 b1 b2 b4 b5) (punctualref_ReadImage.B1 w0 l0 A0 c0 b1 b2 b4 b5) o x a w→Q x a w):(subF Tryd.f16 [1,1,1,1,1,0,1,0,0]).wp Tryd.prog Q a w:=by
 obtain ⟨i2,m1,m2⟩:=s
 obtain ⟨v1,v2,hS,hF⟩:=hA
 replace hS:St w0 w [Own.blk b5 (.cells #[v1] 23 (0,0)),Own.blk b4 (.cells #[.slice A0 l0.length c0,v2] 68 (0,0)),Own.blk b2 (.cells #[vI 0,vI 0] 30 (0,0)),Own.blk b1 (.cells #[.slice A0 l0.length c0] 22 (0,0)),Own.of v1 3 m1,Own.of v2 73 m2]:=hS
 simp only [punctualref_ReadImage.r1] at h
 refine (?_:WE Tryd.prog 230 (subF Tryd.f16 [1,1,1,1,1,0,1,0,0]) Q [(1,pP b1 0),(3,pP b2 0),(7,pP b4 0),(8,pP b5 0),(42,.slice A0 l0.length c0),(43,vI (l0.length:Int)),(44,vI (i2:Int))] w) a hF
 clear hF a
 refine ws fun K18 hK18=>wr [(0,0)]<|gb0 [0] [(45,.bool (decide ((i2:Int)<(l0.length:Int))))] ?_
 refine gn hK18<|ws fun K19 hK19=>?_
 by_cases hc4:(i2:Int)<(l0.length:Int)
 ·rw [if_pos hc4] at h
  refine wk 45 (decide ((i2:Int)<(l0.length:Int))) true (decide_eq_true hc4) ?_
  refine we_true (by kernel_rfl) ?_
  refine we_skip fun a hF=>hK19 _ _ ?_ a hF
  refine ws fun K20 hK20=>we_block<|ws fun K21 hK21=>wr [(0,0),(1,0),(2,0),(3,1),(4,0),(5,2)]<|gb0 [0] [(46,vI (i2:Int))] ?_
  rcases hx7:l0[i2]? with _ | e2
  ·rw [hx7] at h; cases h
  rw [hx7] at h
  simp only [] at h
  refine gi 47 0 22 35 3 l0.length c0 (.tmp 42) (.tmp 44) A0 .i64 (i2:Int) i2 ((hS.rd hR0).eqSome (pos_of_get hx7)) rfl (lt_of_get hx7) ?_
  refine gb [2] [(48,.agg #[vI e2.Op,vI e2.A,vI e2.B])] [.loaded ⟨blkOf A0,offOf A0+i2*3,none⟩ (vI e2.Op),.loaded ⟨blkOf A0,offOf A0+i2*3+1,none⟩ (vI e2.A),.loaded ⟨blkOf A0,offOf A0+i2*3+2,none⟩ (vI e2.B)] ⟨RdL.cell (j:=0) (hS.rd hR0) hx7 rfl,RdL.cell (j:=1) (hS.rd hR0) hx7 rfl,RdL.cell (j:=2) (hS.rd hR0) hx7 rfl,trivial⟩ ?_
  refine gw (some 10) (.cells #[vI 0,vI 0,vI 0] 35) (fun b=>pP b 0) hS fun b6 w13 hx8 hS36=>?_
  refine gb0 [4] [(9,vI (i2:Int))] ?_
  refine gs b6 0 #[vI 0,vI 0,vI 0] 35 [vI e2.Op,vI e2.A,vI e2.B] hS36 fun w14 hS37=>?_
  have hS38:=hS37.nc #[vI e2.Op,vI e2.A,vI e2.B] rfl
  refine gn hK21<|ws fun K22 hK22=>wr [(0,0)]<|gb0 [0] [(11,vI (-1))] ?_
  refine gn hK22<|ws fun K23 hK23=>?_
  obtain ⟨Z1,cz1,rfl⟩:=hS38.open 5 rfl
  obtain ⟨Z2,cz2,rfl⟩:=hS38.open 6 rfl
  rcases hq5:punctualref_ReadImage.p2 m1 with _ | (z2 | rr4)
  ·rw [hq5] at h; cases h
  ·rw [hq5] at h
   simp only [] at h
   refine we_keep (e':=[(1,pP b1 0),(3,pP b2 0),(7,pP b4 0),(8,pP b5 0),(9,vI (i2:Int)),(10,pP b6 0),(11,vI (-1)),(42,.slice A0 l0.length c0),(43,vI (l0.length:Int)),(44,vI (i2:Int)),(45,.bool true),(46,vI (i2:Int)),(47,.pointer (some ⟨blkOf A0,offOf A0+i2*3,none⟩)),(48,.agg #[vI e2.Op,vI e2.A,vI e2.B])]) ea (punctualref_ReadImage_p2 K w0 l0 A0 c0 hR0 hL0 b1 b2 hc1 b4 b5 i2 m1 m2 hc4 e2 hx7 b6 Z1 cz1 Z2 cz2 _ hq5 _ hS38 _ ?_)
   rintro _ a w15 ⟨rfl,hS53,hF⟩
   replace hS53:St w0 w15 [Own.blk b6 (.cells #[vI e2.Op,vI e2.A,vI e2.B] 35 (0,0)),Own.blk b5 (.cells #[(.slice Z1 m1.length cz1)] 23 (0,0)),Own.blk b4 (.cells #[.slice A0 l0.length c0,(.slice Z2 m2.length cz2)] 68 (0,0)),Own.blk b2 (.cells #[vI 0,vI 0] 30 (0,0)),Own.blk b1 (.cells #[.slice A0 l0.length c0] 22 (0,0)),Own.of (.slice Z1 m1.length cz1) 3 m1,Own.of (.slice Z2 m2.length cz2) 73 m2]:=hS53
   refine hK23 [(1,pP b1 0),(3,pP b2 0),(7,pP b4 0),(8,pP b5 0),(9,vI (i2:Int)),(10,pP b6 0),(11,vI z2),(42,.slice A0 l0.length c0),(43,vI (l0.length:Int)),(44,vI (i2:Int))] w15 ?_ a hF
   refine ws fun K25 hK25=>wr [(0,0),(1,0)]<|gb0 [0,1] [(12,.func (.func 24) #[] #[pP b5 0,pP b1 0,pP b6 0]),(58,.func (.func 24) #[] #[pP b5 0,pP b1 0,pP b6 0])] ?_
   refine gn hK25<|ws fun K26 hK26=>wr [(0,0),(1,0)]<|gb [0,1] [(60,vI e2.Op),(59,pP b6 0)] [.loaded ⟨b6,0,none⟩ (vI e2.Op)] ⟨hS53.c 0,trivial⟩ ?_
   refine gn hK26<|we_block<|ws fun K27 hK27=>?_
   rcases hq6:punctualref_ReadImage.p3 e2 with _ | (q2 | rr3)
   ·rw [hq6] at h; cases h
   ·rw [hq6] at h
    simp only [] at h
    refine we_keep (e':=[(1,pP b1 0),(3,pP b2 0),(7,pP b4 0),(8,pP b5 0),(9,vI (i2:Int)),(10,pP b6 0),(11,vI z2),(12,.func (.func 24) #[] #[pP b5 0,pP b1 0,pP b6 0]),(42,.slice A0 l0.length c0),(43,vI (l0.length:Int)),(44,vI (i2:Int)),(58,.func (.func 24) #[] #[pP b5 0,pP b1 0,pP b6 0]),(59,pP b6 0),(60,vI e2.Op)]) ea (punctualref_ReadImage_p3 K w0 l0 A0 c0 hR0 hL0 b1 b2 hc1 b4 b5 i2 m1 m2 hc4 e2 hx7 b6 Z1 cz1 Z2 cz2 z2 _ hq6 _ hS53 _ ?_)
    rintro _ a w16 ⟨rfl,hS68,hF⟩
    replace hS68:St w0 w16 [Own.blk b6 (.cells #[vI e2.Op,vI e2.A,vI e2.B] 35 (0,0)),Own.blk b5 (.cells #[(.slice Z1 m1.length cz1)] 23 (0,0)),Own.blk b4 (.cells #[.slice A0 l0.length c0,(.slice Z2 m2.length cz2)] 68 (0,0)),Own.blk b2 (.cells #[vI 0,vI 0] 30 (0,0)),Own.blk b1 (.cells #[.slice A0 l0.length c0] 22 (0,0)),Own.of (.slice Z1 m1.length cz1) 3 m1,Own.of (.slice Z2 m2.length cz2) 73 m2]:=hS68
    refine hK27 [(1,pP b1 0),(3,pP b2 0),(7,pP b4 0),(8,pP b5 0),(9,vI (i2:Int)),(10,pP b6 0),(11,vI z2),(12,.func (.func 24) #[] #[pP b5 0,pP b1 0,pP b6 0]),(42,.slice A0 l0.length c0),(43,vI (l0.length:Int)),(44,vI (i2:Int)),(60,vI e2.Op),(61,.bool q2)] w16 ?_ a hF
    by_cases hc8:q2=true
    ·rw [if_pos hc8] at h
     refine wk 61 q2 true hc8 ?_
     refine we_true (by kernel_rfl) ?_
     refine ws fun K29 hK29=>ws fun K30 hK30=>wr [(0,0),(1,0),(2,0),(3,1)] ?_
     rcases hq7:punctualref_ReadImage_1.f K e2.Op m1 l0 e2 with _ | r2
     ·rw [hq7] at h; cases h
     rw [hq7] at h
     simp only [] at h
     refine gb [0,1,2] [(66,vI e2.Op),(65,pP b6 0),(64,.func (.func 24) #[] #[pP b5 0,pP b1 0,pP b6 0])] [.loaded ⟨b6,0,none⟩ (vI e2.Op)] ⟨hS68.c 0,trivial⟩ ?_
     refine ge_call (d:=some 67) (f:=24) (args:=#[vI e2.Op,pP b5 0,pP b1 0,pP b6 0]) (by kernel_rfl) (punctualref_ReadImage_1_ok K e2.Op b5 m1 Z1 cz1 b1 l0 A0 c0 b6 e2 _ (hS68.rdAt 5 rfl) (hS68.capAt 5 rfl) (hS68.globOf 1 rfl) (hS68.rd hR0) hL0 (hS68.globOf 4 rfl) (hS68.globOf 0 rfl) _ hq7) ?_
     rintro _ w17 ⟨rfl,hS69⟩
     refine ⟨_,rfl,hS69.below,?_⟩
     have hS70:=hS68.call hS69
     refine gn hK30 ?_
     by_cases hc9:r2=true
     ·rw [if_pos hc9] at h
      refine wk 67 r2 true hc9 ?_
      refine we_true (by kernel_rfl) ?_
      refine ws fun K31 hK31=>wr [(0,1),(1,2),(2,2),(3,0),(4,0),(5,0),(6,0),(7,0),(8,1),(9,0),(10,2)]<|gw (some 68) (.map #[] 0) (fun b=>.map (some b)) hS70 fun b7 w18 hx10 hS71=>?_
      have hS72:=hS71.newMap (κ:=Int) (ν:=Int)
      refine ge_mapSet (κ:=Int) (ν:=Int) (b:=b7) (ins:=true) (mm:=0) (t:=70) (kt:=3) (et:=28) (x:=(.tmp 68)) (y:=(.const (vI 13))) (u:=(.const (vI 9))) (ty:=0) (m:=([]:List (Int×Int))) (k:=13) (v:=9) (vv:=vI 9) (by kernel_rfl) (by kernel_rfl) (by kernel_rfl) (by kernel_rfl) rfl (by kernel_rfl) (by kernel_rfl) hS72 fun w19 hS73=>?_
      refine ge_mapSet (κ:=Int) (ν:=Int) (b:=b7) (ins:=true) (mm:=0) (t:=70) (kt:=3) (et:=28) (x:=(.tmp 68)) (y:=(.const (vI 16))) (u:=(.const (vI 10))) (ty:=0) (m:=(mset ([]:List (Int×Int)) 13 9)) (k:=16) (v:=10) (vv:=vI 10) (by kernel_rfl) (by kernel_rfl) (by kernel_rfl) (by kernel_rfl) rfl (by kernel_rfl) (by kernel_rfl) hS73 fun w20 hS74=>?_
      refine gb [3,4,5] [(71,vI e2.Op),(70,pP b6 0),(69,.map (some b7))] [.loaded ⟨b6,0,none⟩ (vI e2.Op)] ⟨hS74.c 1,trivial⟩ ?_
      refine ge_lookup (κ:=Int) (ν:=Int) (d:=72) (b:=b7) (q:=0) (t:=70) (kt:=3) (et:=28) (x:=(.tmp 69)) (y:=(.tmp 71)) (ty:=28) (m:=(mset (mset ([]:List (Int×Int)) 13 9) 16 10)) (k:=e2.Op) (z:=0) (v:=((mget (mset (mset ([]:List (Int×Int)) 13 9) 16 10) e2.Op).getD 0)) (zv:=vI 0) (vv:=vI ((mget (mset (mset ([]:List (Int×Int)) 13 9) 16 10) e2.Op).getD 0)) (by kernel_rfl) (by kernel_rfl) (by kernel_rfl) (by kernel_rfl) (by kernel_rfl) (fun w'=>by kernel_rfl) rfl hS74 rfl rfl rfl ?_
      refine gb0 [7] [(73,vI (i2:Int))] ?_
      refine ge_call (d:=some 74) (f:=17) (args:=#[vI ((mget (mset (mset ([]:List (Int×Int)) 13 9) 16 10) e2.Op).getD 0),vI (i2:Int)]) (by kernel_rfl) (punctualref_F_ok ((mget (mset (mset ([]:List (Int×Int)) 13 9) 16 10) e2.Op).getD 0) (i2:Int) _ _ rfl) ?_
      rintro _ w21 ⟨rfl,hS75⟩
      refine ⟨_,rfl,hS75.below,?_⟩
      have hS76:=hS74.call hS75
      refine gb0 [9] [(2,.pointer none)] ?_
      have hS77:=hS76.b 4
      refine gs b2 0 #[vI 0,vI 0] 30 [vI ((punctualref_F.f ((mget (mset (mset ([]:List (Int×Int)) 13 9) 16 10) e2.Op).getD 0) (i2:Int)).Code),vI ((punctualref_F.f ((mget (mset (mset ([]:List (Int×Int)) 13 9) 16 10) e2.Op).getD 0) (i2:Int)).At)] hS77 fun w22 hS78=>?_
      have hS79:=hS78.nc #[vI ((punctualref_F.f ((mget (mset (mset ([]:List (Int×Int)) 13 9) 16 10) e2.Op).getD 0) (i2:Int)).Code),vI ((punctualref_F.f ((mget (mset (mset ([]:List (Int×Int)) 13 9) 16 10) e2.Op).getD 0) (i2:Int)).At)] rfl
      refine gn hK31 ?_
      have hS80:=hS79.takeN 0
      obtain rfl:=si h
      exact we_ret fun a hF=>hQ _ _ _ (Outs.out nofun (Exits.on ⟨rfl,(pr [.tmp 2,.cell 3 30] [.pointer none,.agg #[vI ((punctualref_F.f ((mget (mset (mset ([]:List (Int×Int)) 13 9) 16 10) e2.Op).getD 0) (i2:Int)).Code),vI ((punctualref_F.f ((mget (mset (mset ([]:List (Int×Int)) 13 9) 16 10) e2.Op).getD 0) (i2:Int)).At)]] [.loaded ⟨b2,0,none⟩ (vI ((punctualref_F.f ((mget (mset (mset ([]:List (Int×Int)) 13 9) 16 10) e2.Op).getD 0) (i2:Int)).Code)),.loaded ⟨b2,1,none⟩ (vI ((punctualref_F.f ((mget (mset (mset ([]:List (Int×Int)) 13 9) 16 10) e2.Op).getD 0) (i2:Int)).At))] ⟨hS79.c 0,hS79.c 0,trivial⟩ ⟨rfl,hS80⟩) a hF⟩))
     rw [if_neg hc9] at h
     refine wk 67 r2 false (Bool.eq_false_iff.2 hc9) ?_
     refine we_false (by kernel_rfl) ?_
     refine we_skip fun a hF=>hK29 _ _ ?_ a hF
     refine wr [(0,0),(1,0),(2,1),(3,2),(4,2)]<|gb [0,1] [(76,vI (i2:Int)),(75,(.slice Z1 m1.length cz1))] [.loaded ⟨b5,0,none⟩ ((.slice Z1 m1.length cz1))] ⟨hS70.c 1,trivial⟩ ?_
     refine gw (some 77) (.cells #[vI (i2:Int)] 3) (fun b=>.slice (some ⟨b,0,none⟩) 1 1) hS70 fun b8 w23 hx11 hS81=>?_
     have hS82:=hS81.b 6
     by_cases hc10:m1.length<17592186044416
     ·rw [if_pos hc10] at h
      refine ge_append (α:=Int) (m:=0) (d:=78) (t:=23) (el:=3) (bytes:=8) (c1:=1) (b1:=b8) (x:=(.tmp 75)) (y:=(.tmp 77)) (ty:=23) (v:=(.slice Z1 m1.length cz1)) (z:=vI 0) (l:=m1) (u:=(i2:Int)) (by kernel_rfl) (by kernel_rfl) (by kernel_rfl) (by kernel_rfl) (by kernel_rfl) rfl hS82 rfl (by omega) fun v5 w24 hS83=>?_
      obtain ⟨Z3,cz3,rfl⟩:=hS83.open 0 rfl
      have hS84:=hS83.b 2
      refine gs b5 0 #[(.slice Z1 m1.length cz1)] 23 [(.slice Z3 (m1++[(i2:Int)]).length cz3)] hS84 fun w25 hS85=>?_
      have hS86:=hS85.nc #[(.slice Z3 (m1++[(i2:Int)]).length cz3)] rfl
      refine gn hK20<|wr [(0,0),(1,0)]<|ge_addn (d:=150) (ty:=3) (x:=(.tmp 44)) (y:=(.const (vI 1))) (t:=3) (t2:=3) (k:=.i64) (m:=i2) (by kernel_rfl) (by kernel_rfl) (by kernel_rfl) (by have h0:=hR0.small; omega) ?_
      refine gb0 [1] [(44,vI ((i2+1:Nat):Int))] ?_
      have hS93:=((((((hS86.b 6).b 2).b 6).b 6).b 6).b 5).takeN 6
      obtain rfl:=si h
      exact ge_nil fun a hF=>hQ _ _ _ (Outs.again ⟨(.slice Z3 (m1++[(i2:Int)]).length cz3),(.slice Z2 m2.length cz2),hS93,hF.weaken ea⟩)
     rw [if_neg hc10] at h
     cases h
    rw [if_neg hc8] at h
    refine wk 61 q2 false (Bool.eq_false_iff.2 hc8) ?_
    refine we_false (by kernel_rfl) ?_
    refine ws fun K32 hK32=>?_
    rcases hq9:punctualref_ReadImage.p4 e2 with _ | (q4 | rr2)
    ·rw [hq9] at h; cases h
    ·rw [hq9] at h
     simp only [] at h
     refine we_keep (e':=[(1,pP b1 0),(3,pP b2 0),(7,pP b4 0),(8,pP b5 0),(9,vI (i2:Int)),(10,pP b6 0),(11,vI z2),(12,.func (.func 24) #[] #[pP b5 0,pP b1 0,pP b6 0]),(42,.slice A0 l0.length c0),(43,vI (l0.length:Int)),(44,vI (i2:Int)),(60,vI e2.Op),(61,.bool false)]) ea (punctualref_ReadImage_p4 K w0 l0 A0 c0 hR0 hL0 b1 b2 hc1 b4 b5 i2 m1 m2 hc4 e2 hx7 b6 Z1 cz1 Z2 cz2 z2 q2 hc8 _ hq9 _ hS68 _ ?_)
     rintro _ a w26 ⟨rfl,hS108,hF⟩
     replace hS108:St w0 w26 [Own.blk b6 (.cells #[vI e2.Op,vI e2.A,vI e2.B] 35 (0,0)),Own.blk b5 (.cells #[(.slice Z1 m1.length cz1)] 23 (0,0)),Own.blk b4 (.cells #[.slice A0 l0.length c0,(.slice Z2 m2.length cz2)] 68 (0,0)),Own.blk b2 (.cells #[vI 0,vI 0] 30 (0,0)),Own.blk b1 (.cells #[.slice A0 l0.length c0] 22 (0,0)),Own.of (.slice Z1 m1.length cz1) 3 m1,Own.of (.slice Z2 m2.length cz2) 73 m2]:=hS108
     refine hK32 [(1,pP b1 0),(3,pP b2 0),(7,pP b4 0),(8,pP b5 0),(9,vI (i2:Int)),(10,pP b6 0),(11,vI z2),(12,.func (.func 24) #[] #[pP b5 0,pP b1 0,pP b6 0]),(42,.slice A0 l0.length c0),(43,vI (l0.length:Int)),(44,vI (i2:Int)),(60,vI e2.Op),(79,.bool q4)] w26 ?_ a hF
     by_cases hc12:q4=true
     ·rw [if_pos hc12] at h
      refine wk 79 q4 true hc12 ?_
      refine we_true (by kernel_rfl) ?_
      refine ws fun K34 hK34=>?_
      rcases hq14:punctualref_ReadImage.p5 l0 i2 e2 z2 with _ | (_ | rr1)
      ·rw [hq14] at h; cases h
      ·rw [hq14] at h
       simp only [] at h
       refine we_keep (e':=[(1,pP b1 0),(3,pP b2 0),(7,pP b4 0),(8,pP b5 0),(9,vI (i2:Int)),(10,pP b6 0),(11,vI z2),(12,.func (.func 24) #[] #[pP b5 0,pP b1 0,pP b6 0]),(42,.slice A0 l0.length c0),(43,vI (l0.length:Int)),(44,vI (i2:Int)),(60,vI e2.Op),(79,.bool true)]) ea (punctualref_ReadImage_p5 K w0 l0 A0 c0 hR0 hL0 b1 b2 hc1 b4 b5 i2 m1 m2 hc4 e2 hx7 b6 Z1 cz1 Z2 cz2 z2 q2 hc8 q4 hc12 _ hq14 _ hS108 _ ?_)
       rintro _ a w50 ⟨rfl,hS169,hF⟩
       replace hS169:St w0 w50 [Own.blk b5 (.cells #[(.slice Z1 m1.length cz1)] 23 (0,0)),Own.blk b4 (.cells #[.slice A0 l0.length c0,(.slice Z2 m2.length cz2)] 68 (0,0)),Own.blk b2 (.cells #[vI 0,vI 0] 30 (0,0)),Own.blk b1 (.cells #[.slice A0 l0.length c0] 22 (0,0)),Own.of (.slice Z1 m1.length cz1) 3 m1,Own.of (.slice Z2 m2.length cz2) 73 m2]:=hS169
       refine hK34 [(1,pP b1 0),(3,pP b2 0),(7,pP b4 0),(8,pP b5 0),(9,vI (i2:Int)),(11,vI z2),(42,.slice A0 l0.length c0),(43,vI (l0.length:Int)),(44,vI (i2:Int))] w50 ?_ a hF
       refine ws fun K40 hK40=>wr [(0,0),(1,0),(2,0),(3,0),(4,0),(5,0),(6,0),(7,0),(8,1),(9,2),(10,0),(11,0),(12,2)]<|gb [0,1,2,3,4,5,6,7] [(133,.agg #[vI z2,vI (i2:Int)]),(132,vI (i2:Int)),(131,vI z2),(130,(.slice Z2 m2.length cz2)),(129,pP b4 1),(128,pP b4 0),(127,pP b4 0),(126,pP b4 0)] [.loaded ⟨b4,1,none⟩ ((.slice Z2 m2.length cz2))] ⟨hS169.c 1,trivial⟩ ?_
       refine gw (some 134) (.cells #[vI z2,vI (i2:Int)] 73) (fun b=>.slice (some ⟨b,0,none⟩) 1 1) hS169 fun b14 w51 hx18 hS170=>?_
       have hS171:=hS170.b 6
       by_cases hc19:m2.length<8796093022208
       ·rw [if_pos hc19] at h
        refine ge_append (α:=Sregion) (m:=0) (d:=135) (t:=66) (el:=73) (bytes:=16) (c1:=1) (b1:=b14) (x:=(.tmp 130)) (y:=(.tmp 134)) (ty:=66) (v:=(.slice Z2 m2.length cz2)) (z:=.agg #[vI 0,vI 0]) (l:=m2) (u:=(⟨z2,(i2:Int)⟩:Sregion)) (by kernel_rfl) (by kernel_rfl) (by kernel_rfl) (by kernel_rfl) (by kernel_rfl) rfl hS171 rfl (by omega) fun v6 w52 hS172=>?_
        refine gb0 [10,11] [(137,pP b4 1),(136,pP b4 0)] ?_
        obtain ⟨Z4,cz4,rfl⟩:=hS172.open 0 rfl
        have hS173:=hS172.b 2
        refine gs b4 1 #[.slice A0 l0.length c0,(.slice Z2 m2.length cz2)] 68 [(.slice Z4 (m2++[(⟨z2,(i2:Int)⟩:Sregion)]).length cz4)] hS173 fun w53 hS174=>?_
        have hS175:=hS174.nc #[.slice A0 l0.length c0,(.slice Z4 (m2++[(⟨z2,(i2:Int)⟩:Sregion)]).length cz4)] rfl
        refine gn hK40<|wr [(0,0),(1,0),(2,0),(3,0),(4,0),(5,2)]<|gb [0,1,2,3] [(141,vI (IntKind.i64.wrap ((m1.length:Int)-1))),(140,vI (m1.length:Int)),(139,(.slice Z1 m1.length cz1)),(138,(.slice Z1 m1.length cz1))] [.loaded ⟨b5,0,none⟩ ((.slice Z1 m1.length cz1)),.loaded ⟨b5,0,none⟩ ((.slice Z1 m1.length cz1))] ⟨hS175.c 2,hS175.c 2,trivial⟩ ?_
        by_cases hc20:0≤(IntKind.i64.wrap ((m1.length:Int)-1))
        ·rw [if_pos hc20] at h
         by_cases hc21:((IntKind.i64.wrap ((m1.length:Int)-1)).toNat)≤m1.length
         ·rw [if_pos hc21] at h
          refine ge_sliceHi (d:=142) (ty:=23) (t:=23) (el:=3) (sz:=1) (m:=m1.length) (c:=cz1) (hn:=((IntKind.i64.wrap ((m1.length:Int)-1)).toNat)) (x:=(.tmp 138)) (y:=(.tmp 141)) (A:=Z1) (k':=.i64) (hi:=(IntKind.i64.wrap ((m1.length:Int)-1))) (by kernel_rfl) (by kernel_rfl) (by kernel_rfl) (Int.toNat_of_nonneg hc20).symm (by kernel_rfl) (by kernel_rfl) (by have f0:=hc21; have f1:=(hS175.capAt 5 rfl); omega) ?_
          refine ge_same (t:=142) (v:=.slice Z1 ((IntKind.i64.wrap ((m1.length:Int)-1)).toNat) cz1) (v':=.slice Z1 ((m1.take ((IntKind.i64.wrap ((m1.length:Int)-1)).toNat)).length) cz1) (by kernel_rfl) (congrArg (fun z=>Value.slice Z1 z cz1) (show (IntKind.i64.wrap ((m1.length:Int)-1)).toNat=(m1.take ((IntKind.i64.wrap ((m1.length:Int)-1)).toNat)).length by have f0:=hc21; have f1:=(hS175.capAt 5 rfl); simp only [List.length_take]; omega)) ?_
          have hS176:=hS175.b 2
          refine gs b5 0 #[(.slice Z1 m1.length cz1)] 23 [.slice Z1 ((m1.take ((IntKind.i64.wrap ((m1.length:Int)-1)).toNat)).length) cz1] hS176 fun w54 hS177=>?_
          have hS178:=hS177.nc #[.slice Z1 ((m1.take ((IntKind.i64.wrap ((m1.length:Int)-1)).toNat)).length) cz1] rfl
          refine gn hK20<|wr [(0,0),(1,0)]<|ge_addn (d:=150) (ty:=3) (x:=(.tmp 44)) (y:=(.const (vI 1))) (t:=3) (t2:=3) (k:=.i64) (m:=i2) (by kernel_rfl) (by kernel_rfl) (by kernel_rfl) (by have h0:=hR0.small; omega) ?_
          refine gb0 [1] [(44,vI ((i2+1:Nat):Int))] ?_
          have hS186:=(((((((hS178.b 5).shrink ((IntKind.i64.wrap ((m1.length:Int)-1)).toNat)).b 3).b 1).b 5).b 5).b 5).b 5
          obtain rfl:=si h
          exact ge_nil fun a hF=>hQ _ _ _ (Outs.again ⟨(.slice Z1 (m1.take ((IntKind.i64.wrap ((m1.length:Int)-1)).toNat)).length cz1),(.slice Z4 (m2++[(⟨z2,(i2:Int)⟩:Sregion)]).length cz4),hS186,hF.weaken ea⟩)
         rw [if_neg hc21] at h
         cases h
        rw [if_neg hc20] at h
        cases h
       rw [if_neg hc19] at h
       cases h
      rw [hq14] at h
      simp only [] at h
      refine we_keep (e':=[(1,pP b1 0),(3,pP b2 0),(7,pP b4 0),(8,pP b5 0),(9,vI (i2:Int)),(10,pP b6 0),(11,vI z2),(12,.func (.func 24) #[] #[pP b5 0,pP b1 0,pP b6 0]),(42,.slice A0 l0.length c0),(43,vI (l0.length:Int)),(44,vI (i2:Int)),(60,vI e2.Op),(79,.bool true)]) ea (punctualref_ReadImage_p5 K w0 l0 A0 c0 hR0 hL0 b1 b2 hc1 b4 b5 i2 m1 m2 hc4 e2 hx7 b6 Z1 cz1 Z2 cz2 z2 q2 hc8 q4 hc12 _ hq14 _ hS108 _ ?_)
      rintro _ a w1 ⟨_,rfl,hb⟩
      obtain rfl:=si h
      exact hQ _ _ _ (Outs.out nofun (Exits.on ⟨rfl,hb⟩))
     rw [if_neg hc12] at h
     refine wk 79 q4 false (Bool.eq_false_iff.2 hc12) ?_
     refine we_false (by kernel_rfl) ?_
     refine ws fun K41 hK41=>wr [(0,0),(1,0)]<|gb0 [0,1] [(143,.bool (e2.Op==15)),(144,.bool (e2.Op==15))] ?_
     refine gn hK41 ?_
     by_cases hc22:e2.Op=15
     ·rw [if_pos hc22] at h
      refine wk 143 (e2.Op==15) true (beq_iff_eq.2 hc22) ?_
      refine we_true (by kernel_rfl) ?_
      refine ws fun K42 hK42=>wr [(0,0),(1,1),(2,0)] ?_
      rcases hq15:punctualref_ReadImage_1.f K 13 m1 l0 e2 with _ | r3
      ·rw [hq15] at h; cases h
      rw [hq15] at h
      simp only [] at h
      refine gb0 [0] [(145,.func (.func 24) #[] #[pP b5 0,pP b1 0,pP b6 0])] ?_
      refine ge_call (d:=some 146) (f:=24) (args:=#[vI 13,pP b5 0,pP b1 0,pP b6 0]) (by kernel_rfl) (punctualref_ReadImage_1_ok K 13 b5 m1 Z1 cz1 b1 l0 A0 c0 b6 e2 _ (hS108.rdAt 5 rfl) (hS108.capAt 5 rfl) (hS108.globOf 1 rfl) (hS108.rd hR0) hL0 (hS108.globOf 4 rfl) (hS108.globOf 0 rfl) _ hq15) ?_
      rintro _ w55 ⟨rfl,hS187⟩
      refine ⟨_,rfl,hS187.below,?_⟩
      have hS188:=hS108.call hS187
      refine gb0 [2] [(147,.bool (!r3))] ?_
      refine gn hK42 ?_
      by_cases hc23:r3=true
      ·rw [if_pos hc23] at h
       refine wk 147 (!r3) false (congrArg (fun z=>!z) hc23) ?_
       refine we_false (by kernel_rfl) ?_
       refine we_skip fun a hF=>hK20 _ _ ?_ a hF
       refine wr [(0,0),(1,0)]<|ge_addn (d:=150) (ty:=3) (x:=(.tmp 44)) (y:=(.const (vI 1))) (t:=3) (t2:=3) (k:=.i64) (m:=i2) (by kernel_rfl) (by kernel_rfl) (by kernel_rfl) (by have h0:=hR0.small; omega) ?_
       refine gb0 [1] [(44,vI ((i2+1:Nat):Int))] ?_
       have hS195:=((((((hS188.b 6).b 6).b 6).b 6).b 6).b 6).takeN 6
       obtain rfl:=si h
       exact ge_nil fun a hF=>hQ _ _ _ (Outs.again ⟨(.slice Z1 m1.length cz1),(.slice Z2 m2.length cz2),hS195,hF.weaken ea⟩)
      rw [if_neg hc23] at h
      refine wk 147 (!r3) true (congrArg (fun z=>!z) (Bool.eq_false_iff.2 hc23)) ?_
      refine we_true (by kernel_rfl) ?_
      refine ws fun K43 hK43=>wr [(0,0),(1,1),(2,0),(3,2)]<|gb0 [0] [(148,vI (i2:Int))] ?_
      refine ge_call (d:=some 149) (f:=17) (args:=#[vI 9,vI (i2:Int)]) (by kernel_rfl) (punctualref_F_ok 9 (i2:Int) _ _ rfl) ?_
      rintro _ w56 ⟨rfl,hS196⟩
      refine ⟨_,rfl,hS196.below,?_⟩
      have hS197:=hS188.call hS196
      refine gb0 [2] [(2,.pointer none)] ?_
      have hS198:=hS197.b 3
      refine gs b2 0 #[vI 0,vI 0] 30 [vI ((punctualref_F.f 9 (i2:Int)).Code),vI ((punctualref_F.f 9 (i2:Int)).At)] hS198 fun w57 hS199=>?_
      have hS200:=hS199.nc #[vI ((punctualref_F.f 9 (i2:Int)).Code),vI ((punctualref_F.f 9 (i2:Int)).At)] rfl
      refine gn hK43 ?_
      have hS201:=hS200.takeN 0
      obtain rfl:=si h
      exact we_ret fun a hF=>hQ _ _ _ (Outs.out nofun (Exits.on ⟨rfl,(pr [.tmp 2,.cell 3 30] [.pointer none,.agg #[vI ((punctualref_F.f 9 (i2:Int)).Code),vI ((punctualref_F.f 9 (i2:Int)).At)]] [.loaded ⟨b2,0,none⟩ (vI ((punctualref_F.f 9 (i2:Int)).Code)),.loaded ⟨b2,1,none⟩ (vI ((punctualref_F.f 9 (i2:Int)).At))] ⟨hS200.c 0,hS200.c 0,trivial⟩ ⟨rfl,hS201⟩) a hF⟩))
     rw [if_neg hc22] at h
     refine wk 143 (e2.Op==15) false (beq_eq_false_iff_ne.2 hc22) ?_
     refine we_false (by kernel_rfl) ?_
     refine we_skip fun a hF=>hK20 _ _ ?_ a hF
     refine wr [(0,0),(1,0)]<|ge_addn (d:=150) (ty:=3) (x:=(.tmp 44)) (y:=(.const (vI 1))) (t:=3) (t2:=3) (k:=.i64) (m:=i2) (by kernel_rfl) (by kernel_rfl) (by kernel_rfl) (by have h0:=hR0.small; omega) ?_
     refine gb0 [1] [(44,vI ((i2+1:Nat):Int))] ?_
     have hS208:=((((((hS108.b 6).b 6).b 6).b 6).b 6).b 6).takeN 6
     obtain rfl:=si h
     exact ge_nil fun a hF=>hQ _ _ _ (Outs.again ⟨(.slice Z1 m1.length cz1),(.slice Z2 m2.length cz2),hS208,hF.weaken ea⟩)
    rw [hq9] at h
    simp only [] at h
    refine we_keep (e':=[(1,pP b1 0),(3,pP b2 0),(7,pP b4 0),(8,pP b5 0),(9,vI (i2:Int)),(10,pP b6 0),(11,vI z2),(12,.func (.func 24) #[] #[pP b5 0,pP b1 0,pP b6 0]),(42,.slice A0 l0.length c0),(43,vI (l0.length:Int)),(44,vI (i2:Int)),(60,vI e2.Op),(61,.bool false)]) ea (punctualref_ReadImage_p4 K w0 l0 A0 c0 hR0 hL0 b1 b2 hc1 b4 b5 i2 m1 m2 hc4 e2 hx7 b6 Z1 cz1 Z2 cz2 z2 q2 hc8 _ hq9 _ hS68 _ ?_)
    rintro _ a w1 ⟨_,rfl,hb⟩
    obtain rfl:=si h
    exact hQ _ _ _ (Outs.out nofun (Exits.on ⟨rfl,hb⟩))
   rw [hq6] at h
   simp only [] at h
   refine we_keep (e':=[(1,pP b1 0),(3,pP b2 0),(7,pP b4 0),(8,pP b5 0),(9,vI (i2:Int)),(10,pP b6 0),(11,vI z2),(12,.func (.func 24) #[] #[pP b5 0,pP b1 0,pP b6 0]),(42,.slice A0 l0.length c0),(43,vI (l0.length:Int)),(44,vI (i2:Int)),(58,.func (.func 24) #[] #[pP b5 0,pP b1 0,pP b6 0]),(59,pP b6 0),(60,vI e2.Op)]) ea (punctualref_ReadImage_p3 K w0 l0 A0 c0 hR0 hL0 b1 b2 hc1 b4 b5 i2 m1 m2 hc4 e2 hx7 b6 Z1 cz1 Z2 cz2 z2 _ hq6 _ hS53 _ ?_)
   rintro _ a w1 ⟨_,rfl,hb⟩
   obtain rfl:=si h
   exact hQ _ _ _ (Outs.out nofun (Exits.on ⟨rfl,hb⟩))
  rw [hq5] at h
  simp only [] at h
  refine we_keep (e':=[(1,pP b1 0),(3,pP b2 0),(7,pP b4 0),(8,pP b5 0),(9,vI (i2:Int)),(10,pP b6 0),(11,vI (-1)),(42,.slice A0 l0.length c0),(43,vI (l0.length:Int)),(44,vI (i2:Int)),(45,.bool true),(46,vI (i2:Int)),(47,.pointer (some ⟨blkOf A0,offOf A0+i2*3,none⟩)),(48,.agg #[vI e2.Op,vI e2.A,vI e2.B])]) ea (punctualref_ReadImage_p2 K w0 l0 A0 c0 hR0 hL0 b1 b2 hc1 b4 b5 i2 m1 m2 hc4 e2 hx7 b6 Z1 cz1 Z2 cz2 _ hq5 _ hS38 _ ?_)
  rintro _ a w1 ⟨_,rfl,hb⟩
  obtain rfl:=si h
  exact hQ _ _ _ (Outs.out nofun (Exits.on ⟨rfl,hb⟩))
 rw [if_neg hc4] at h
 refine wk 45 (decide ((i2:Int)<(l0.length:Int))) false (decide_eq_false hc4) ?_
 refine we_false (by kernel_rfl) ?_
 have hS214:=(((((hS.b 5).b 5).b 5).b 5).b 5).b 5
 obtain rfl:=si h
 exact we_exit fun a hF=>hQ _ _ _ (Outs.out nofun (Exits.here ⟨v1,v2,hS214,hF.weaken ea⟩))
abbrev punctualref_ReadImage.A6 (w0:World) (l0:List SIns) (A0:Option Addr) (c0:Nat) (b1:Nat) (b2:Nat) (b4:Nat) (m6:List Sregion) (Z6:Option Addr) (cz6:Nat):Nat→Act→World→Prop:=fun (s:Nat) a w=>St w0 w [Own.blk b4 (.cells #[.slice A0 l0.length c0,(.slice Z6 m6.length cz6)] 68 (0,0)),Own.blk b2 (.cells #[vI 0,vI 0] 30 (0,0)),Own.blk b1 (.cells #[.slice A0 l0.length c0] 22 (0,0)),Own.of (.slice Z6 m6.length cz6) 73 m6]∧Frm 230 a [(1,pP b1 0),(3,pP b2 0),(7,pP b4 0),(170,.slice A0 l0.length c0),(171,vI (l0.length:Int)),(172,vI (s:Int))]
abbrev punctualref_ReadImage.B6 (w0:World) (l0:List SIns) (A0:Option Addr) (c0:Nat) (b1:Nat) (b2:Nat) (b4:Nat) (m6:List Sregion) (Z6:Option Addr) (cz6:Nat):(Unit ⊕ ((Option PImage)×SFault))→Exit→Act→World→Prop:=Exits 5 (fun (s:Unit) a w=>St w0 w [Own.blk b4 (.cells #[.slice A0 l0.length c0,(.slice Z6 m6.length cz6)] 68 (0,0)),Own.blk b2 (.cells #[vI 0,vI 0] 30 (0,0)),Own.blk b1 (.cells #[.slice A0 l0.length c0] 22 (0,0)),Own.of (.slice Z6 m6.length cz6) 73 m6]∧Frm 230 a [(1,pP b1 0),(3,pP b2 0),(7,pP b4 0)]) (Rets Tryd.prog Tryd.f16 (punctualref_ReadImage.Post w0 l0 A0 c0))
theorem punctualref_ReadImage_r6 (K:Nat) (w0:World) (l0:List SIns) (A0:Option Addr) (c0:Nat) (hR0:RdL w0 A0 l0) (hL0:l0.length≤c0) (b1:Nat) (b2:Nat) (hc1:¬ ((l0.length:Int) > 2000)) (b4:Nat) (b5:Nat) (m5:List Int) (m6:List Sregion) (Z5:Option Addr) (cz5:Nat) (hc24:¬ ((m5.length:Int) > 0)) (Z6:Option Addr) (cz6:Nat) (s:Nat) (o:Nat ⊕ (Unit ⊕ ((Option PImage)×SFault))) (h:punctualref_ReadImage.r6 K l0 m6 s=some o) (a:Act) (w:World) (hA:punctualref_ReadImage.A6 w0 l0 A0 c0 b1 b2 b4 m6 Z6 cz6 s a w) (Q:Exit→Act→World→Prop) (hQ:∀ x a w,Outs (punctualref_ReadImage.A6 w0 l0 A0 c0 b1 b2 b4 m6 Z6 cz6) (punctualref_ReadImage.B6 w0 l0 A0 c0 b1 b2 b4 m6 Z6 cz6) o x a w→Q x a w):(subF Tryd.f16 [1,1,1,1,1,1,1,0,1,0,0]).wp Tryd.prog Q a w:=by
 obtain ⟨i3,hs⟩:∃ z,z=s:=⟨s,rfl⟩
 subst hs
 obtain ⟨hS,hF⟩:=hA
 replace hS:St w0 w [Own.blk b4 (.cells #[.slice A0 l0.length c0,(.slice Z6 m6.length cz6)] 68 (0,0)),Own.blk b2 (.cells #[vI 0,vI 0] 30 (0,0)),Own.blk b1 (.cells #[.slice A0 l0.length c0] 22 (0,0)),Own.of (.slice Z6 m6.length cz6) 73 m6]:=hS
 simp only [punctualref_ReadImage.r6] at h
 refine (?_:WE Tryd.prog 230 (subF Tryd.f16 [1,1,1,1,1,1,1,0,1,0,0]) Q [(1,pP b1 0),(3,pP b2 0),(7,pP b4 0),(170,.slice A0 l0.length c0),(171,vI (l0.length:Int)),(172,vI (i3:Int))] w) a hF
 clear hF a
 refine ws fun K52 hK52=>wr [(0,0)]<|gb0 [0] [(173,.bool (decide ((i3:Int)<(l0.length:Int))))] ?_
 refine gn hK52<|ws fun K53 hK53=>?_
 by_cases hc27:(i3:Int)<(l0.length:Int)
 ·rw [if_pos hc27] at h
  refine wk 173 (decide ((i3:Int)<(l0.length:Int))) true (decide_eq_true hc27) ?_
  refine we_true (by kernel_rfl) ?_
  refine we_skip fun a hF=>hK53 _ _ ?_ a hF
  refine ws fun K54 hK54=>we_block<|ws fun K55 hK55=>wr [(0,0),(1,0),(2,0),(3,1),(4,0),(5,2)]<|gb0 [0] [(174,vI (i3:Int))] ?_
  rcases hx21:l0[i3]? with _ | e7
  ·rw [hx21] at h; cases h
  rw [hx21] at h
  simp only [] at h
  refine gi 175 0 22 35 3 l0.length c0 (.tmp 170) (.tmp 172) A0 .i64 (i3:Int) i3 ((hS.rd hR0).eqSome (pos_of_get hx21)) rfl (lt_of_get hx21) ?_
  refine gb [2] [(176,.agg #[vI e7.Op,vI e7.A,vI e7.B])] [.loaded ⟨blkOf A0,offOf A0+i3*3,none⟩ (vI e7.Op),.loaded ⟨blkOf A0,offOf A0+i3*3+1,none⟩ (vI e7.A),.loaded ⟨blkOf A0,offOf A0+i3*3+2,none⟩ (vI e7.B)] ⟨RdL.cell (j:=0) (hS.rd hR0) hx21 rfl,RdL.cell (j:=1) (hS.rd hR0) hx21 rfl,RdL.cell (j:=2) (hS.rd hR0) hx21 rfl,trivial⟩ ?_
  refine gw (some 14) (.cells #[vI 0,vI 0,vI 0] 35) (fun b=>pP b 0) hS fun b15 w63 hx22 hS234=>?_
  refine gb0 [4] [(13,vI (i3:Int))] ?_
  refine gs b15 0 #[vI 0,vI 0,vI 0] 35 [vI e7.Op,vI e7.A,vI e7.B] hS234 fun w64 hS235=>?_
  have hS236:=hS235.nc #[vI e7.Op,vI e7.A,vI e7.B] rfl
  refine gn hK55<|ws fun K56 hK56=>ws fun K57 hK57=>wr [(0,0),(1,0),(2,0),(3,0),(4,0),(5,0),(6,0),(7,0)]<|gb [0,1,2,3] [(180,.bool (e7.Op != 11)),(179,.bool (e7.Op != 11)),(178,vI e7.Op),(177,pP b15 0)] [.loaded ⟨b15,0,none⟩ (vI e7.Op)] ⟨hS236.c 0,trivial⟩ ?_
  by_cases hc28:e7.Op=11
  ·rw [if_pos hc28] at h
   refine gk 180 (e7.Op != 11) false (bne_eq_false_iff_eq.2 hc28) ?_
   refine gb0 [4,5,6,7] [(184,.bool false),(183,undef),(182,undef),(181,undef)] ?_
   refine gn hK57<|we_false (by kernel_rfl) ?_
   refine we_skip fun a hF=>hK56 _ _ ?_ a hF
   refine ws fun K58 hK58=>wr [(0,0),(1,0),(2,1),(3,0),(4,0),(5,0),(6,1),(7,2),(8,0)] ?_
   rcases hq20:punctualref_Image_inner.f K l0 m6 (i3:Int) with _ | r4
   ·rw [hq20] at h; cases h
   rw [hq20] at h
   simp only [] at h
   refine gb0 [0,1] [(187,vI (i3:Int)),(186,pP b4 0)] ?_
   refine ge_call (d:=some 188) (f:=25) (args:=#[pP b4 0,vI (i3:Int)]) (by kernel_rfl) (punctualref_Image_inner_ok K b4 l0 A0 c0 m6 Z6 cz6 (i3:Int) _ (hS236.rd hR0) hL0 (hS236.rdAt 4 rfl) (hS236.capAt 4 rfl) (hS236.globOf 1 rfl) _ hq20) ?_
   rintro _ w65 ⟨rfl,hS237⟩
   refine ⟨_,rfl,hS237.below,?_⟩
   have hS238:=hS236.call hS237
   refine gb0 [3,4,5] [(190,.bool r4.2),(189,.agg #[vI r4.1.open_,vI r4.1.close]),(185,.tuple #[.agg #[vI r4.1.open_,vI r4.1.close],.bool r4.2])] ?_
   refine gw (some 15) (.cells #[vI 0,vI 0] 73) (fun b=>pP b 0) hS238 fun b16 w66 hx23 hS239=>?_
   refine gs b16 0 #[vI 0,vI 0] 73 [vI r4.1.open_,vI r4.1.close] hS239 fun w67 hS240=>?_
   have hS241:=hS240.nc #[vI r4.1.open_,vI r4.1.close] rfl
   refine gb0 [8] [(16,.bool r4.2)] ?_
   refine gn hK58<|ws fun K59 hK59=>wr [(0,0),(1,0),(2,0),(3,1),(4,0),(5,0),(6,0),(7,1),(8,2),(9,0)] ?_
   rcases hq21:punctualref_Image_inner.f K l0 m6 e7.A with _ | r5
   ·rw [hq21] at h; cases h
   rw [hq21] at h
   simp only [] at h
   refine gb [0,1,2] [(194,vI e7.A),(193,pP b15 1),(192,pP b4 0)] [.loaded ⟨b15,1,none⟩ (vI e7.A)] ⟨hS241.c 1,trivial⟩ ?_
   refine ge_call (d:=some 195) (f:=25) (args:=#[pP b4 0,vI e7.A]) (by kernel_rfl) (punctualref_Image_inner_ok K b4 l0 A0 c0 m6 Z6 cz6 e7.A _ (hS241.rd hR0) hL0 (hS241.rdAt 5 rfl) (hS241.capAt 5 rfl) (hS241.globOf 2 rfl) _ hq21) ?_
   rintro _ w68 ⟨rfl,hS242⟩
   refine ⟨_,rfl,hS242.below,?_⟩
   have hS243:=hS241.call hS242
   refine gb0 [4,5,6] [(197,.bool r5.2),(196,.agg #[vI r5.1.open_,vI r5.1.close]),(191,.tuple #[.agg #[vI r5.1.open_,vI r5.1.close],.bool r5.2])] ?_
   refine gw (some 17) (.cells #[vI 0,vI 0] 73) (fun b=>pP b 0) hS243 fun b17 w69 hx24 hS244=>?_
   refine gs b17 0 #[vI 0,vI 0] 73 [vI r5.1.open_,vI r5.1.close] hS244 fun w70 hS245=>?_
   have hS246:=hS245.nc #[vI r5.1.open_,vI r5.1.close] rfl
   refine gb0 [9] [(18,.bool r5.2)] ?_
   refine gn hK59<|ws fun K60 hK60=>wr [(0,0),(1,0),(2,0),(3,0),(4,0),(5,0),(6,0),(7,0),(8,0),(9,0),(10,0),(11,0),(12,0),(13,0),(14,0),(15,0),(16,0),(17,0),(18,0),(19,0),(20,0)]<|gb [0,1,2,3,4] [(202,.bool (decide (e7.A≤(i3:Int)))),(201,.bool (decide (e7.A≤(i3:Int)))),(200,vI (i3:Int)),(199,vI e7.A),(198,pP b15 1)] [.loaded ⟨b15,1,none⟩ (vI e7.A)] ⟨hS246.c 2,trivial⟩ ?_
   by_cases hc29:e7.A≤(i3:Int)
   ·rw [if_pos hc29] at h
    refine gk 202 (decide (e7.A≤(i3:Int))) true (decide_eq_true hc29) ?_
    refine gb0 [5,6,7,8,9,10,11,12,13,14,15,16,17,18,19,20] [(218,.bool true),(217,undef),(216,undef),(215,undef),(214,.bool true),(213,.bool true),(212,undef),(211,undef),(210,undef),(209,.bool true),(208,.bool true),(207,undef),(206,undef),(205,undef),(204,undef),(203,undef)] ?_
    refine gn hK60<|we_true (by kernel_rfl) ?_
    refine ws fun K61 hK61=>wr [(0,0),(1,1),(2,0),(3,2)]<|gb0 [0] [(219,vI (i3:Int))] ?_
    refine ge_call (d:=some 220) (f:=17) (args:=#[vI 7,vI (i3:Int)]) (by kernel_rfl) (punctualref_F_ok 7 (i3:Int) _ _ rfl) ?_
    rintro _ w71 ⟨rfl,hS247⟩
    refine ⟨_,rfl,hS247.below,?_⟩
    have hS248:=hS246.call hS247
    refine gb0 [2] [(2,.pointer none)] ?_
    have hS249:=hS248.b 4
    refine gs b2 0 #[vI 0,vI 0] 30 [vI ((punctualref_F.f 7 (i3:Int)).Code),vI ((punctualref_F.f 7 (i3:Int)).At)] hS249 fun w72 hS250=>?_
    have hS251:=hS250.nc #[vI ((punctualref_F.f 7 (i3:Int)).Code),vI ((punctualref_F.f 7 (i3:Int)).At)] rfl
    refine gn hK61 ?_
    have hS252:=hS251.takeN 0
    obtain rfl:=si h
    exact we_ret fun a hF=>hQ _ _ _ (Outs.out nofun (Exits.on ⟨rfl,(pr [.tmp 2,.cell 3 30] [.pointer none,.agg #[vI ((punctualref_F.f 7 (i3:Int)).Code),vI ((punctualref_F.f 7 (i3:Int)).At)]] [.loaded ⟨b2,0,none⟩ (vI ((punctualref_F.f 7 (i3:Int)).Code)),.loaded ⟨b2,1,none⟩ (vI ((punctualref_F.f 7 (i3:Int)).At))] ⟨hS251.c 0,hS251.c 0,trivial⟩ ⟨rfl,hS252⟩) a hF⟩))
   rw [if_neg hc29] at h
   refine gk 202 (decide (e7.A≤(i3:Int))) false (decide_eq_false hc29) ?_
   refine gb [5,6,7,8,9,10,11] [(209,.bool (decide (e7.A > (l0.length:Int)))),(208,.bool (decide (e7.A > (l0.length:Int)))),(207,.bool (decide (e7.A > (l0.length:Int)))),(206,vI (l0.length:Int)),(205,.slice A0 l0.length c0),(204,vI e7.A),(203,pP b15 1)] [.loaded ⟨b15,1,none⟩ (vI e7.A),.loaded ⟨b1,0,none⟩ (.slice A0 l0.length c0)] ⟨hS246.c 2,hS246.c 5,trivial⟩ ?_
   by_cases hc30:e7.A > (l0.length:Int)
   ·rw [if_pos hc30] at h
    refine gk 209 (decide (e7.A > (l0.length:Int))) true (decide_eq_true hc30) ?_
    refine gb0 [12,13,14,15,16,17,18,19,20] [(218,.bool true),(217,undef),(216,undef),(215,undef),(214,.bool true),(213,.bool true),(212,undef),(211,undef),(210,undef)] ?_
    refine gn hK60<|we_true (by kernel_rfl) ?_
    refine ws fun K62 hK62=>wr [(0,0),(1,1),(2,0),(3,2)]<|gb0 [0] [(219,vI (i3:Int))] ?_
    refine ge_call (d:=some 220) (f:=17) (args:=#[vI 7,vI (i3:Int)]) (by kernel_rfl) (punctualref_F_ok 7 (i3:Int) _ _ rfl) ?_
    rintro _ w73 ⟨rfl,hS253⟩
    refine ⟨_,rfl,hS253.below,?_⟩
    have hS254:=hS246.call hS253
    refine gb0 [2] [(2,.pointer none)] ?_
    have hS255:=hS254.b 4
    refine gs b2 0 #[vI 0,vI 0] 30 [vI ((punctualref_F.f 7 (i3:Int)).Code),vI ((punctualref_F.f 7 (i3:Int)).At)] hS255 fun w74 hS256=>?_
    have hS257:=hS256.nc #[vI ((punctualref_F.f 7 (i3:Int)).Code),vI ((punctualref_F.f 7 (i3:Int)).At)] rfl
    refine gn hK62 ?_
    have hS258:=hS257.takeN 0
    obtain rfl:=si h
    exact we_ret fun a hF=>hQ _ _ _ (Outs.out nofun (Exits.on ⟨rfl,(pr [.tmp 2,.cell 3 30] [.pointer none,.agg #[vI ((punctualref_F.f 7 (i3:Int)).Code),vI ((punctualref_F.f 7 (i3:Int)).At)]] [.loaded ⟨b2,0,none⟩ (vI ((punctualref_F.f 7 (i3:Int)).Code)),.loaded ⟨b2,1,none⟩ (vI ((punctualref_F.f 7 (i3:Int)).At))] ⟨hS257.c 0,hS257.c 0,trivial⟩ ⟨rfl,hS258⟩) a hF⟩))
   rw [if_neg hc30] at h
   refine gk 209 (decide (e7.A > (l0.length:Int))) false (decide_eq_false hc30) ?_
   refine gb0 [12,13,14,15,16] [(214,.bool (r4.2 != r5.2)),(213,.bool (r4.2 != r5.2)),(212,.bool (r4.2 != r5.2)),(211,.bool r5.2),(210,.bool r4.2)] ?_
   by_cases hc31:r4.2=r5.2
   ·rw [if_pos hc31] at h
    refine gk 214 (r4.2 != r5.2) false (bne_eq_false_iff_eq.2 hc31) ?_
    refine gb [17,18] [(216,.agg #[vI r5.1.open_,vI r5.1.close]),(215,.agg #[vI r4.1.open_,vI r4.1.close])] [.loaded ⟨b16,0,none⟩ (vI r4.1.open_),.loaded ⟨b16,1,none⟩ (vI r4.1.close),.loaded ⟨b17,0,none⟩ (vI r5.1.open_),.loaded ⟨b17,1,none⟩ (vI r5.1.close)] ⟨hS246.c 1,hS246.c 1,hS246.c 0,hS246.c 0,trivial⟩ ?_
    refine ge_eqs (d:=217) (ty:=4) (op:=.neq) (x:=(.tmp 215)) (y:=(.tmp 216)) (t:=73) (t2:=73) (xs:=#[vI r4.1.open_,vI r4.1.close]) (ys:=#[vI r5.1.open_,vI r5.1.close]) (r:=(Sregion.eqb r4.1 r5.1)) (v:=!(Sregion.eqb r4.1 r5.1)) (by kernel_rfl) (by kernel_rfl) (by kernel_rfl) (by kernel_rfl) (by kernel_rfl) rfl ?_
    refine gb0 [20] [(218,.bool (!(Sregion.eqb r4.1 r5.1)))] ?_
    refine gn hK60 ?_
    by_cases hc32:(Sregion.eqb r4.1 r5.1)=true
    ·rw [if_pos hc32] at h
     refine wk 218 (!(Sregion.eqb r4.1 r5.1)) false (congrArg (fun z=>!z) hc32) ?_
     refine we_false (by kernel_rfl) ?_
     refine we_skip fun a hF=>hK54 _ _ ?_ a hF
     refine wr [(0,0),(1,0)]<|ge_addn (d:=221) (ty:=3) (x:=(.tmp 172)) (y:=(.const (vI 1))) (t:=3) (t2:=3) (k:=.i64) (m:=i3) (by kernel_rfl) (by kernel_rfl) (by kernel_rfl) (by have h0:=hR0.small; omega) ?_
     refine gb0 [1] [(172,vI ((i3+1:Nat):Int))] ?_
     have hS263:=((((hS246.b 6).b 6).b 6).b 6).takeN 4
     obtain rfl:=si h
     exact ge_nil fun a hF=>hQ _ _ _ (Outs.again ⟨hS263,hF.weaken ea⟩)
    rw [if_neg hc32] at h
    refine wk 218 (!(Sregion.eqb r4.1 r5.1)) true (congrArg (fun z=>!z) (Bool.eq_false_iff.2 hc32)) ?_
    refine we_true (by kernel_rfl) ?_
    refine ws fun K63 hK63=>wr [(0,0),(1,1),(2,0),(3,2)]<|gb0 [0] [(219,vI (i3:Int))] ?_
    refine ge_call (d:=some 220) (f:=17) (args:=#[vI 7,vI (i3:Int)]) (by kernel_rfl) (punctualref_F_ok 7 (i3:Int) _ _ rfl) ?_
    rintro _ w75 ⟨rfl,hS264⟩
    refine ⟨_,rfl,hS264.below,?_⟩
    have hS265:=hS246.call hS264
    refine gb0 [2] [(2,.pointer none)] ?_
    have hS266:=hS265.b 4
    refine gs b2 0 #[vI 0,vI 0] 30 [vI ((punctualref_F.f 7 (i3:Int)).Code),vI ((punctualref_F.f 7 (i3:Int)).At)] hS266 fun w76 hS267=>?_
    have hS268:=hS267.nc #[vI ((punctualref_F.f 7 (i3:Int)).Code),vI ((punctualref_F.f 7 (i3:Int)).At)] rfl
    refine gn hK63 ?_
    have hS269:=hS268.takeN 0
    obtain rfl:=si h
    exact we_ret fun a hF=>hQ _ _ _ (Outs.out nofun (Exits.on ⟨rfl,(pr [.tmp 2,.cell 3 30] [.pointer none,.agg #[vI ((punctualref_F.f 7 (i3:Int)).Code),vI ((punctualref_F.f 7 (i3:Int)).At)]] [.loaded ⟨b2,0,none⟩ (vI ((punctualref_F.f 7 (i3:Int)).Code)),.loaded ⟨b2,1,none⟩ (vI ((punctualref_F.f 7 (i3:Int)).At))] ⟨hS268.c 0,hS268.c 0,trivial⟩ ⟨rfl,hS269⟩) a hF⟩))
   rw [if_neg hc31] at h
   refine gk 214 (r4.2 != r5.2) true (bne_iff_ne.2 hc31) ?_
   refine gb0 [17,18,19,20] [(218,.bool true),(217,undef),(216,undef),(215,undef)] ?_
   refine gn hK60<|we_true (by kernel_rfl) ?_
   refine ws fun K64 hK64=>wr [(0,0),(1,1),(2,0),(3,2)]<|gb0 [0] [(219,vI (i3:Int))] ?_
   refine ge_call (d:=some 220) (f:=17) (args:=#[vI 7,vI (i3:Int)]) (by kernel_rfl) (punctualref_F_ok 7 (i3:Int) _ _ rfl) ?_
   rintro _ w77 ⟨rfl,hS270⟩
   refine ⟨_,rfl,hS270.below,?_⟩
   have hS271:=hS246.call hS270
   refine gb0 [2] [(2,.pointer none)] ?_
   have hS272:=hS271.b 4
   refine gs b2 0 #[vI 0,vI 0] 30 [vI ((punctualref_F.f 7 (i3:Int)).Code),vI ((punctualref_F.f 7 (i3:Int)).At)] hS272 fun w78 hS273=>?_
   have hS274:=hS273.nc #[vI ((punctualref_F.f 7 (i3:Int)).Code),vI ((punctualref_F.f 7 (i3:Int)).At)] rfl
   refine gn hK64 ?_
   have hS275:=hS274.takeN 0
   obtain rfl:=si h
   exact we_ret fun a hF=>hQ _ _ _ (Outs.out nofun (Exits.on ⟨rfl,(pr [.tmp 2,.cell 3 30] [.pointer none,.agg #[vI ((punctualref_F.f 7 (i3:Int)).Code),vI ((punctualref_F.f 7 (i3:Int)).At)]] [.loaded ⟨b2,0,none⟩ (vI ((punctualref_F.f 7 (i3:Int)).Code)),.loaded ⟨b2,1,none⟩ (vI ((punctualref_F.f 7 (i3:Int)).At))] ⟨hS274.c 0,hS274.c 0,trivial⟩ ⟨rfl,hS275⟩) a hF⟩))
  rw [if_neg hc28] at h
  refine gk 180 (e7.Op != 11) true (bne_iff_ne.2 hc28) ?_
  refine gb [4,5,6,7] [(184,.bool (e7.Op != 12)),(183,.bool (e7.Op != 12)),(182,vI e7.Op),(181,pP b15 0)] [.loaded ⟨b15,0,none⟩ (vI e7.Op)] ⟨hS236.c 0,trivial⟩ ?_
  refine gn hK57 ?_
  by_cases hc33:e7.Op=12
  ·rw [if_pos hc33] at h
   refine wk 184 (e7.Op != 12) false (bne_eq_false_iff_eq.2 hc33) ?_
   refine we_false (by kernel_rfl) ?_
   refine we_skip fun a hF=>hK56 _ _ ?_ a hF
   refine ws fun K65 hK65=>wr [(0,0),(1,0),(2,1),(3,0),(4,0),(5,0),(6,1),(7,2),(8,0)] ?_
   rcases hq26:punctualref_Image_inner.f K l0 m6 (i3:Int) with _ | r6
   ·rw [hq26] at h; cases h
   rw [hq26] at h
   simp only [] at h
   refine gb0 [0,1] [(187,vI (i3:Int)),(186,pP b4 0)] ?_
   refine ge_call (d:=some 188) (f:=25) (args:=#[pP b4 0,vI (i3:Int)]) (by kernel_rfl) (punctualref_Image_inner_ok K b4 l0 A0 c0 m6 Z6 cz6 (i3:Int) _ (hS236.rd hR0) hL0 (hS236.rdAt 4 rfl) (hS236.capAt 4 rfl) (hS236.globOf 1 rfl) _ hq26) ?_
   rintro _ w79 ⟨rfl,hS276⟩
   refine ⟨_,rfl,hS276.below,?_⟩
   have hS277:=hS236.call hS276
   refine gb0 [3,4,5] [(190,.bool r6.2),(189,.agg #[vI r6.1.open_,vI r6.1.close]),(185,.tuple #[.agg #[vI r6.1.open_,vI r6.1.close],.bool r6.2])] ?_
   refine gw (some 15) (.cells #[vI 0,vI 0] 73) (fun b=>pP b 0) hS277 fun b18 w80 hx25 hS278=>?_
   refine gs b18 0 #[vI 0,vI 0] 73 [vI r6.1.open_,vI r6.1.close] hS278 fun w81 hS279=>?_
   have hS280:=hS279.nc #[vI r6.1.open_,vI r6.1.close] rfl
   refine gb0 [8] [(16,.bool r6.2)] ?_
   refine gn hK65<|ws fun K66 hK66=>wr [(0,0),(1,0),(2,0),(3,1),(4,0),(5,0),(6,0),(7,1),(8,2),(9,0)] ?_
   rcases hq27:punctualref_Image_inner.f K l0 m6 e7.A with _ | r7
   ·rw [hq27] at h; cases h
   rw [hq27] at h
   simp only [] at h
   refine gb [0,1,2] [(194,vI e7.A),(193,pP b15 1),(192,pP b4 0)] [.loaded ⟨b15,1,none⟩ (vI e7.A)] ⟨hS280.c 1,trivial⟩ ?_
   refine ge_call (d:=some 195) (f:=25) (args:=#[pP b4 0,vI e7.A]) (by kernel_rfl) (punctualref_Image_inner_ok K b4 l0 A0 c0 m6 Z6 cz6 e7.A _ (hS280.rd hR0) hL0 (hS280.rdAt 5 rfl) (hS280.capAt 5 rfl) (hS280.globOf 2 rfl) _ hq27) ?_
   rintro _ w82 ⟨rfl,hS281⟩
   refine ⟨_,rfl,hS281.below,?_⟩
   have hS282:=hS280.call hS281
   refine gb0 [4,5,6] [(197,.bool r7.2),(196,.agg #[vI r7.1.open_,vI r7.1.close]),(191,.tuple #[.agg #[vI r7.1.open_,vI r7.1.close],.bool r7.2])] ?_
   refine gw (some 17) (.cells #[vI 0,vI 0] 73) (fun b=>pP b 0) hS282 fun b19 w83 hx26 hS283=>?_
   refine gs b19 0 #[vI 0,vI 0] 73 [vI r7.1.open_,vI r7.1.close] hS283 fun w84 hS284=>?_
   have hS285:=hS284.nc #[vI r7.1.open_,vI r7.1.close] rfl
   refine gb0 [9] [(18,.bool r7.2)] ?_
   refine gn hK66<|ws fun K67 hK67=>wr [(0,0),(1,0),(2,0),(3,0),(4,0),(5,0),(6,0),(7,0),(8,0),(9,0),(10,0),(11,0),(12,0),(13,0),(14,0),(15,0),(16,0),(17,0),(18,0),(19,0),(20,0)]<|gb [0,1,2,3,4] [(202,.bool (decide (e7.A≤(i3:Int)))),(201,.bool (decide (e7.A≤(i3:Int)))),(200,vI (i3:Int)),(199,vI e7.A),(198,pP b15 1)] [.loaded ⟨b15,1,none⟩ (vI e7.A)] ⟨hS285.c 2,trivial⟩ ?_
   by_cases hc34:e7.A≤(i3:Int)
   ·rw [if_pos hc34] at h
    refine gk 202 (decide (e7.A≤(i3:Int))) true (decide_eq_true hc34) ?_
    refine gb0 [5,6,7,8,9,10,11,12,13,14,15,16,17,18,19,20] [(218,.bool true),(217,undef),(216,undef),(215,undef),(214,.bool true),(213,.bool true),(212,undef),(211,undef),(210,undef),(209,.bool true),(208,.bool true),(207,undef),(206,undef),(205,undef),(204,undef),(203,undef)] ?_
    refine gn hK67<|we_true (by kernel_rfl) ?_
    refine ws fun K68 hK68=>wr [(0,0),(1,1),(2,0),(3,2)]<|gb0 [0] [(219,vI (i3:Int))] ?_
    refine ge_call (d:=some 220) (f:=17) (args:=#[vI 7,vI (i3:Int)]) (by kernel_rfl) (punctualref_F_ok 7 (i3:Int) _ _ rfl) ?_
    rintro _ w85 ⟨rfl,hS286⟩
    refine ⟨_,rfl,hS286.below,?_⟩
    have hS287:=hS285.call hS286
    refine gb0 [2] [(2,.pointer none)] ?_
    have hS288:=hS287.b 4
    refine gs b2 0 #[vI 0,vI 0] 30 [vI ((punctualref_F.f 7 (i3:Int)).Code),vI ((punctualref_F.f 7 (i3:Int)).At)] hS288 fun w86 hS289=>?_
    have hS290:=hS289.nc #[vI ((punctualref_F.f 7 (i3:Int)).Code),vI ((punctualref_F.f 7 (i3:Int)).At)] rfl
    refine gn hK68 ?_
    have hS291:=hS290.takeN 0
    obtain rfl:=si h
    exact we_ret fun a hF=>hQ _ _ _ (Outs.out nofun (Exits.on ⟨rfl,(pr [.tmp 2,.cell 3 30] [.pointer none,.agg #[vI ((punctualref_F.f 7 (i3:Int)).Code),vI ((punctualref_F.f 7 (i3:Int)).At)]] [.loaded ⟨b2,0,none⟩ (vI ((punctualref_F.f 7 (i3:Int)).Code)),.loaded ⟨b2,1,none⟩ (vI ((punctualref_F.f 7 (i3:Int)).At))] ⟨hS290.c 0,hS290.c 0,trivial⟩ ⟨rfl,hS291⟩) a hF⟩))
   rw [if_neg hc34] at h
   refine gk 202 (decide (e7.A≤(i3:Int))) false (decide_eq_false hc34) ?_
   refine gb [5,6,7,8,9,10,11] [(209,.bool (decide (e7.A > (l0.length:Int)))),(208,.bool (decide (e7.A > (l0.length:Int)))),(207,.bool (decide (e7.A > (l0.length:Int)))),(206,vI (l0.length:Int)),(205,.slice A0 l0.length c0),(204,vI e7.A),(203,pP b15 1)] [.loaded ⟨b15,1,none⟩ (vI e7.A),.loaded ⟨b1,0,none⟩ (.slice A0 l0.length c0)] ⟨hS285.c 2,hS285.c 5,trivial⟩ ?_
   by_cases hc35:e7.A > (l0.length:Int)
   ·rw [if_pos hc35] at h
    refine gk 209 (decide (e7.A > (l0.length:Int))) true (decide_eq_true hc35) ?_
    refine gb0 [12,13,14,15,16,17,18,19,20] [(218,.bool true),(217,undef),(216,undef),(215,undef),(214,.bool true),(213,.bool true),(212,undef),(211,undef),(210,undef)] ?_
    refine gn hK67<|we_true (by kernel_rfl) ?_
    refine ws fun K69 hK69=>wr [(0,0),(1,1),(2,0),(3,2)]<|gb0 [0] [(219,vI (i3:Int))] ?_
    refine ge_call (d:=some 220) (f:=17) (args:=#[vI 7,vI (i3:Int)]) (by kernel_rfl) (punctualref_F_ok 7 (i3:Int) _ _ rfl) ?_
    rintro _ w87 ⟨rfl,hS292⟩
    refine ⟨_,rfl,hS292.below,?_⟩
    have hS293:=hS285.call hS292
    refine gb0 [2] [(2,.pointer none)] ?_
    have hS294:=hS293.b 4
    refine gs b2 0 #[vI 0,vI 0] 30 [vI ((punctualref_F.f 7 (i3:Int)).Code),vI ((punctualref_F.f 7 (i3:Int)).At)] hS294 fun w88 hS295=>?_
    have hS296:=hS295.nc #[vI ((punctualref_F.f 7 (i3:Int)).Code),vI ((punctualref_F.f 7 (i3:Int)).At)] rfl
    refine gn hK69 ?_
    have hS297:=hS296.takeN 0
    obtain rfl:=si h
    exact we_ret fun a hF=>hQ _ _ _ (Outs.out nofun (Exits.on ⟨rfl,(pr [.tmp 2,.cell 3 30] [.pointer none,.agg #[vI ((punctualref_F.f 7 (i3:Int)).Code),vI ((punctualref_F.f 7 (i3:Int)).At)]] [.loaded ⟨b2,0,none⟩ (vI ((punctualref_F.f 7 (i3:Int)).Code)),.loaded ⟨b2,1,none⟩ (vI ((punctualref_F.f 7 (i3:Int)).At))] ⟨hS296.c 0,hS296.c 0,trivial⟩ ⟨rfl,hS297⟩) a hF⟩))
   rw [if_neg hc35] at h
   refine gk 209 (decide (e7.A > (l0.length:Int))) false (decide_eq_false hc35) ?_
   refine gb0 [12,13,14,15,16] [(214,.bool (r6.2 != r7.2)),(213,.bool (r6.2 != r7.2)),(212,.bool (r6.2 != r7.2)),(211,.bool r7.2),(210,.bool r6.2)] ?_
   by_cases hc36:r6.2=r7.2
   ·rw [if_pos hc36] at h
    refine gk 214 (r6.2 != r7.2) false (bne_eq_false_iff_eq.2 hc36) ?_
    refine gb [17,18] [(216,.agg #[vI r7.1.open_,vI r7.1.close]),(215,.agg #[vI r6.1.open_,vI r6.1.close])] [.loaded ⟨b18,0,none⟩ (vI r6.1.open_),.loaded ⟨b18,1,none⟩ (vI r6.1.close),.loaded ⟨b19,0,none⟩ (vI r7.1.open_),.loaded ⟨b19,1,none⟩ (vI r7.1.close)] ⟨hS285.c 1,hS285.c 1,hS285.c 0,hS285.c 0,trivial⟩ ?_
    refine ge_eqs (d:=217) (ty:=4) (op:=.neq) (x:=(.tmp 215)) (y:=(.tmp 216)) (t:=73) (t2:=73) (xs:=#[vI r6.1.open_,vI r6.1.close]) (ys:=#[vI r7.1.open_,vI r7.1.close]) (r:=(Sregion.eqb r6.1 r7.1)) (v:=!(Sregion.eqb r6.1 r7.1)) (by kernel_rfl) (by kernel_rfl) (by kernel_rfl) (by kernel_rfl) (by kernel_rfl) rfl ?_
    refine gb0 [20] [(218,.bool (!(Sregion.eqb r6.1 r7.1)))] ?_
    refine gn hK67 ?_
    by_cases hc37:(Sregion.eqb r6.1 r7.1)=true
    ·rw [if_pos hc37] at h
     refine wk 218 (!(Sregion.eqb r6.1 r7.1)) false (congrArg (fun z=>!z) hc37) ?_
     refine we_false (by kernel_rfl) ?_
     refine we_skip fun a hF=>hK54 _ _ ?_ a hF
     refine wr [(0,0),(1,0)]<|ge_addn (d:=221) (ty:=3) (x:=(.tmp 172)) (y:=(.const (vI 1))) (t:=3) (t2:=3) (k:=.i64) (m:=i3) (by kernel_rfl) (by kernel_rfl) (by kernel_rfl) (by have h0:=hR0.small; omega) ?_
     refine gb0 [1] [(172,vI ((i3+1:Nat):Int))] ?_
     have hS302:=((((hS285.b 6).b 6).b 6).b 6).takeN 4
     obtain rfl:=si h
     exact ge_nil fun a hF=>hQ _ _ _ (Outs.again ⟨hS302,hF.weaken ea⟩)
    rw [if_neg hc37] at h
    refine wk 218 (!(Sregion.eqb r6.1 r7.1)) true (congrArg (fun z=>!z) (Bool.eq_false_iff.2 hc37)) ?_
    refine we_true (by kernel_rfl) ?_
    refine ws fun K70 hK70=>wr [(0,0),(1,1),(2,0),(3,2)]<|gb0 [0] [(219,vI (i3:Int))] ?_
    refine ge_call (d:=some 220) (f:=17) (args:=#[vI 7,vI (i3:Int)]) (by kernel_rfl) (punctualref_F_ok 7 (i3:Int) _ _ rfl) ?_
    rintro _ w89 ⟨rfl,hS303⟩
    refine ⟨_,rfl,hS303.below,?_⟩
    have hS304:=hS285.call hS303
    refine gb0 [2] [(2,.pointer none)] ?_
    have hS305:=hS304.b 4
    refine gs b2 0 #[vI 0,vI 0] 30 [vI ((punctualref_F.f 7 (i3:Int)).Code),vI ((punctualref_F.f 7 (i3:Int)).At)] hS305 fun w90 hS306=>?_
    have hS307:=hS306.nc #[vI ((punctualref_F.f 7 (i3:Int)).Code),vI ((punctualref_F.f 7 (i3:Int)).At)] rfl
    refine gn hK70 ?_
    have hS308:=hS307.takeN 0
    obtain rfl:=si h
    exact we_ret fun a hF=>hQ _ _ _ (Outs.out nofun (Exits.on ⟨rfl,(pr [.tmp 2,.cell 3 30] [.pointer none,.agg #[vI ((punctualref_F.f 7 (i3:Int)).Code),vI ((punctualref_F.f 7 (i3:Int)).At)]] [.loaded ⟨b2,0,none⟩ (vI ((punctualref_F.f 7 (i3:Int)).Code)),.loaded ⟨b2,1,none⟩ (vI ((punctualref_F.f 7 (i3:Int)).At))] ⟨hS307.c 0,hS307.c 0,trivial⟩ ⟨rfl,hS308⟩) a hF⟩))
   rw [if_neg hc36] at h
   refine gk 214 (r6.2 != r7.2) true (bne_iff_ne.2 hc36) ?_
   refine gb0 [17,18,19,20] [(218,.bool true),(217,undef),(216,undef),(215,undef)] ?_
   refine gn hK67<|we_true (by kernel_rfl) ?_
   refine ws fun K71 hK71=>wr [(0,0),(1,1),(2,0),(3,2)]<|gb0 [0] [(219,vI (i3:Int))] ?_
   refine ge_call (d:=some 220) (f:=17) (args:=#[vI 7,vI (i3:Int)]) (by kernel_rfl) (punctualref_F_ok 7 (i3:Int) _ _ rfl) ?_
   rintro _ w91 ⟨rfl,hS309⟩
   refine ⟨_,rfl,hS309.below,?_⟩
   have hS310:=hS285.call hS309
   refine gb0 [2] [(2,.pointer none)] ?_
   have hS311:=hS310.b 4
   refine gs b2 0 #[vI 0,vI 0] 30 [vI ((punctualref_F.f 7 (i3:Int)).Code),vI ((punctualref_F.f 7 (i3:Int)).At)] hS311 fun w92 hS312=>?_
   have hS313:=hS312.nc #[vI ((punctualref_F.f 7 (i3:Int)).Code),vI ((punctualref_F.f 7 (i3:Int)).At)] rfl
   refine gn hK71 ?_
   have hS314:=hS313.takeN 0
   obtain rfl:=si h
   exact we_ret fun a hF=>hQ _ _ _ (Outs.out nofun (Exits.on ⟨rfl,(pr [.tmp 2,.cell 3 30] [.pointer none,.agg #[vI ((punctualref_F.f 7 (i3:Int)).Code),vI ((punctualref_F.f 7 (i3:Int)).At)]] [.loaded ⟨b2,0,none⟩ (vI ((punctualref_F.f 7 (i3:Int)).Code)),.loaded ⟨b2,1,none⟩ (vI ((punctualref_F.f 7 (i3:Int)).At))] ⟨hS313.c 0,hS313.c 0,trivial⟩ ⟨rfl,hS314⟩) a hF⟩))
  rw [if_neg hc33] at h
  refine wk 184 (e7.Op != 12) true (bne_iff_ne.2 hc33) ?_
  refine we_true (by kernel_rfl) ?_
  refine we_exit fun a hF=>hK54 _ _ ?_ a hF
  refine wr [(0,0),(1,0)]<|ge_addn (d:=221) (ty:=3) (x:=(.tmp 172)) (y:=(.const (vI 1))) (t:=3) (t2:=3) (k:=.i64) (m:=i3) (by kernel_rfl) (by kernel_rfl) (by kernel_rfl) (by have h0:=hR0.small; omega) ?_
  refine gb0 [1] [(172,vI ((i3+1:Nat):Int))] ?_
  have hS319:=((((hS236.b 4).b 4).b 4).b 4).takeN 4
  obtain rfl:=si h
  exact ge_nil fun a hF=>hQ _ _ _ (Outs.again ⟨hS319,hF.weaken ea⟩)
 rw [if_neg hc27] at h
 refine wk 173 (decide ((i3:Int)<(l0.length:Int))) false (decide_eq_false hc27) ?_
 refine we_false (by kernel_rfl) ?_
 have hS323:=(((hS.b 3).b 3).b 3).b 3
 obtain rfl:=si h
 exact we_exit fun a hF=>hQ _ _ _ (Outs.out nofun (Exits.here ⟨hS323,hF.weaken ea⟩))
theorem punctualref_ReadImage_ok (K:Nat) (l0:List SIns) (A0:Option Addr) (c0:Nat) (w0:World) (hR0:RdL w0 A0 l0) (hL0:l0.length≤c0) (r:(Option PImage)×SFault) (h:punctualref_ReadImage.f K l0=some r) :
  Calls Tryd.prog 16 #[.slice A0 l0.length c0] w0 (punctualref_ReadImage.Post w0 l0 A0 c0 r):=by
 have hS:=St.start w0
 unfold punctualref_ReadImage.f at h
 refine calls_enter (n:=230) (args:=[.slice A0 l0.length c0]) (fn:=Tryd.f16) rfl rfl rfl rfl ?_
 show WE _ _ _ _ [(0,.slice A0 l0.length c0)] _
 refine ws fun K1 hK1=>wr [(0,1),(1,0),(2,1)]<|gw (some 1) (.cells #[.slice A0 l0.length c0] 22) (fun b=>pP b 0) hS fun b1 w1 hx1 hS1=>?_
 refine gb0 [1] [(2,.pointer none)] ?_
 refine gw (some 3) (.cells #[vI 0,vI 0] 30) (fun b=>pP b 0) hS1 fun b2 w2 hx2 hS2=>?_
 refine gn hK1<|ws fun K2 hK2=>ws fun K3 hK3=>wr [(0,0),(1,0),(2,0)]<|gb [0,1,2] [(22,.bool (decide ((l0.length:Int) > 2000))),(21,vI (l0.length:Int)),(20,.slice A0 l0.length c0)] [.loaded ⟨b1,0,none⟩ (.slice A0 l0.length c0)] ⟨hS2.c 1,trivial⟩ ?_
 refine gn hK3 ?_
 by_cases hc1:(l0.length:Int) > 2000
 ·rw [if_pos hc1] at h
  refine wk 22 (decide ((l0.length:Int) > 2000)) true (decide_eq_true hc1) ?_
  refine we_true (by kernel_rfl) ?_
  refine ws fun K4 hK4=>wr [(0,1),(1,0),(2,2)]<|ge_call (d:=some 23) (f:=17) (args:=#[vI 2,vI 0]) (by kernel_rfl) (punctualref_F_ok 2 0 _ _ rfl) ?_
  rintro _ w3 ⟨rfl,hS3⟩
  refine ⟨_,rfl,hS3.below,?_⟩
  have hS4:=hS2.call hS3
  refine gb0 [1] [(2,.pointer none)] ?_
  refine gs b2 0 #[vI 0,vI 0] 30 [vI ((punctualref_F.f 2 0).Code),vI ((punctualref_F.f 2 0).At)] hS4 fun w4 hS5=>?_
  have hS6:=hS5.nc #[vI ((punctualref_F.f 2 0).Code),vI ((punctualref_F.f 2 0).At)] rfl
  refine gn hK4 ?_
  have hS7:=hS6.takeN 0
  obtain rfl:=si h
  exact we_ret (pr [.tmp 2,.cell 3 30] [.pointer none,.agg #[vI ((punctualref_F.f 2 0).Code),vI ((punctualref_F.f 2 0).At)]] [.loaded ⟨b2,0,none⟩ (vI ((punctualref_F.f 2 0).Code)),.loaded ⟨b2,1,none⟩ (vI ((punctualref_F.f 2 0).At))] ⟨hS6.c 0,hS6.c 0,trivial⟩ ⟨rfl,hS7⟩)
 rw [if_neg hc1] at h
 refine wk 22 (decide ((l0.length:Int) > 2000)) false (decide_eq_false hc1) ?_
 refine we_false (by kernel_rfl) ?_
 refine we_skip fun a hF=>hK2 _ _ ?_ a hF
 refine ws fun K5 hK5=>ws fun K6 hK6=>wr [(0,0),(1,0),(2,0)]<|gb [0,1,2] [(26,vI 0),(25,vI (l0.length:Int)),(24,.slice A0 l0.length c0)] [.loaded ⟨b1,0,none⟩ (.slice A0 l0.length c0)] ⟨hS2.c 1,trivial⟩ ?_
 refine gn hK6<|we_block ?_
 have hS9:=(hS2.b 1).b 1
 rcases hq4:iter (punctualref_ReadImage.r0 l0) K 0 with _ | (_ | rr7)
 ·rw [hq4] at h; cases h
 ·rw [hq4] at h
  simp only [] at h
  refine we_iter (A:=punctualref_ReadImage.A0 w0 l0 A0 c0 b1 b2) (B:=punctualref_ReadImage.B0 w0 l0 A0 c0 b1 b2) hq4 (fun a hF=>⟨hS9,hF.weaken ea⟩) (fun s o hf a w hA Q hQ=>punctualref_ReadImage_r0 K w0 l0 A0 c0 hR0 hL0 b1 b2 hc1 s o hf a w hA Q hQ) ?_
  rintro _ a w10 _ ⟨rfl,hS26,hF⟩
  replace hS26:St w0 w10 [Own.blk b2 (.cells #[vI 0,vI 0] 30 (0,0)),Own.blk b1 (.cells #[.slice A0 l0.length c0] 22 (0,0))]:=hS26
  refine hK5 [(1,pP b1 0),(3,pP b2 0)] w10 ?_ a hF
  refine ws fun K14 hK14=>wr [(0,0),(1,0),(2,1),(3,0)]<|gb [0,1] [(40,.agg #[.slice A0 l0.length c0,.slice none 0 0]),(39,.slice A0 l0.length c0)] [.loaded ⟨b1,0,none⟩ (.slice A0 l0.length c0)] ⟨hS26.c 1,trivial⟩ ?_
  refine gw (some 41) (.cells #[.slice A0 l0.length c0,.slice none 0 0] 68) (fun b=>pP b 0) hS26 fun b4 w11 hx5 hS27=>?_
  refine gb0 [3] [(7,pP b4 0)] ?_
  refine gn hK14<|ws fun K15 hK15=>wr [(0,1)]<|gw (some 8) (.cells #[.slice none 0 0] 23) (fun b=>pP b 0) hS27 fun b5 w12 hx6 hS28=>?_
  refine gn hK15<|ws fun K16 hK16=>ws fun K17 hK17=>wr [(0,0),(1,0),(2,0)]<|gb [0,1,2] [(44,vI 0),(43,vI (l0.length:Int)),(42,.slice A0 l0.length c0)] [.loaded ⟨b1,0,none⟩ (.slice A0 l0.length c0)] ⟨hS28.c 3,trivial⟩ ?_
  refine gn hK17<|we_block ?_
  have hS29:=hS28.nil (α:=Int) 3
  have hS35:=(((((hS29.nil (α:=Sregion) 73).b 1).b 5).b 5).b 5).b 5
  rcases hq17:iter (punctualref_ReadImage.r1 K l0) K (0,([]:List Int),([]:List Sregion)) with _ | (⟨m5,m6⟩ | rr6)
  ·rw [hq17] at h; cases h
  ·rw [hq17] at h
   simp only [] at h
   refine we_iter (A:=punctualref_ReadImage.A1 w0 l0 A0 c0 b1 b2 b4 b5) (B:=punctualref_ReadImage.B1 w0 l0 A0 c0 b1 b2 b4 b5) hq17 (fun a hF=>⟨(.slice none 0 0),(.slice none 0 0),hS35,hF.weaken ea⟩) (fun s o hf a w hA Q hQ=>punctualref_ReadImage_r1 K w0 l0 A0 c0 hR0 hL0 b1 b2 hc1 b4 b5 s o hf a w hA Q hQ) ?_
   rintro _ a w58 _ ⟨rfl,v7,v8,hS215,hF⟩
   replace hS215:St w0 w58 [Own.blk b5 (.cells #[v7] 23 (0,0)),Own.blk b4 (.cells #[.slice A0 l0.length c0,v8] 68 (0,0)),Own.blk b2 (.cells #[vI 0,vI 0] 30 (0,0)),Own.blk b1 (.cells #[.slice A0 l0.length c0] 22 (0,0)),Own.of v7 3 m5,Own.of v8 73 m6]:=hS215
   refine hK16 [(1,pP b1 0),(3,pP b2 0),(7,pP b4 0),(8,pP b5 0)] w58 ?_ a hF
   refine ws fun K44 hK44=>ws fun K45 hK45=>wr [(0,0),(1,0),(2,0)]<|gb [0] [(151,v7)] [.loaded ⟨b5,0,none⟩ (v7)] ⟨hS215.c 0,trivial⟩ ?_
   obtain ⟨Z5,cz5,rfl⟩:=hS215.open 4 rfl
   refine gb0 [1,2] [(153,.bool (decide ((m5.length:Int) > 0))),(152,vI (m5.length:Int))] ?_
   refine gn hK45 ?_
   by_cases hc24:(m5.length:Int) > 0
   ·rw [if_pos hc24] at h
    refine wk 153 (decide ((m5.length:Int) > 0)) true (decide_eq_true hc24) ?_
    refine we_true (by kernel_rfl) ?_
    refine ws fun K46 hK46=>ws fun K47 hK47=>we_draws (by kernel_rfl) [(0,0),(1,0),(2,0),(3,0),(4,0),(5,0),(6,0),(7,0)] (by kernel_rfl) ?_
    have hS216:=hS215.drew
    refine gb [0,1] [(155,(.slice Z5 m5.length cz5)),(154,.slice A0 l0.length c0)] [.loaded ⟨b1,0,none⟩ (.slice A0 l0.length c0),.loaded ⟨b5,0,none⟩ ((.slice Z5 m5.length cz5))] ⟨hS216.c 3,hS216.c 0,trivial⟩ ?_
    rcases hx19:m5[0]? with _ | e5
    ·rw [hx19] at h; cases h
    rw [hx19] at h
    simp only [] at h
    refine gi 156 0 23 3 1 m5.length cz5 (.tmp 155) (.const (vI 0)) Z5 .i64 0 0 ((hS216.rdAt 4 rfl).eqSome (pos_of_get hx19)) rfl (lt_of_get hx19) ?_
    refine gb [3] [(157,vI e5)] [.loaded ⟨blkOf Z5,offOf Z5+0*1,none⟩ (vI e5)] ⟨RdL.cell (j:=0) (hS216.rdAt 4 rfl) hx19 rfl,trivial⟩ ?_
    by_cases hc25:0≤e5
    ·rw [if_pos hc25] at h
     rcases hx20:l0[(e5).toNat]? with _ | e6
     ·rw [hx20] at h; cases h
     rw [hx20] at h
     simp only [] at h
     refine gi 158 0 22 35 3 l0.length c0 (.tmp 154) (.tmp 157) A0 .i64 e5 ((e5).toNat) ((hS216.rd hR0).eqSome (pos_of_get hx20)) (Int.toNat_of_nonneg hc25).symm (lt_of_get hx20) ?_
     refine gb [5,6,7] [(161,.bool (e6.Op==13)),(160,vI e6.Op),(159,.pointer (some ⟨blkOf A0,offOf A0+(e5).toNat*3,none⟩))] [.loaded ⟨blkOf A0,offOf A0+((e5).toNat)*3,none⟩ (vI e6.Op)] ⟨RdL.cell (j:=0) (hS216.rd hR0) hx20 rfl,trivial⟩ ?_
     refine gn hK47 ?_
     by_cases hc26:e6.Op=13
     ·rw [if_pos hc26] at h
      refine wk 161 (e6.Op==13) true (beq_iff_eq.2 hc26) ?_
      refine we_true (by kernel_rfl) ?_
      refine ws fun K48 hK48=>wr [(0,0),(1,0),(2,0),(3,1),(4,0),(5,2)]<|gb [0] [(162,(.slice Z5 m5.length cz5))] [.loaded ⟨b5,0,none⟩ ((.slice Z5 m5.length cz5))] ⟨hS216.c 0,trivial⟩ ?_
      refine gi 163 0 23 3 1 m5.length cz5 (.tmp 162) (.const (vI 0)) Z5 .i64 0 0 ((hS216.rdAt 4 rfl).eqSome (pos_of_get hx19)) rfl (lt_of_get hx19) ?_
      refine gb [2] [(164,vI e5)] [.loaded ⟨blkOf Z5,offOf Z5+0*1,none⟩ (vI e5)] ⟨RdL.cell (j:=0) (hS216.rdAt 4 rfl) hx19 rfl,trivial⟩ ?_
      refine ge_call (d:=some 165) (f:=17) (args:=#[vI 9,vI e5]) (by kernel_rfl) (punctualref_F_ok 9 e5 _ _ rfl) ?_
      rintro _ w59 ⟨rfl,hS217⟩
      refine ⟨_,rfl,hS217.below,?_⟩
      have hS218:=hS216.call hS217
      refine gb0 [4] [(2,.pointer none)] ?_
      have hS219:=hS218.b 2
      refine gs b2 0 #[vI 0,vI 0] 30 [vI ((punctualref_F.f 9 e5).Code),vI ((punctualref_F.f 9 e5).At)] hS219 fun w60 hS220=>?_
      have hS221:=hS220.nc #[vI ((punctualref_F.f 9 e5).Code),vI ((punctualref_F.f 9 e5).At)] rfl
      refine gn hK48 ?_
      have hS222:=hS221.takeN 0
      obtain rfl:=si h
      exact we_ret (pr [.tmp 2,.cell 3 30] [.pointer none,.agg #[vI ((punctualref_F.f 9 e5).Code),vI ((punctualref_F.f 9 e5).At)]] [.loaded ⟨b2,0,none⟩ (vI ((punctualref_F.f 9 e5).Code)),.loaded ⟨b2,1,none⟩ (vI ((punctualref_F.f 9 e5).At))] ⟨hS221.c 0,hS221.c 0,trivial⟩ ⟨rfl,hS222⟩)
     rw [if_neg hc26] at h
     refine wk 161 (e6.Op==13) false (beq_eq_false_iff_ne.2 hc26) ?_
     refine we_false (by kernel_rfl) ?_
     refine we_skip fun a hF=>hK46 _ _ ?_ a hF
     refine ws fun K49 hK49=>wr [(0,0),(1,0),(2,0),(3,1),(4,0),(5,2)]<|gb [0] [(166,(.slice Z5 m5.length cz5))] [.loaded ⟨b5,0,none⟩ ((.slice Z5 m5.length cz5))] ⟨hS216.c 0,trivial⟩ ?_
     refine gi 167 0 23 3 1 m5.length cz5 (.tmp 166) (.const (vI 0)) Z5 .i64 0 0 ((hS216.rdAt 4 rfl).eqSome (pos_of_get hx19)) rfl (lt_of_get hx19) ?_
     refine gb [2] [(168,vI e5)] [.loaded ⟨blkOf Z5,offOf Z5+0*1,none⟩ (vI e5)] ⟨RdL.cell (j:=0) (hS216.rdAt 4 rfl) hx19 rfl,trivial⟩ ?_
     refine ge_call (d:=some 169) (f:=17) (args:=#[vI 10,vI e5]) (by kernel_rfl) (punctualref_F_ok 10 e5 _ _ rfl) ?_
     rintro _ w61 ⟨rfl,hS223⟩
     refine ⟨_,rfl,hS223.below,?_⟩
     have hS224:=hS216.call hS223
     refine gb0 [4] [(2,.pointer none)] ?_
     have hS225:=hS224.b 2
     refine gs b2 0 #[vI 0,vI 0] 30 [vI ((punctualref_F.f 10 e5).Code),vI ((punctualref_F.f 10 e5).At)] hS225 fun w62 hS226=>?_
     have hS227:=hS226.nc #[vI ((punctualref_F.f 10 e5).Code),vI ((punctualref_F.f 10 e5).At)] rfl
     refine gn hK49 ?_
     have hS228:=hS227.takeN 0
     obtain rfl:=si h
     exact we_ret (pr [.tmp 2,.cell 3 30] [.pointer none,.agg #[vI ((punctualref_F.f 10 e5).Code),vI ((punctualref_F.f 10 e5).At)]] [.loaded ⟨b2,0,none⟩ (vI ((punctualref_F.f 10 e5).Code)),.loaded ⟨b2,1,none⟩ (vI ((punctualref_F.f 10 e5).At))] ⟨hS227.c 0,hS227.c 0,trivial⟩ ⟨rfl,hS228⟩)
    rw [if_neg hc25] at h
    cases h
   rw [if_neg hc24] at h
   refine wk 153 (decide ((m5.length:Int) > 0)) false (decide_eq_false hc24) ?_
   refine we_false (by kernel_rfl) ?_
   refine we_skip fun a hF=>hK44 _ _ ?_ a hF
   refine ws fun K50 hK50=>ws fun K51 hK51=>wr [(0,0),(1,0),(2,0)]<|gb [0,1,2] [(172,vI 0),(171,vI (l0.length:Int)),(170,.slice A0 l0.length c0)] [.loaded ⟨b1,0,none⟩ (.slice A0 l0.length c0)] ⟨hS215.c 3,trivial⟩ ?_
   refine gn hK51<|we_block ?_
   obtain ⟨Z6,cz6,rfl⟩:=hS215.open 5 rfl
   have hS233:=((((hS215.b 5).b 4).b 4).b 4).takeN 4
   rcases hq32:iter (punctualref_ReadImage.r6 K l0 m6) K 0 with _ | (_ | rr5)
   ·rw [hq32] at h; cases h
   ·rw [hq32] at h
    simp only [] at h
    refine we_iter (A:=punctualref_ReadImage.A6 w0 l0 A0 c0 b1 b2 b4 m6 Z6 cz6) (B:=punctualref_ReadImage.B6 w0 l0 A0 c0 b1 b2 b4 m6 Z6 cz6) hq32 (fun a hF=>⟨hS233,hF.weaken ea⟩) (fun s o hf a w hA Q hQ=>punctualref_ReadImage_r6 K w0 l0 A0 c0 hR0 hL0 b1 b2 hc1 b4 b5 m5 m6 Z5 cz5 hc24 Z6 cz6 s o hf a w hA Q hQ) ?_
    rintro _ a w93 _ ⟨rfl,hS324,hF⟩
    replace hS324:St w0 w93 [Own.blk b4 (.cells #[.slice A0 l0.length c0,(.slice Z6 m6.length cz6)] 68 (0,0)),Own.blk b2 (.cells #[vI 0,vI 0] 30 (0,0)),Own.blk b1 (.cells #[.slice A0 l0.length c0] 22 (0,0)),Own.of (.slice Z6 m6.length cz6) 73 m6]:=hS324
    refine hK50 [(1,pP b1 0),(3,pP b2 0),(7,pP b4 0)] w93 ?_ a hF
    refine ws fun K72 hK72=>ws fun K73 hK73=>wr [(0,0),(1,1),(2,1),(3,2)] ?_
    rcases hq33:punctualref_stackFault.f K l0 with _ | r8
    ·rw [hq33] at h; cases h
    rw [hq33] at h
    simp only [] at h
    refine gb [0] [(222,.slice A0 l0.length c0)] [.loaded ⟨b1,0,none⟩ (.slice A0 l0.length c0)] ⟨hS324.c 2,trivial⟩ ?_
    refine ge_call (d:=some 223) (f:=26) (args:=#[.slice A0 l0.length c0]) (by kernel_rfl) (punctualref_stackFault_ok K l0 A0 c0 _ (hS324.rd hR0) hL0 _ hq33) ?_
    rintro _ w94 ⟨rfl,hS325⟩
    refine ⟨_,rfl,hS325.below,?_⟩
    have hS326:=hS324.call hS325
    refine gw (some 19) (.cells #[vI 0,vI 0] 30) (fun b=>pP b 0) hS326 fun b20 w95 hx27 hS327=>?_
    refine gs b20 0 #[vI 0,vI 0] 30 [vI r8.Code,vI r8.At] hS327 fun w96 hS328=>?_
    have hS329:=hS328.nc #[vI r8.Code,vI r8.At] rfl
    refine gn hK73<|ws fun K74 hK74=>wr [(0,0),(1,0),(2,0)]<|gb [0,1,2] [(226,.bool (r8.Code != 0)),(225,vI r8.Code),(224,pP b20 0)] [.loaded ⟨b20,0,none⟩ (vI r8.Code)] ⟨hS329.c 0,trivial⟩ ?_
    refine gn hK74 ?_
    by_cases hc38:r8.Code=0
    ·rw [if_pos hc38] at h
     refine wk 226 (r8.Code != 0) false (bne_eq_false_iff_eq.2 hc38) ?_
     refine we_false (by kernel_rfl) ?_
     refine we_skip fun a hF=>hK72 _ _ ?_ a hF
     refine ws fun K75 hK75=>wr [(0,0),(1,0),(2,0),(3,2)]<|gb0 [0,1,2] [(2,pP b4 0),(229,.agg #[vI 0,vI 0]),(228,pP b4 0)] ?_
     have hS330:=hS329.b 2
     refine gs b2 0 #[vI 0,vI 0] 30 [vI 0,vI 0] hS330 fun w97 hS331=>?_
     have hS332:=hS331.nc #[vI 0,vI 0] rfl
     refine gn hK75 ?_
     have hS335:=((hS332.b 4).b 3).takeN 2
     obtain rfl:=si h
     exact we_ret (pr [.tmp 2,.cell 3 30] [pP b4 0,.agg #[vI 0,vI 0]] [.loaded ⟨b2,0,none⟩ (vI 0),.loaded ⟨b2,1,none⟩ (vI 0)] ⟨hS332.c 0,hS332.c 0,trivial⟩ ⟨b4,(.slice Z6 m6.length cz6),rfl,hS335⟩)
    rw [if_neg hc38] at h
    refine wk 226 (r8.Code != 0) true (bne_iff_ne.2 hc38) ?_
    refine we_true (by kernel_rfl) ?_
    refine ws fun K76 hK76=>we_draws (by kernel_rfl) [(0,0),(1,0),(2,2)] (by kernel_rfl) ?_
    have hS336:=hS329.drew
    refine gb [0,1] [(2,.pointer none),(227,.agg #[vI r8.Code,vI r8.At])] [.loaded ⟨b20,0,none⟩ (vI r8.Code),.loaded ⟨b20,1,none⟩ (vI r8.At)] ⟨hS336.c 0,hS336.c 0,trivial⟩ ?_
    have hS337:=hS336.b 2
    refine gs b2 0 #[vI 0,vI 0] 30 [vI r8.Code,vI r8.At] hS337 fun w98 hS338=>?_
    have hS339:=hS338.nc #[vI r8.Code,vI r8.At] rfl
    refine gn hK76 ?_
    have hS340:=hS339.takeN 0
    obtain rfl:=si h
    exact we_ret (pr [.tmp 2,.cell 3 30] [.pointer none,.agg #[vI r8.Code,vI r8.At]] [.loaded ⟨b2,0,none⟩ (vI r8.Code),.loaded ⟨b2,1,none⟩ (vI r8.At)] ⟨hS339.c 0,hS339.c 0,trivial⟩ ⟨rfl,hS340⟩)
   rw [hq32] at h
   simp only [] at h
   refine we_iter (A:=punctualref_ReadImage.A6 w0 l0 A0 c0 b1 b2 b4 m6 Z6 cz6) (B:=punctualref_ReadImage.B6 w0 l0 A0 c0 b1 b2 b4 m6 Z6 cz6) hq32 (fun a hF=>⟨hS233,hF.weaken ea⟩) (fun s o hf a w hA Q hQ=>punctualref_ReadImage_r6 K w0 l0 A0 c0 hR0 hL0 b1 b2 hc1 b4 b5 m5 m6 Z5 cz5 hc24 Z6 cz6 s o hf a w hA Q hQ) ?_
   rintro _ a w1 _ ⟨rfl,hb⟩
   obtain rfl:=si h
   exact hb
  rw [hq17] at h
  simp only [] at h
  refine we_iter (A:=punctualref_ReadImage.A1 w0 l0 A0 c0 b1 b2 b4 b5) (B:=punctualref_ReadImage.B1 w0 l0 A0 c0 b1 b2 b4 b5) hq17 (fun a hF=>⟨(.slice none 0 0),(.slice none 0 0),hS35,hF.weaken ea⟩) (fun s o hf a w hA Q hQ=>punctualref_ReadImage_r1 K w0 l0 A0 c0 hR0 hL0 b1 b2 hc1 b4 b5 s o hf a w hA Q hQ) ?_
  rintro _ a w1 _ ⟨rfl,hb⟩
  obtain rfl:=si h
  exact hb
 rw [hq4] at h
 simp only [] at h
 refine we_iter (A:=punctualref_ReadImage.A0 w0 l0 A0 c0 b1 b2) (B:=punctualref_ReadImage.B0 w0 l0 A0 c0 b1 b2) hq4 (fun a hF=>⟨hS9,hF.weaken ea⟩) (fun s o hf a w hA Q hQ=>punctualref_ReadImage_r0 K w0 l0 A0 c0 hR0 hL0 b1 b2 hc1 s o hf a w hA Q hQ) ?_
 rintro _ a w1 _ ⟨rfl,hb⟩
 obtain rfl:=si h
 exact hb

/-! punctual/punctualref.Steps$1 -/
abbrev punctualref_Steps_1.Post (w0:World) (x0:Int) (bf0:Nat) (lf0_0:List Int) (Af0_0:Option Addr) (cf0_0:Nat) (bf1:Nat) (sf1_0:Int) (LT:List Own) (r:List Int) (e:Ending) (w:World):Prop:=∃ (nbf0_0:Value),e=.returned (.tuple #[])∧St w0 w [Own.blk bf0 (.cells #[nbf0_0] 23 (0,0)),Own.blk bf1 (.cells #[vI sf1_0] 3 (0,0)),Own.of nbf0_0 3 r,Own.all LT]
def punctualref_Steps_1.f (x0 : Int) (lf0_0 : List Int) (sf1_0 : Int) : Option (List Int) :=
 if 0≤(IntKind.i64.wrap (sf1_0-2)) then
  if ((IntKind.i64.wrap (sf1_0-2)).toNat)≤lf0_0.length then
   if (lf0_0.take ((IntKind.i64.wrap (sf1_0-2)).toNat)).length<17592186044416 then
    some ((lf0_0.take ((IntKind.i64.wrap (sf1_0-2)).toNat))++[x0])
   else
    none
  else
   none
 else
  none
theorem punctualref_Steps_1_ok (x0:Int) (bf0:Nat) (lf0_0:List Int) (Af0_0:Option Addr) (cf0_0:Nat) (bf1:Nat) (sf1_0:Int) (w0 wE:World) (LT:List Own) (hS:St w0 wE [Own.blk bf0 (.cells #[(.slice Af0_0 lf0_0.length cf0_0)] 23 (0,0)),Own.blk bf1 (.cells #[vI sf1_0] 3 (0,0)),Own.of (.slice Af0_0 lf0_0.length cf0_0) 3 lf0_0,Own.all LT]) (r:List Int) (h:punctualref_Steps_1.f x0 lf0_0 sf1_0=some r) :
  Calls Tryd.prog 27 #[vI x0,pP bf0 0,pP bf1 0] wE (punctualref_Steps_1.Post w0 x0 bf0 lf0_0 Af0_0 cf0_0 bf1 sf1_0 LT r):=by
 unfold punctualref_Steps_1.f at h
 refine calls_enter (n:=11) (args:=[vI x0,pP bf0 0,pP bf1 0]) (fn:=Tryd.f27) rfl rfl rfl rfl ?_
 show WE _ _ _ _ [(0,vI x0),(1,pP bf0 0),(2,pP bf1 0)] _
 refine wr [(0,0),(1,0),(2,0),(3,0),(4,0),(5,1),(6,2),(7,2)]<|gb [0,1,2] [(6,vI (IntKind.i64.wrap (sf1_0-2))),(5,vI sf1_0),(4,(.slice Af0_0 lf0_0.length cf0_0))] [.loaded ⟨bf0,0,none⟩ ((.slice Af0_0 lf0_0.length cf0_0)),.loaded ⟨bf1,0,none⟩ (vI sf1_0)] ⟨hS.c 0,hS.c 1,trivial⟩ ?_
 by_cases hc1:0≤(IntKind.i64.wrap (sf1_0-2))
 ·rw [if_pos hc1] at h
  by_cases hc2:((IntKind.i64.wrap (sf1_0-2)).toNat)≤lf0_0.length
  ·rw [if_pos hc2] at h
   refine ge_sliceHi (d:=7) (ty:=23) (t:=23) (el:=3) (sz:=1) (m:=lf0_0.length) (c:=cf0_0) (hn:=((IntKind.i64.wrap (sf1_0-2)).toNat)) (x:=(.tmp 4)) (y:=(.tmp 6)) (A:=Af0_0) (k':=.i64) (hi:=(IntKind.i64.wrap (sf1_0-2))) (by kernel_rfl) (by kernel_rfl) (by kernel_rfl) (Int.toNat_of_nonneg hc1).symm (by kernel_rfl) (by kernel_rfl) (by have f0:=hc2; have f1:=(hS.capAt 2 rfl); omega) ?_
   refine ge_same (t:=7) (v:=.slice Af0_0 ((IntKind.i64.wrap (sf1_0-2)).toNat) cf0_0) (v':=.slice Af0_0 ((lf0_0.take ((IntKind.i64.wrap (sf1_0-2)).toNat)).length) cf0_0) (by kernel_rfl) (congrArg (fun z=>Value.slice Af0_0 z cf0_0) (show (IntKind.i64.wrap (sf1_0-2)).toNat=(lf0_0.take ((IntKind.i64.wrap (sf1_0-2)).toNat)).length by have f0:=hc2; have f1:=(hS.capAt 2 rfl); simp only [List.length_take]; omega)) ?_
   refine gb0 [4] [(8,vI x0)] ?_
   refine gw (some 9) (.cells #[vI x0] 3) (fun b=>.slice (some ⟨b,0,none⟩) 1 1) hS fun b1 w1 hx1 hS1=>?_
   have hS5:=(((hS1.b 3).shrink ((IntKind.i64.wrap (sf1_0-2)).toNat)).b 1).b 1
   by_cases hc3:(lf0_0.take ((IntKind.i64.wrap (sf1_0-2)).toNat)).length<17592186044416
   ·rw [if_pos hc3] at h
    refine ge_append (α:=Int) (m:=0) (d:=10) (t:=23) (el:=3) (bytes:=8) (c1:=1) (b1:=b1) (x:=(.tmp 7)) (y:=(.tmp 9)) (ty:=23) (v:=(.slice Af0_0 (lf0_0.take ((IntKind.i64.wrap (sf1_0-2)).toNat)).length cf0_0)) (z:=vI 0) (l:=(lf0_0.take ((IntKind.i64.wrap (sf1_0-2)).toNat))) (u:=x0) (by kernel_rfl) (by kernel_rfl) (by kernel_rfl) (by kernel_rfl) (by kernel_rfl) rfl hS5 rfl (by omega) fun v1 w2 hS6=>?_
    obtain ⟨Z1,cz1,rfl⟩:=hS6.open 0 rfl
    have hS7:=hS6.b 1
    refine gs bf0 0 #[(.slice Af0_0 lf0_0.length cf0_0)] 23 [(.slice Z1 ((lf0_0.take ((IntKind.i64.wrap (sf1_0-2)).toNat))++[x0]).length cz1)] hS7 fun w3 hS8=>?_
    have hS13:=((((hS8.nc #[(.slice Z1 ((lf0_0.take ((IntKind.i64.wrap (sf1_0-2)).toNat))++[x0]).length cz1)] rfl).b 3).b 2).b 3).b 3
    obtain rfl:=si h
    exact ge_nil (pe0 [] [] ⟨(.slice Z1 ((lf0_0.take ((IntKind.i64.wrap (sf1_0-2)).toNat))++[x0]).length cz1),rfl,hS13⟩)
   rw [if_neg hc3] at h
   cases h
  rw [if_neg hc2] at h
  cases h
 rw [if_neg hc1] at h
 cases h

/-! punctual/punctualref.Steps$2 -/
abbrev punctualref_Steps_2.Post (w0:World) (r:Int) (e:Ending) (w:World):Prop:=e=.returned (vI r)∧St w0 w []
def punctualref_Steps_2.f (x0 : Bool) : Int :=
 if x0=true then
  1
 else
  0
theorem punctualref_Steps_2_ok (x0:Bool) (w0:World) (r:Int) (h:punctualref_Steps_2.f x0=r) :
  Calls Tryd.prog 28 #[.bool x0] w0 (punctualref_Steps_2.Post w0 r):=by
 have hS:=St.start w0
 unfold punctualref_Steps_2.f at h
 refine calls_enter (n:=4) (args:=[.bool x0]) (fn:=Tryd.f28) rfl rfl rfl rfl ?_
 show WE _ _ _ _ [(0,.bool x0)] _
 refine ws fun K1 hK1=>wr [(0,0)]<|gb0 [0] [(2,vI 0)] ?_
 refine gn hK1<|ws fun K2 hK2=>ws fun K3 hK3=>wr [(0,0)]<|gb0 [0] [(3,.bool x0)] ?_
 refine gn hK3 ?_
 by_cases hc1:x0=true
 ·rw [if_pos hc1] at h
  refine wk 3 x0 true hc1 ?_
  refine we_true (by kernel_rfl) ?_
  refine ws fun K4 hK4=>wr [(0,0)]<|gb0 [0] [(2,vI 1)] ?_
  refine gn hK4 ?_
  subst h
  exact we_ret (pr0 [.tmp 2] [vI 1] ⟨rfl,hS⟩)
 rw [if_neg hc1] at h
 refine wk 3 x0 false (Bool.eq_false_iff.2 hc1) ?_
 refine we_false (by kernel_rfl) ?_
 refine we_skip fun a hF=>hK2 _ _ ?_ a hF
 refine ws fun K5 hK5=>wr [(0,0)]<|gb0 [0] [(2,vI 0)] ?_
 refine gn hK5 ?_
 subst h
 exact we_ret (pr0 [.tmp 2] [vI 0] ⟨rfl,hS⟩)
end Go.Proofs.YtgpolejhaglddaaDoor.GV
