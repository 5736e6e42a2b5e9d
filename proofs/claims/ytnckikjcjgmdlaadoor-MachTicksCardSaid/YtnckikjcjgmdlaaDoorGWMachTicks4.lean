/- Walks of single functions, written by a program of this work. -/
import Derived.Test.YtnckikjcjgmdlaaDoorGWMachTicks3
namespace Go.Proofs.YtnckikjcjgmdlaaDoor.GV
open Go Go.RowKit
set_option linter.unusedVariables false
set_option linter.unusedSimpArgs false
set_option maxRecDepth 100000

/-! punctual/punctualref.ReadImage -/
abbrev punctualref_ReadImage.Post (w0:World) (l0:List SIns) (A0:OA) (c0:Nat) (r:(Option PImage)×SFault) (e:Ending) (w:World):Prop:=match r.1 with
 | none=>e=.returned (.tuple #[.pointer none,.agg #[vI r.2.Code,vI r.2.At]])∧St w0 w []
 | some x=>∃ (pb:Nat) (pv1:Value),e=.returned (.tuple #[pP pb 0,.agg #[vI r.2.Code,vI r.2.At]])∧St w0 w [bk pb #[.slice A0 l0.length c0,pv1] 70,Own.of pv1 74 x.m_Regions]
def punctualref_ReadImage.r0 (l0 : List SIns) : Nat → Option (Nat ⊕ (Unit ⊕ ((Option PImage) × SFault)))
 | i1 =>
  if (i1:Int)<(l0.length:Int) then
   match l0[i1]? with
   | none=>none
   | some e1 =>
    match punctualref_wrongIns.f e1 with
    | none=>none
    | some r1 =>
     if r1=0 then
      some (.inl (i1+1))
     else
      some (.inr (.inr (none,(punctualref_F.f r1 (i1:Int)))))
  else
   some (.inr (.inl ()))
def punctualref_ReadImage.p2 (m1 : List Int) : Option (Int ⊕ ((Option PImage) × SFault)) :=
  if (m1.length:Int) > 0 then
   if 0≤(IntKind.i64.wrap ((m1.length:Int)-1)) then
    match m1[(IntKind.i64.wrap ((m1.length:Int)-1)).toNat]? with
    | none=>none
    | some e3 =>
     some (.inl e3)
   else
    none
  else
   some (.inl (-1))
def punctualref_ReadImage.p3 (e2 : SIns) : Option (Bool ⊕ ((Option PImage) × SFault)) :=
  if e2.Op=13 then
   some (.inl true)
  else
   some (.inl (e2.Op==16))
def punctualref_ReadImage.p4 (e2 : SIns) : Option (Bool ⊕ ((Option PImage) × SFault)) :=
  if e2.Op=14 then
   some (.inl true)
  else
   some (.inl (e2.Op==17))
def punctualref_ReadImage.p5 (l0 : List SIns) (i2 : Nat) (e2 : SIns) (z2 : Int) : Option (Unit ⊕ ((Option PImage) × SFault)) :=
  if z2<0 then
   some (.inr (none,(punctualref_F.f ((mget (mset (mset ([]:List (Int×Int)) 14 9) 17 10) e2.Op).getD 0) (i2:Int))))
  else
   if 0≤z2 then
    match l0[(z2).toNat]? with
    | none=>none
    | some e4 =>
     if e4.Op=((mget (mset (mset ([]:List (Int×Int)) 14 13) 17 16) e2.Op).getD 0) then
      if e4.A=e2.A then
       if e2.Op=14 then
        if e2.B=(IntKind.i64.wrap (z2+1)) then
         some (.inl ())
        else
         some (.inr (none,(punctualref_F.f ((mget (mset (mset ([]:List (Int×Int)) 14 9) 17 10) e2.Op).getD 0) (i2:Int))))
       else
        some (.inl ())
      else
       some (.inr (none,(punctualref_F.f ((mget (mset (mset ([]:List (Int×Int)) 14 9) 17 10) e2.Op).getD 0) (i2:Int))))
     else
      some (.inr (none,(punctualref_F.f ((mget (mset (mset ([]:List (Int×Int)) 14 9) 17 10) e2.Op).getD 0) (i2:Int))))
   else
    none
def punctualref_ReadImage.r1 (K : Nat) (l0 : List SIns) : Nat × (List Int) × (List Sregion) → Option ((Nat × (List Int) × (List Sregion)) ⊕ (((List Int) × (List Sregion)) ⊕ ((Option PImage) × SFault)))
 | (i2,m1,m2) =>
  if (i2:Int)<(l0.length:Int) then
   match l0[i2]? with
   | none=>none
   | some e2 =>
    match punctualref_ReadImage.p2 m1 with
    | none=>none
    | some (.inl z2) =>
     match punctualref_ReadImage.p3 e2 with
     | none=>none
     | some (.inl q2) =>
      if q2=true then
       match punctualref_ReadImage_1.f K e2.Op m1 l0 e2 with
       | none=>none
       | some r2 =>
        if r2=true then
         some (.inr (.inr (none,(punctualref_F.f ((mget (mset (mset ([]:List (Int×Int)) 13 9) 16 10) e2.Op).getD 0) (i2:Int)))))
        else
         if m1.length<17592186044416 then
          some (.inl ((i2+1),(m1++[(i2:Int)]),m2))
         else
          none
      else
       match punctualref_ReadImage.p4 e2 with
       | none=>none
       | some (.inl q4) =>
        if q4=true then
         match punctualref_ReadImage.p5 l0 i2 e2 z2 with
         | none=>none
         | some (.inl _) =>
          if m2.length<8796093022208 then
           if 0≤(IntKind.i64.wrap ((m1.length:Int)-1)) then
            if ((IntKind.i64.wrap ((m1.length:Int)-1)).toNat)≤m1.length then
             some (.inl ((i2+1),(m1.take ((IntKind.i64.wrap ((m1.length:Int)-1)).toNat)),(m2++[(⟨z2,(i2:Int)⟩:Sregion)])))
            else
             none
           else
            none
          else
           none
         | some (.inr rr1) =>
          some (.inr (.inr rr1))
        else
         if e2.Op=15 then
          match punctualref_ReadImage_1.f K 13 m1 l0 e2 with
          | none=>none
          | some r3 =>
           if r3=true then
            some (.inl ((i2+1),m1,m2))
           else
            some (.inr (.inr (none,(punctualref_F.f 9 (i2:Int)))))
         else
          some (.inl ((i2+1),m1,m2))
       | some (.inr rr2) =>
        some (.inr (.inr rr2))
     | some (.inr rr3) =>
      some (.inr (.inr rr3))
    | some (.inr rr4) =>
     some (.inr (.inr rr4))
  else
   some (.inr (.inl (m1,m2)))
def punctualref_ReadImage.r6 (K : Nat) (l0 : List SIns) (m6 : List Sregion) : Nat → Option (Nat ⊕ (Unit ⊕ ((Option PImage) × SFault)))
 | i3 =>
  if (i3:Int)<(l0.length:Int) then
   match l0[i3]? with
   | none=>none
   | some e7 =>
    if e7.Op=11 then
     match punctualref_Image_inner.f K l0 m6 (i3:Int) with
     | none=>none
     | some r4 =>
      match punctualref_Image_inner.f K l0 m6 e7.A with
      | none=>none
      | some r5 =>
       if e7.A≤(i3:Int) then
        some (.inr (.inr (none,(punctualref_F.f 7 (i3:Int)))))
       else
        if e7.A > (l0.length:Int) then
         some (.inr (.inr (none,(punctualref_F.f 7 (i3:Int)))))
        else
         if r4.2=r5.2 then
          if (Sregion.eqb r4.1 r5.1)=true then
           some (.inl (i3+1))
          else
           some (.inr (.inr (none,(punctualref_F.f 7 (i3:Int)))))
         else
          some (.inr (.inr (none,(punctualref_F.f 7 (i3:Int)))))
    else
     if e7.Op=12 then
      match punctualref_Image_inner.f K l0 m6 (i3:Int) with
      | none=>none
      | some r6 =>
       match punctualref_Image_inner.f K l0 m6 e7.A with
       | none=>none
       | some r7 =>
        if e7.A≤(i3:Int) then
         some (.inr (.inr (none,(punctualref_F.f 7 (i3:Int)))))
        else
         if e7.A > (l0.length:Int) then
          some (.inr (.inr (none,(punctualref_F.f 7 (i3:Int)))))
         else
          if r6.2=r7.2 then
           if (Sregion.eqb r6.1 r7.1)=true then
            some (.inl (i3+1))
           else
            some (.inr (.inr (none,(punctualref_F.f 7 (i3:Int)))))
          else
           some (.inr (.inr (none,(punctualref_F.f 7 (i3:Int)))))
     else
      some (.inl (i3+1))
  else
   some (.inr (.inl ()))
def punctualref_ReadImage.f (K : Nat) (l0 : List SIns) : Option ((Option PImage) × SFault) :=
 if (l0.length:Int) > 2000 then
  some (none,(punctualref_F.f 2 0))
 else
  match iter (punctualref_ReadImage.r0 l0) K 0 with
  | none=>none
  | some (.inl _) =>
   match iter (punctualref_ReadImage.r1 K l0) K (0,([]:List Int),([]:List Sregion)) with
   | none=>none
   | some (.inl (m5,m6)) =>
    if (m5.length:Int) > 0 then
     match m5[0]? with
     | none=>none
     | some e5 =>
      if 0≤e5 then
       match l0[(e5).toNat]? with
       | none=>none
       | some e6 =>
        if e6.Op=13 then
         some (none,(punctualref_F.f 9 e5))
        else
         some (none,(punctualref_F.f 10 e5))
      else
       none
    else
     match iter (punctualref_ReadImage.r6 K l0 m6) K 0 with
     | none=>none
     | some (.inl _) =>
      match punctualref_stackFault.f K l0 with
      | none=>none
      | some r8 =>
       if r8.Code=0 then
        some ((some (⟨m6⟩:PImage)),(⟨0,0⟩:SFault))
       else
        some (none,r8)
     | some (.inr rr5) =>
      some rr5
   | some (.inr rr6) =>
    some rr6
  | some (.inr rr7) =>
   some rr7
abbrev punctualref_ReadImage.A0 (w0:World) (l0:List SIns) (A0:OA) (c0 b1 b2:Nat):Nat→Act→World→Prop:=fun (s:Nat) a w=>St w0 w [bk b2 #[vI 0,vI 0] 25,bk b1 #[.slice A0 l0.length c0] 22]∧Frm 230 a [(1,pP b1 0),(3,pP b2 0),(24,.slice A0 l0.length c0),(25,vI (l0.length:Int)),(26,vI (s:Int))]
abbrev punctualref_ReadImage.B0 (w0:World) (l0:List SIns) (A0:OA) (c0 b1 b2:Nat):(Unit ⊕ ((Option PImage)×SFault))→Exit→Act→World→Prop:=Exits 0 (fun (s:Unit) a w=>St w0 w [bk b2 #[vI 0,vI 0] 25,bk b1 #[.slice A0 l0.length c0] 22]∧Frm 230 a [(1,pP b1 0),(3,pP b2 0)]) (Rets Tryd.prog Tryd.f11 (punctualref_ReadImage.Post w0 l0 A0 c0))
theorem punctualref_ReadImage_r0 (K:Nat) (w0:World) (l0:List SIns) (A0:OA) (c0:Nat) (hR0:RdL w0 A0 l0) (hL0:l0.length≤c0) (b1 b2:Nat) (hc1:¬ ((l0.length:Int) > 2000)) (s:Nat) (o:Nat ⊕ (Unit ⊕ ((Option PImage)×SFault))) (h:punctualref_ReadImage.r0 l0 s=some o) (a:Act) (w:World) (hA:punctualref_ReadImage.A0 w0 l0 A0 c0 b1 b2 s a w) (Q:Exit→Act→World→Prop) (hQ:∀ x a w,Outs (punctualref_ReadImage.A0 w0 l0 A0 c0 b1 b2) (punctualref_ReadImage.B0 w0 l0 A0 c0 b1 b2) o x a w→Q x a w):(subF Tryd.f11 [1,1,0,1,0,0]).wp Tryd.prog Q a w:=by
 obtain ⟨i1,hs⟩:∃ z,z=s:=⟨s,rfl⟩
 subst hs
 obtain ⟨hS,hF⟩:=hA
 replace hS:St w0 w [bk b2 #[vI 0,vI 0] 25,bk b1 #[.slice A0 l0.length c0] 22]:=hS
 simp only [punctualref_ReadImage.r0] at h
 refine (?_:WE Tryd.prog 230 (subF Tryd.f11 [1,1,0,1,0,0]) Q [(1,pP b1 0),(3,pP b2 0),(24,.slice A0 l0.length c0),(25,vI (l0.length:Int)),(26,vI (i1:Int))] w) a hF
 clear hF a
 refine ws fun K7 hK7=>wr [(0,0)]<|gb0 [0] [(27,.bool (decide ((i1:Int)<(l0.length:Int))))]<|gn hK7<|ws fun K8 hK8=>?_
 by_cases hc2:(i1:Int)<(l0.length:Int)
 ·rw [if_pos hc2] at h
  refine wk 27 (decide ((i1:Int)<(l0.length:Int))) true (decide_eq_true hc2)<|wt<|we_skip fun a hF=>hK8 _ _ ?_ a hF
  refine ws fun K9 hK9=>we_block<|ws fun K10 hK10=>wr [(0,0),(1,0),(2,0),(3,1),(4,0),(5,2)]<|gb0 [0] [(28,vI (i1:Int))] ?_
  rcases hx3:l0[i1]? with _ | e1
  ·rw [hx3] at h; cases h
  rw [hx3] at h
  simp only [] at h
  refine gi 29 0 22 29 3 l0.length c0 (.tmp 24) (.tmp 26) A0 .i64 (i1:Int) i1 ((hS.rd hR0).eqSome (pos_of_get hx3)) rfl (lt_of_get hx3) ?_
  refine gb [2] [(30,.agg #[vI e1.Op,vI e1.A,vI e1.B])] [.loaded ⟨blkOf A0,offOf A0+i1*3,none⟩ (vI e1.Op),.loaded ⟨blkOf A0,offOf A0+i1*3+1,none⟩ (vI e1.A),.loaded ⟨blkOf A0,offOf A0+i1*3+2,none⟩ (vI e1.B)] ⟨RdL.cell (j:=0) (hS.rd hR0) hx3 rfl,RdL.cell (j:=1) (hS.rd hR0) hx3 rfl,RdL.cell (j:=2) (hS.rd hR0) hx3 rfl,trivial⟩<|gw (some 5) (.cells #[vI 0,vI 0,vI 0] 29) (fun b=>pP b 0) hS fun b3 w5 hx4 hS10=>?_
  refine gb0 [4] [(4,vI (i1:Int))]<|gs b3 0 #[vI 0,vI 0,vI 0] 29 [vI e1.Op,vI e1.A,vI e1.B] hS10 fun w6 hS11=>?_
  have hS12:=hS11.nc #[vI e1.Op,vI e1.A,vI e1.B] rfl
  refine gn hK10<|ws fun K11 hK11=>wr [(0,0),(1,1),(2,0)] ?_
  rcases hq2:punctualref_wrongIns.f e1 with _ | r1
  ·rw [hq2] at h; cases h
  rw [hq2] at h
  simp only [] at h
  refine gb [0] [(31,.agg #[vI e1.Op,vI e1.A,vI e1.B])] [ld b3 0 (vI e1.Op),ld b3 1 (vI e1.A),ld b3 2 (vI e1.B)] ⟨hS12.c 0,hS12.c 0,hS12.c 0,trivial⟩<|ge_call (d:=some 32) (f:=31) (args:=#[.agg #[vI e1.Op,vI e1.A,vI e1.B]]) (by kernel_rfl) (punctualref_wrongIns_ok e1 _ _ hq2) ?_
  rintro _ w7 ⟨rfl,hS13⟩
  refine ⟨_,rfl,hS13.below,?_⟩
  have hS14:=hS12.call hS13
  refine gb0 [2] [(6,vI r1)]<|gn hK11<|ws fun K12 hK12=>wr [(0,0),(1,0)]<|gb0 [0,1] [(34,.bool (r1 != 0)),(33,vI r1)]<|gn hK12 ?_
  by_cases hc3:r1=0
  ·rw [if_pos hc3] at h
   refine wk 34 (r1 != 0) false (bne_eq_false_iff_eq.2 hc3)<|wf<|we_skip fun a hF=>hK9 _ _ ?_ a hF
   refine wr [(0,0),(1,0)]<|ge_addn (d:=38) (ty:=3) (x:=(.tmp 26)) (y:=(.const (vI 1))) (t:=3) (t2:=3) (k:=.i64) (m:=i1) (by kernel_rfl) (by kernel_rfl) (by kernel_rfl) (by have h0:=hR0.small; omega) ?_
   refine gb0 [1] [(26,vI ((i1+1:Nat):Int))] ?_
   have hS17:=hS14.p [1,2] rfl
   obtain rfl:=si h
   exact ge_nil fun a hF=>hQ _ _ _ (Outs.again ⟨hS17,hF.weaken ea⟩)
  rw [if_neg hc3] at h
  refine wk 34 (r1 != 0) true (bne_iff_ne.2 hc3)<|wt<|ws fun K13 hK13=>wr [(0,0),(1,0),(2,1),(3,0),(4,2)]<|gb0 [0,1] [(36,vI (i1:Int)),(35,vI r1)]<|ge_call (d:=some 37) (f:=9) (args:=#[vI r1,vI (i1:Int)]) (by kernel_rfl) (punctualref_F_ok r1 (i1:Int) _ _ rfl) ?_
  rintro _ w8 ⟨rfl,hS18⟩
  refine ⟨_,rfl,hS18.below,?_⟩
  have hS19:=hS14.call hS18
  refine gb0 [3] [(2,.pointer none)] ?_
  have hS20:=hS19.b 1
  refine gs b2 0 #[vI 0,vI 0] 25 [vI ((punctualref_F.f r1 (i1:Int)).Code),vI ((punctualref_F.f r1 (i1:Int)).At)] hS20 fun w9 hS21=>?_
  have hS22:=hS21.nc #[vI ((punctualref_F.f r1 (i1:Int)).Code),vI ((punctualref_F.f r1 (i1:Int)).At)] rfl
  refine gn hK13 ?_
  have hS23:=hS22.takeN 0
  obtain rfl:=si h
  exact we_ret fun a hF=>hQ _ _ _ (Outs.out nofun (Exits.on ⟨rfl,(pr [.tmp 2,.cell 3 25] [.pointer none,.agg #[vI ((punctualref_F.f r1 (i1:Int)).Code),vI ((punctualref_F.f r1 (i1:Int)).At)]] [ld b2 0 (vI ((punctualref_F.f r1 (i1:Int)).Code)),ld b2 1 (vI ((punctualref_F.f r1 (i1:Int)).At))] ⟨hS22.c 0,hS22.c 0,trivial⟩ ⟨rfl,hS23⟩) a hF⟩))
 rw [if_neg hc2] at h
 refine wk 27 (decide ((i1:Int)<(l0.length:Int))) false (decide_eq_false hc2)<|wf ?_
 have hS25:=(hS.b 1).b 1
 obtain rfl:=si h
 exact we_exit fun a hF=>hQ _ _ _ (Outs.out nofun (Exits.here ⟨hS25,hF.weaken ea⟩))
abbrev punctualref_ReadImage.A2 (w0:World) (l0:List SIns) (A0:OA) (c0 b1 b2 b4 b5 i2:Nat) (m1:List Int) (m2:List Sregion) (e2:SIns) (b6:Nat) (Z1:OA) (cz1:Nat) (Z2:OA) (cz2:Nat):Int→Act→World→Prop:=fun (s:Int) a w=>St w0 w [bk b6 #[vI e2.Op,vI e2.A,vI e2.B] 29,bk b5 #[(.slice Z1 m1.length cz1)] 37,bk b4 #[.slice A0 l0.length c0,(.slice Z2 m2.length cz2)] 70,bk b2 #[vI 0,vI 0] 25,bk b1 #[.slice A0 l0.length c0] 22,ro Z1 cz1 3 m1,ro Z2 cz2 74 m2]∧Frm 230 a [(1,pP b1 0),(3,pP b2 0),(7,pP b4 0),(8,pP b5 0),(9,vI (i2:Int)),(10,pP b6 0),(11,vI s),(42,.slice A0 l0.length c0),(43,vI (l0.length:Int)),(44,vI (i2:Int))]
abbrev punctualref_ReadImage.B2 (w0:World) (l0:List SIns) (A0:OA) (c0:Nat):((Option PImage)×SFault)→Exit→Act→World→Prop:=Rets Tryd.prog Tryd.f11 (punctualref_ReadImage.Post w0 l0 A0 c0)
theorem punctualref_ReadImage_p2 (K:Nat) (w0:World) (l0:List SIns) (A0:OA) (c0:Nat) (hR0:RdL w0 A0 l0) (hL0:l0.length≤c0) (b1 b2:Nat) (hc1:¬ ((l0.length:Int) > 2000)) (b4 b5 i2:Nat) (m1:List Int) (m2:List Sregion) (hc4:(i2:Int)<(l0.length:Int)) (e2:SIns) (hx7:l0[i2]?=some e2) (b6:Nat) (Z1:OA) (cz1:Nat) (Z2:OA) (cz2:Nat) (o:Int ⊕ ((Option PImage)×SFault)) (h:punctualref_ReadImage.p2 m1=some o) (w:World) (hS:St w0 w [bk b6 #[vI e2.Op,vI e2.A,vI e2.B] 29,bk b5 #[(.slice Z1 m1.length cz1)] 37,bk b4 #[.slice A0 l0.length c0,(.slice Z2 m2.length cz2)] 70,bk b2 #[vI 0,vI 0] 25,bk b1 #[.slice A0 l0.length c0] 22,ro Z1 cz1 3 m1,ro Z2 cz2 74 m2]) (Q:Exit→Act→World→Prop) (hQ:∀ x a w,Outs (punctualref_ReadImage.A2 w0 l0 A0 c0 b1 b2 b4 b5 i2 m1 m2 e2 b6 Z1 cz1 Z2 cz2) (punctualref_ReadImage.B2 w0 l0 A0 c0) o x a w→Q x a w):WE Tryd.prog 230 (subF Tryd.f11 [1,1,1,1,1,0,1,0,0,1,1,0,0,1,1,0]) Q [(1,pP b1 0),(3,pP b2 0),(7,pP b4 0),(8,pP b5 0),(9,vI (i2:Int)),(10,pP b6 0),(11,vI (-1)),(42,.slice A0 l0.length c0),(43,vI (l0.length:Int)),(44,vI (i2:Int)),(45,.bool true),(46,vI (i2:Int)),(47,.pointer (some ⟨blkOf A0,offOf A0+i2*3,none⟩)),(48,.agg #[vI e2.Op,vI e2.A,vI e2.B])] w:=by
 simp only [punctualref_ReadImage.p2] at h
 refine ws fun K24 hK24=>wr [(0,0),(1,0),(2,0)]<|gb [0,1,2] [(51,.bool (decide ((m1.length:Int) > 0))),(50,vI (m1.length:Int)),(49,(.slice Z1 m1.length cz1))] [ld b5 0 ((.slice Z1 m1.length cz1))] ⟨hS.c 1,trivial⟩<|gn hK24 ?_
 by_cases hc5:(m1.length:Int) > 0
 ·rw [if_pos hc5] at h
  refine wk 51 (decide ((m1.length:Int) > 0)) true (decide_eq_true hc5)<|wt<|wr [(0,0),(1,0),(2,0),(3,0),(4,0),(5,0),(6,0)]<|gb [0,1,2,3] [(55,vI (IntKind.i64.wrap ((m1.length:Int)-1))),(54,vI (m1.length:Int)),(53,(.slice Z1 m1.length cz1)),(52,(.slice Z1 m1.length cz1))] [ld b5 0 ((.slice Z1 m1.length cz1)),ld b5 0 ((.slice Z1 m1.length cz1))] ⟨hS.c 1,hS.c 1,trivial⟩ ?_
  by_cases hc6:0≤(IntKind.i64.wrap ((m1.length:Int)-1))
  ·rw [if_pos hc6] at h
   rcases hx9:m1[(IntKind.i64.wrap ((m1.length:Int)-1)).toNat]? with _ | e3
   ·rw [hx9] at h; cases h
   rw [hx9] at h
   simp only [] at h
   refine gi 56 0 37 3 1 m1.length cz1 (.tmp 52) (.tmp 55) Z1 .i64 (IntKind.i64.wrap ((m1.length:Int)-1)) ((IntKind.i64.wrap ((m1.length:Int)-1)).toNat) ((hS.rdAt 5 rfl).eqSome (pos_of_get hx9)) (Int.toNat_of_nonneg hc6).symm (lt_of_get hx9) ?_
   refine gb [5,6] [(11,vI e3),(57,vI e3)] [.loaded ⟨blkOf Z1,offOf Z1+((IntKind.i64.wrap ((m1.length:Int)-1)).toNat)*1,none⟩ (vI e3)] ⟨RdL.cell (j:=0) (hS.rdAt 5 rfl) hx9 rfl,trivial⟩ ?_
   have hS45:=((((((hS.b 6).b 6).b 6).b 6).b 6).b 6).b 6
   obtain rfl:=si h
   exact ge_nil fun a hF=>hQ _ _ _ (Outs.again ⟨hS45,hF.weaken ea⟩)
  rw [if_neg hc6] at h
  cases h
 rw [if_neg hc5] at h
 refine wk 51 (decide ((m1.length:Int) > 0)) false (decide_eq_false hc5)<|wf ?_
 have hS52:=((((((hS.b 6).b 6).b 6).b 6).b 6).b 6).b 6
 obtain rfl:=si h
 exact we_skip fun a hF=>hQ _ _ _ (Outs.again ⟨hS52,hF.weaken ea⟩)
abbrev punctualref_ReadImage.A3 (w0:World) (l0:List SIns) (A0:OA) (c0 b1 b2 b4 b5 i2:Nat) (m1:List Int) (m2:List Sregion) (e2:SIns) (b6:Nat) (Z1:OA) (cz1:Nat) (Z2:OA) (cz2:Nat) (z2:Int):Bool→Act→World→Prop:=fun (s:Bool) a w=>St w0 w [bk b6 #[vI e2.Op,vI e2.A,vI e2.B] 29,bk b5 #[(.slice Z1 m1.length cz1)] 37,bk b4 #[.slice A0 l0.length c0,(.slice Z2 m2.length cz2)] 70,bk b2 #[vI 0,vI 0] 25,bk b1 #[.slice A0 l0.length c0] 22,ro Z1 cz1 3 m1,ro Z2 cz2 74 m2]∧Frm 230 a [(1,pP b1 0),(3,pP b2 0),(7,pP b4 0),(8,pP b5 0),(9,vI (i2:Int)),(10,pP b6 0),(11,vI z2),(12,.func (.func 32) #[] #[pP b5 0,pP b1 0,pP b6 0]),(42,.slice A0 l0.length c0),(43,vI (l0.length:Int)),(44,vI (i2:Int)),(60,vI e2.Op),(61,.bool s)]
abbrev punctualref_ReadImage.B3 (w0:World) (l0:List SIns) (A0:OA) (c0:Nat):((Option PImage)×SFault)→Exit→Act→World→Prop:=Rets Tryd.prog Tryd.f11 (punctualref_ReadImage.Post w0 l0 A0 c0)
theorem punctualref_ReadImage_p3 (K:Nat) (w0:World) (l0:List SIns) (A0:OA) (c0:Nat) (hR0:RdL w0 A0 l0) (hL0:l0.length≤c0) (b1 b2:Nat) (hc1:¬ ((l0.length:Int) > 2000)) (b4 b5 i2:Nat) (m1:List Int) (m2:List Sregion) (hc4:(i2:Int)<(l0.length:Int)) (e2:SIns) (hx7:l0[i2]?=some e2) (b6:Nat) (Z1:OA) (cz1:Nat) (Z2:OA) (cz2:Nat) (z2:Int) (o:Bool ⊕ ((Option PImage)×SFault)) (h:punctualref_ReadImage.p3 e2=some o) (w:World) (hS:St w0 w [bk b6 #[vI e2.Op,vI e2.A,vI e2.B] 29,bk b5 #[(.slice Z1 m1.length cz1)] 37,bk b4 #[.slice A0 l0.length c0,(.slice Z2 m2.length cz2)] 70,bk b2 #[vI 0,vI 0] 25,bk b1 #[.slice A0 l0.length c0] 22,ro Z1 cz1 3 m1,ro Z2 cz2 74 m2]) (Q:Exit→Act→World→Prop) (hQ:∀ x a w,Outs (punctualref_ReadImage.A3 w0 l0 A0 c0 b1 b2 b4 b5 i2 m1 m2 e2 b6 Z1 cz1 Z2 cz2 z2) (punctualref_ReadImage.B3 w0 l0 A0 c0) o x a w→Q x a w):WE Tryd.prog 230 (subF Tryd.f11 [1,1,1,1,1,0,1,0,0,1,1,0,0,1,1,1,1,1,0,0]) Q [(1,pP b1 0),(3,pP b2 0),(7,pP b4 0),(8,pP b5 0),(9,vI (i2:Int)),(10,pP b6 0),(11,vI z2),(12,.func (.func 32) #[] #[pP b5 0,pP b1 0,pP b6 0]),(42,.slice A0 l0.length c0),(43,vI (l0.length:Int)),(44,vI (i2:Int)),(58,.func (.func 32) #[] #[pP b5 0,pP b1 0,pP b6 0]),(59,pP b6 0),(60,vI e2.Op)] w:=by
 simp only [punctualref_ReadImage.p3] at h
 refine ws fun K28 hK28=>wr [(0,0),(1,0)]<|gb0 [0,1] [(61,.bool (e2.Op==13)),(62,.bool (e2.Op==13))]<|gn hK28 ?_
 by_cases hc7:e2.Op=13
 ·rw [if_pos hc7] at h
  refine wk 61 (e2.Op==13) true (beq_iff_eq.2 hc7)<|wt ?_
  have hS60:=((((((hS.b 6).b 6).b 6).b 6).b 6).b 6).b 6
  obtain rfl:=si h
  exact we_skip fun a hF=>hQ _ _ _ (Outs.again ⟨hS60,hF.weaken ea⟩)
 rw [if_neg hc7] at h
 refine wk 61 (e2.Op==13) false (beq_eq_false_iff_ne.2 hc7)<|wf<|wr [(0,0),(1,0)]<|gb0 [0,1] [(61,.bool (e2.Op==16)),(63,.bool (e2.Op==16))] ?_
 have hS67:=((((((hS.b 6).b 6).b 6).b 6).b 6).b 6).b 6
 obtain rfl:=si h
 exact ge_nil fun a hF=>hQ _ _ _ (Outs.again ⟨hS67,hF.weaken ea⟩)
abbrev punctualref_ReadImage.A4 (w0:World) (l0:List SIns) (A0:OA) (c0 b1 b2 b4 b5 i2:Nat) (m1:List Int) (m2:List Sregion) (e2:SIns) (b6:Nat) (Z1:OA) (cz1:Nat) (Z2:OA) (cz2:Nat) (z2:Int):Bool→Act→World→Prop:=fun (s:Bool) a w=>St w0 w [bk b6 #[vI e2.Op,vI e2.A,vI e2.B] 29,bk b5 #[(.slice Z1 m1.length cz1)] 37,bk b4 #[.slice A0 l0.length c0,(.slice Z2 m2.length cz2)] 70,bk b2 #[vI 0,vI 0] 25,bk b1 #[.slice A0 l0.length c0] 22,ro Z1 cz1 3 m1,ro Z2 cz2 74 m2]∧Frm 230 a [(1,pP b1 0),(3,pP b2 0),(7,pP b4 0),(8,pP b5 0),(9,vI (i2:Int)),(10,pP b6 0),(11,vI z2),(12,.func (.func 32) #[] #[pP b5 0,pP b1 0,pP b6 0]),(42,.slice A0 l0.length c0),(43,vI (l0.length:Int)),(44,vI (i2:Int)),(60,vI e2.Op),(79,.bool s)]
abbrev punctualref_ReadImage.B4 (w0:World) (l0:List SIns) (A0:OA) (c0:Nat):((Option PImage)×SFault)→Exit→Act→World→Prop:=Rets Tryd.prog Tryd.f11 (punctualref_ReadImage.Post w0 l0 A0 c0)
theorem punctualref_ReadImage_p4 (K:Nat) (w0:World) (l0:List SIns) (A0:OA) (c0:Nat) (hR0:RdL w0 A0 l0) (hL0:l0.length≤c0) (b1 b2:Nat) (hc1:¬ ((l0.length:Int) > 2000)) (b4 b5 i2:Nat) (m1:List Int) (m2:List Sregion) (hc4:(i2:Int)<(l0.length:Int)) (e2:SIns) (hx7:l0[i2]?=some e2) (b6:Nat) (Z1:OA) (cz1:Nat) (Z2:OA) (cz2:Nat) (z2:Int) (q2:Bool) (hc8:¬ (q2=true)) (o:Bool ⊕ ((Option PImage)×SFault)) (h:punctualref_ReadImage.p4 e2=some o) (w:World) (hS:St w0 w [bk b6 #[vI e2.Op,vI e2.A,vI e2.B] 29,bk b5 #[(.slice Z1 m1.length cz1)] 37,bk b4 #[.slice A0 l0.length c0,(.slice Z2 m2.length cz2)] 70,bk b2 #[vI 0,vI 0] 25,bk b1 #[.slice A0 l0.length c0] 22,ro Z1 cz1 3 m1,ro Z2 cz2 74 m2]) (Q:Exit→Act→World→Prop) (hQ:∀ x a w,Outs (punctualref_ReadImage.A4 w0 l0 A0 c0 b1 b2 b4 b5 i2 m1 m2 e2 b6 Z1 cz1 Z2 cz2 z2) (punctualref_ReadImage.B4 w0 l0 A0 c0) o x a w→Q x a w):WE Tryd.prog 230 (subF Tryd.f11 [1,1,1,1,1,0,1,0,0,1,1,0,0,1,1,1,1,1,0,1,1,0]) Q [(1,pP b1 0),(3,pP b2 0),(7,pP b4 0),(8,pP b5 0),(9,vI (i2:Int)),(10,pP b6 0),(11,vI z2),(12,.func (.func 32) #[] #[pP b5 0,pP b1 0,pP b6 0]),(42,.slice A0 l0.length c0),(43,vI (l0.length:Int)),(44,vI (i2:Int)),(60,vI e2.Op),(61,.bool false)] w:=by
 simp only [punctualref_ReadImage.p4] at h
 refine ws fun K33 hK33=>wr [(0,0),(1,0)]<|gb0 [0,1] [(79,.bool (e2.Op==14)),(80,.bool (e2.Op==14))]<|gn hK33 ?_
 by_cases hc11:e2.Op=14
 ·rw [if_pos hc11] at h
  refine wk 79 (e2.Op==14) true (beq_iff_eq.2 hc11)<|wt ?_
  have hS100:=((((((hS.b 6).b 6).b 6).b 6).b 6).b 6).b 6
  obtain rfl:=si h
  exact we_skip fun a hF=>hQ _ _ _ (Outs.again ⟨hS100,hF.weaken ea⟩)
 rw [if_neg hc11] at h
 refine wk 79 (e2.Op==14) false (beq_eq_false_iff_ne.2 hc11)<|wf<|wr [(0,0),(1,0)]<|gb0 [0,1] [(79,.bool (e2.Op==17)),(81,.bool (e2.Op==17))] ?_
 have hS107:=((((((hS.b 6).b 6).b 6).b 6).b 6).b 6).b 6
 obtain rfl:=si h
 exact ge_nil fun a hF=>hQ _ _ _ (Outs.again ⟨hS107,hF.weaken ea⟩)
abbrev punctualref_ReadImage.A5 (w0:World) (l0:List SIns) (A0:OA) (c0 b1 b2 b4 b5 i2:Nat) (m1:List Int) (m2:List Sregion) (Z1:OA) (cz1:Nat) (Z2:OA) (cz2:Nat) (z2:Int):Unit→Act→World→Prop:=fun (s:Unit) a w=>St w0 w [bk b5 #[(.slice Z1 m1.length cz1)] 37,bk b4 #[.slice A0 l0.length c0,(.slice Z2 m2.length cz2)] 70,bk b2 #[vI 0,vI 0] 25,bk b1 #[.slice A0 l0.length c0] 22,ro Z1 cz1 3 m1,ro Z2 cz2 74 m2]∧Frm 230 a [(1,pP b1 0),(3,pP b2 0),(7,pP b4 0),(8,pP b5 0),(9,vI (i2:Int)),(11,vI z2),(42,.slice A0 l0.length c0),(43,vI (l0.length:Int)),(44,vI (i2:Int))]
abbrev punctualref_ReadImage.B5 (w0:World) (l0:List SIns) (A0:OA) (c0:Nat):((Option PImage)×SFault)→Exit→Act→World→Prop:=Rets Tryd.prog Tryd.f11 (punctualref_ReadImage.Post w0 l0 A0 c0)
theorem punctualref_ReadImage_p5 (K:Nat) (w0:World) (l0:List SIns) (A0:OA) (c0:Nat) (hR0:RdL w0 A0 l0) (hL0:l0.length≤c0) (b1 b2:Nat) (hc1:¬ ((l0.length:Int) > 2000)) (b4 b5 i2:Nat) (m1:List Int) (m2:List Sregion) (hc4:(i2:Int)<(l0.length:Int)) (e2:SIns) (hx7:l0[i2]?=some e2) (b6:Nat) (Z1:OA) (cz1:Nat) (Z2:OA) (cz2:Nat) (z2:Int) (q2:Bool) (hc8:¬ (q2=true)) (q4:Bool) (hc12:q4=true) (o:Unit ⊕ ((Option PImage)×SFault)) (h:punctualref_ReadImage.p5 l0 i2 e2 z2=some o) (w:World) (hS:St w0 w [bk b6 #[vI e2.Op,vI e2.A,vI e2.B] 29,bk b5 #[(.slice Z1 m1.length cz1)] 37,bk b4 #[.slice A0 l0.length c0,(.slice Z2 m2.length cz2)] 70,bk b2 #[vI 0,vI 0] 25,bk b1 #[.slice A0 l0.length c0] 22,ro Z1 cz1 3 m1,ro Z2 cz2 74 m2]) (Q:Exit→Act→World→Prop) (hQ:∀ x a w,Outs (punctualref_ReadImage.A5 w0 l0 A0 c0 b1 b2 b4 b5 i2 m1 m2 Z1 cz1 Z2 cz2 z2) (punctualref_ReadImage.B5 w0 l0 A0 c0) o x a w→Q x a w):WE Tryd.prog 230 (subF Tryd.f11 [1,1,1,1,1,0,1,0,0,1,1,0,0,1,1,1,1,1,0,1,1,1,0,0]) Q [(1,pP b1 0),(3,pP b2 0),(7,pP b4 0),(8,pP b5 0),(9,vI (i2:Int)),(10,pP b6 0),(11,vI z2),(12,.func (.func 32) #[] #[pP b5 0,pP b1 0,pP b6 0]),(42,.slice A0 l0.length c0),(43,vI (l0.length:Int)),(44,vI (i2:Int)),(60,vI e2.Op),(79,.bool true)] w:=by
 simp only [punctualref_ReadImage.p5] at h
 refine ws fun K35 hK35=>we_orders3 (by kernel_rfl) [(3,[⟨b1,0,none⟩],[],[]),(7,[⟨blkOf A0,offOf A0+((z2).toNat)*3,none⟩],[],[]),(13,[⟨b6,0,none⟩],[],[]),(18,[⟨b1,0,none⟩],[],[17,16,15,14,11,10,9,8]),(22,[⟨blkOf A0,offOf A0+((z2).toNat)*3+1,none⟩],[],[21,20,19,18,17,16,15,14,11,10,9,8]),(24,[⟨b6,1,none⟩],[],[23,17,16,15,14,11,10,9,8]),(29,[⟨b6,0,none⟩],[],[28,27,26,25,24,23,22,21,20,19,18,17,16,15,14,11,10,9,8]),(33,[⟨b6,2,none⟩],[],[32,31,30,29,28,27,26,25,24,23,22,21,20,19,18,17,16,15,14,11,10,9,8])] (.vals [0] (.vals [1] (.vals [2] (.vals [3] (.vals [4] (.vals [5] (.vals [6] (.vals [7] (.vals [12] (.vals [13] (.alt 8 1 (.alt 9 2 (.alt 10 2 (.vals [11] (.alt 14 1 (.vals [15] (.vals [16] (.vals [17] (.vals [18] (.vals [19] (.vals [20] (.vals [21] (.vals [22] (.vals [23] (.vals [24] (.vals [25] (.vals [26] (.vals [27] (.vals [28] (.vals [29] (.vals [30] (.vals [31] (.vals [32] (.vals [33] (.vals [34] (.vals [35] (.vals [36] (.vals [37] (.vals [38] .fin)))))))))))))))))))))))) .nomore)) .nomore) (.alt 10 2 (.alt 9 2 (.vals [11] (.alt 14 1 (.vals [15] (.vals [16] (.vals [17] (.vals [18] (.vals [19] (.vals [20] (.vals [21] (.vals [22] (.vals [23] (.vals [24] (.vals [25] (.vals [26] (.vals [27] (.vals [28] (.vals [29] (.vals [30] (.vals [31] (.vals [32] (.vals [33] (.vals [34] (.vals [35] (.vals [36] (.vals [37] (.vals [38] .fin)))))))))))))))))))))))) .nomore)) .nomore) .nomore)) .nomore))))))))))) (by kernel_rfl) (by kernel_rfl) ?_
 have hS109:=hS.drew
 refine g30 [0,1,2] [(84,.bool (decide (z2<0))),(83,.bool (decide (z2<0))),(82,vI z2)] ?_
 by_cases hc13:z2<0
 ·rw [if_pos hc13] at h
  refine go3_known (t:=84) (b:=decide (z2<0)) (c:=true) (by kernel_rfl) (decide_eq_true hc13) ?_
  refine g30 [3,4,5,6,7,12,13] [(93,undef),(92,undef),(89,undef),(88,undef),(87,undef),(86,undef),(85,undef)]<|go_alt3 (fun KK hKK=>?_) ?_
  ·refine ge_one2<|ge_off rfl rfl rfl (by kernel_rfl) ?_
   refine ge_nil fun a hF=>hKK _ _ (RS.refl _ _) ?_ a hF
   refine go_alt3 (fun KK hKK=>?_) ?_
   ·refine ge_offN rfl rfl (by kernel_rfl) ?_
    refine ge_nil fun a hF=>hKK _ _ (RS.refl _ _) ?_ a hF
    refine go_alt3 (fun KK hKK=>?_) ?_
    ·refine ge_offN rfl rfl (by kernel_rfl) ?_
     refine ge_nil fun a hF=>hKK _ _ (RS.refl _ _) ?_ a hF
     refine g30 [11] [(91,undef)]<|go_alt3 (fun KK hKK=>?_) ?_
     ·refine ge_off rfl rfl rfl (by kernel_rfl) ?_
      refine ge_nil fun a hF=>hKK _ _ (RS.refl _ _) ?_ a hF
      refine g30 [15,16,17,18,19,20,21,22,23,24,25,26,27,28,29,30,31,32,33,34,35,36,37,38] [(118,.bool true),(117,undef),(116,undef),(115,undef),(114,undef),(113,undef),(112,undef),(111,undef),(110,undef),(109,undef),(108,undef),(107,.bool true),(106,.bool true),(105,undef),(104,undef),(103,undef),(102,undef),(101,undef),(100,undef),(99,undef),(98,undef),(97,.bool true),(96,.bool true),(95,undef)]<|go_fin3 fun a hF=>hK35 _ _ ?_ a hF
      refine wt<|ws fun K36 hK36=>wr [(0,1),(1,2),(2,2),(3,0),(4,0),(5,0),(6,0),(7,0),(8,1),(9,0),(10,2)]<|gw (some 119) (.map #[] 0) (fun b=>.map (some b)) hS109 fun b9 w27 hx12 hS110=>?_
      have hS111:=hS110.newMap (κ:=Int) (ν:=Int)
      refine ge_mapSet (κ:=Int) (ν:=Int) (b:=b9) (ins:=true) (mm:=0) (t:=72) (kt:=3) (et:=23) (x:=(.tmp 119)) (y:=(.const (vI 14))) (u:=(.const (vI 9))) (ty:=0) (m:=([]:List (Int×Int))) (k:=14) (v:=9) (vv:=vI 9) (by kernel_rfl) (by kernel_rfl) (by kernel_rfl) (by kernel_rfl) rfl (by kernel_rfl) (by kernel_rfl) hS111 fun w28 hS112=>?_
      refine ge_mapSet (κ:=Int) (ν:=Int) (b:=b9) (ins:=true) (mm:=0) (t:=72) (kt:=3) (et:=23) (x:=(.tmp 119)) (y:=(.const (vI 17))) (u:=(.const (vI 10))) (ty:=0) (m:=(mset ([]:List (Int×Int)) 14 9)) (k:=17) (v:=10) (vv:=vI 10) (by kernel_rfl) (by kernel_rfl) (by kernel_rfl) (by kernel_rfl) rfl (by kernel_rfl) (by kernel_rfl) hS112 fun w29 hS113=>?_
      refine gb [3,4,5] [(122,vI e2.Op),(121,pP b6 0),(120,.map (some b9))] [ld b6 0 (vI e2.Op)] ⟨hS113.c 1,trivial⟩<|ge_lookup (κ:=Int) (ν:=Int) (d:=123) (b:=b9) (q:=0) (t:=72) (kt:=3) (et:=23) (x:=(.tmp 120)) (y:=(.tmp 122)) (ty:=23) (m:=(mset (mset ([]:List (Int×Int)) 14 9) 17 10)) (k:=e2.Op) (z:=0) (v:=((mget (mset (mset ([]:List (Int×Int)) 14 9) 17 10) e2.Op).getD 0)) (zv:=vI 0) (vv:=vI ((mget (mset (mset ([]:List (Int×Int)) 14 9) 17 10) e2.Op).getD 0)) (by kernel_rfl) (by kernel_rfl) (by kernel_rfl) (by kernel_rfl) (by kernel_rfl) (fun w'=>by kernel_rfl) rfl hS113 rfl rfl rfl ?_
      refine gb0 [7] [(124,vI (i2:Int))]<|ge_call (d:=some 125) (f:=9) (args:=#[vI ((mget (mset (mset ([]:List (Int×Int)) 14 9) 17 10) e2.Op).getD 0),vI (i2:Int)]) (by kernel_rfl) (punctualref_F_ok ((mget (mset (mset ([]:List (Int×Int)) 14 9) 17 10) e2.Op).getD 0) (i2:Int) _ _ rfl) ?_
      rintro _ w30 ⟨rfl,hS114⟩
      refine ⟨_,rfl,hS114.below,?_⟩
      have hS115:=hS113.call hS114
      refine gb0 [9] [(2,.pointer none)] ?_
      have hS116:=hS115.b 4
      refine gs b2 0 #[vI 0,vI 0] 25 [vI ((punctualref_F.f ((mget (mset (mset ([]:List (Int×Int)) 14 9) 17 10) e2.Op).getD 0) (i2:Int)).Code),vI ((punctualref_F.f ((mget (mset (mset ([]:List (Int×Int)) 14 9) 17 10) e2.Op).getD 0) (i2:Int)).At)] hS116 fun w31 hS117=>?_
      have hS118:=hS117.nc #[vI ((punctualref_F.f ((mget (mset (mset ([]:List (Int×Int)) 14 9) 17 10) e2.Op).getD 0) (i2:Int)).Code),vI ((punctualref_F.f ((mget (mset (mset ([]:List (Int×Int)) 14 9) 17 10) e2.Op).getD 0) (i2:Int)).At)] rfl
      refine gn hK36 ?_
      have hS119:=hS118.takeN 0
      obtain rfl:=si h
      exact rq hQ fun a hF=>⟨rfl,(pr [.tmp 2,.cell 3 25] [.pointer none,.agg #[vI ((punctualref_F.f ((mget (mset (mset ([]:List (Int×Int)) 14 9) 17 10) e2.Op).getD 0) (i2:Int)).Code),vI ((punctualref_F.f ((mget (mset (mset ([]:List (Int×Int)) 14 9) 17 10) e2.Op).getD 0) (i2:Int)).At)]] [ld b2 0 (vI ((punctualref_F.f ((mget (mset (mset ([]:List (Int×Int)) 14 9) 17 10) e2.Op).getD 0) (i2:Int)).Code)),ld b2 1 (vI ((punctualref_F.f ((mget (mset (mset ([]:List (Int×Int)) 14 9) 17 10) e2.Op).getD 0) (i2:Int)).At))] ⟨hS118.c 0,hS118.c 0,trivial⟩ ⟨rfl,hS119⟩) a hF⟩
     exact go_nomore3
    exact go_nomore3
   refine go_alt3 (fun KK hKK=>?_) ?_
   ·refine ge_offN rfl rfl (by kernel_rfl) ?_
    refine ge_nil fun a hF=>hKK _ _ (RS.refl _ _) ?_ a hF
    refine go_alt3 (fun KK hKK=>?_) ?_
    ·refine ge_offN rfl rfl (by kernel_rfl) ?_
     refine ge_nil fun a hF=>hKK _ _ (RS.refl _ _) ?_ a hF
     refine g30 [11] [(91,undef)]<|go_alt3 (fun KK hKK=>?_) ?_
     ·refine ge_off rfl rfl rfl (by kernel_rfl) ?_
      refine ge_nil fun a hF=>hKK _ _ (RS.refl _ _) ?_ a hF
      refine g30 [15,16,17,18,19,20,21,22,23,24,25,26,27,28,29,30,31,32,33,34,35,36,37,38] [(118,.bool true),(117,undef),(116,undef),(115,undef),(114,undef),(113,undef),(112,undef),(111,undef),(110,undef),(109,undef),(108,undef),(107,.bool true),(106,.bool true),(105,undef),(104,undef),(103,undef),(102,undef),(101,undef),(100,undef),(99,undef),(98,undef),(97,.bool true),(96,.bool true),(95,undef)]<|go_fin3 fun a hF=>hK35 _ _ ?_ a hF
      refine wt<|ws fun K36 hK36=>wr [(0,1),(1,2),(2,2),(3,0),(4,0),(5,0),(6,0),(7,0),(8,1),(9,0),(10,2)]<|gw (some 119) (.map #[] 0) (fun b=>.map (some b)) hS109 fun b9 w27 hx12 hS110=>?_
      have hS111:=hS110.newMap (κ:=Int) (ν:=Int)
      refine ge_mapSet (κ:=Int) (ν:=Int) (b:=b9) (ins:=true) (mm:=0) (t:=72) (kt:=3) (et:=23) (x:=(.tmp 119)) (y:=(.const (vI 14))) (u:=(.const (vI 9))) (ty:=0) (m:=([]:List (Int×Int))) (k:=14) (v:=9) (vv:=vI 9) (by kernel_rfl) (by kernel_rfl) (by kernel_rfl) (by kernel_rfl) rfl (by kernel_rfl) (by kernel_rfl) hS111 fun w28 hS112=>?_
      refine ge_mapSet (κ:=Int) (ν:=Int) (b:=b9) (ins:=true) (mm:=0) (t:=72) (kt:=3) (et:=23) (x:=(.tmp 119)) (y:=(.const (vI 17))) (u:=(.const (vI 10))) (ty:=0) (m:=(mset ([]:List (Int×Int)) 14 9)) (k:=17) (v:=10) (vv:=vI 10) (by kernel_rfl) (by kernel_rfl) (by kernel_rfl) (by kernel_rfl) rfl (by kernel_rfl) (by kernel_rfl) hS112 fun w29 hS113=>?_
      refine gb [3,4,5] [(122,vI e2.Op),(121,pP b6 0),(120,.map (some b9))] [ld b6 0 (vI e2.Op)] ⟨hS113.c 1,trivial⟩<|ge_lookup (κ:=Int) (ν:=Int) (d:=123) (b:=b9) (q:=0) (t:=72) (kt:=3) (et:=23) (x:=(.tmp 120)) (y:=(.tmp 122)) (ty:=23) (m:=(mset (mset ([]:List (Int×Int)) 14 9) 17 10)) (k:=e2.Op) (z:=0) (v:=((mget (mset (mset ([]:List (Int×Int)) 14 9) 17 10) e2.Op).getD 0)) (zv:=vI 0) (vv:=vI ((mget (mset (mset ([]:List (Int×Int)) 14 9) 17 10) e2.Op).getD 0)) (by kernel_rfl) (by kernel_rfl) (by kernel_rfl) (by kernel_rfl) (by kernel_rfl) (fun w'=>by kernel_rfl) rfl hS113 rfl rfl rfl ?_
      refine gb0 [7] [(124,vI (i2:Int))]<|ge_call (d:=some 125) (f:=9) (args:=#[vI ((mget (mset (mset ([]:List (Int×Int)) 14 9) 17 10) e2.Op).getD 0),vI (i2:Int)]) (by kernel_rfl) (punctualref_F_ok ((mget (mset (mset ([]:List (Int×Int)) 14 9) 17 10) e2.Op).getD 0) (i2:Int) _ _ rfl) ?_
      rintro _ w30 ⟨rfl,hS114⟩
      refine ⟨_,rfl,hS114.below,?_⟩
      have hS115:=hS113.call hS114
      refine gb0 [9] [(2,.pointer none)] ?_
      have hS116:=hS115.b 4
      refine gs b2 0 #[vI 0,vI 0] 25 [vI ((punctualref_F.f ((mget (mset (mset ([]:List (Int×Int)) 14 9) 17 10) e2.Op).getD 0) (i2:Int)).Code),vI ((punctualref_F.f ((mget (mset (mset ([]:List (Int×Int)) 14 9) 17 10) e2.Op).getD 0) (i2:Int)).At)] hS116 fun w31 hS117=>?_
      have hS118:=hS117.nc #[vI ((punctualref_F.f ((mget (mset (mset ([]:List (Int×Int)) 14 9) 17 10) e2.Op).getD 0) (i2:Int)).Code),vI ((punctualref_F.f ((mget (mset (mset ([]:List (Int×Int)) 14 9) 17 10) e2.Op).getD 0) (i2:Int)).At)] rfl
      refine gn hK36 ?_
      have hS119:=hS118.takeN 0
      obtain rfl:=si h
      exact rq hQ fun a hF=>⟨rfl,(pr [.tmp 2,.cell 3 25] [.pointer none,.agg #[vI ((punctualref_F.f ((mget (mset (mset ([]:List (Int×Int)) 14 9) 17 10) e2.Op).getD 0) (i2:Int)).Code),vI ((punctualref_F.f ((mget (mset (mset ([]:List (Int×Int)) 14 9) 17 10) e2.Op).getD 0) (i2:Int)).At)]] [ld b2 0 (vI ((punctualref_F.f ((mget (mset (mset ([]:List (Int×Int)) 14 9) 17 10) e2.Op).getD 0) (i2:Int)).Code)),ld b2 1 (vI ((punctualref_F.f ((mget (mset (mset ([]:List (Int×Int)) 14 9) 17 10) e2.Op).getD 0) (i2:Int)).At))] ⟨hS118.c 0,hS118.c 0,trivial⟩ ⟨rfl,hS119⟩) a hF⟩
     exact go_nomore3
    exact go_nomore3
   exact go_nomore3
  exact go_nomore3
 rw [if_neg hc13] at h
 refine go3_known (t:=84) (b:=decide (z2<0)) (c:=false) (by kernel_rfl) (decide_eq_false hc13) ?_
 refine g3 3 [(85,.slice A0 l0.length c0)] [ld b1 0 (.slice A0 l0.length c0)] ⟨hS109.c 4,trivial⟩<|g30 [4] [(86,vI z2)] ?_
 by_cases hc14:0≤z2
 ·rw [if_pos hc14] at h
  rcases hx13:l0[(z2).toNat]? with _ | e4
  ·rw [hx13] at h; cases h
  rw [hx13] at h
  simp only [] at h
  refine go3_index (d:=87) (ty:=0) (t:=22) (el:=29) (sz:=3) (m:=l0.length) (c:=c0) (x:=(.tmp 85)) (y:=(.tmp 86)) (A:=A0) (k':=.i64) (j:=z2) (jn:=((z2).toNat)) (b0:=blkOf A0) (o0:=offOf A0) (by kernel_rfl) (by kernel_rfl) (by kernel_rfl) (by kernel_rfl) (by kernel_rfl) ((hS109.rd hR0).eqSome (pos_of_get hx13)) (Int.toNat_of_nonneg hc14).symm (lt_of_get hx13) ?_
  refine g30 [6] [(88,.pointer (some ⟨blkOf A0,offOf A0+(z2).toNat*3,none⟩))]<|g3 7 [(89,vI e4.Op)] [.loaded ⟨blkOf A0,offOf A0+((z2).toNat)*3,none⟩ (vI e4.Op)] ⟨RdL.cell (j:=0) (hS109.rd hR0) hx13 rfl,trivial⟩<|g30 [12] [(92,pP b6 0)]<|g3 13 [(93,vI e2.Op)] [ld b6 0 (vI e2.Op)] ⟨hS109.c 0,trivial⟩<|go_alt3 (fun KK hKK=>?_) ?_
  ·refine ge_one2<|gw (some 90) (.map #[] 0) (fun b=>.map (some b)) hS109 fun b10 w32 hx14 hS120=>?_
   have hS121:=hS120.newMap (κ:=Int) (ν:=Int)
   refine ge_nil fun a hF=>hKK _ _ (RS.of2 (l:=[ld b1 0 (.slice A0 l0.length c0),.loaded ⟨blkOf A0,offOf A0+((z2).toNat)*3,none⟩ (vI e4.Op),ld b6 0 (vI e2.Op)]) (by kernel_rfl) ⟨hS109.c 4,RdL.cell (j:=0) (hS109.rd hR0) hx13 rfl,hS109.c 0,trivial⟩ ⟨hS121.c 5,RdL.cell (j:=0) (hS121.rd hR0) hx13 rfl,hS121.c 1,trivial⟩) ?_ a hF
   refine go_alt3 (fun KK hKK=>?_) ?_
   ·refine ge_mapSet (κ:=Int) (ν:=Int) (b:=b10) (ins:=true) (mm:=0) (t:=62) (kt:=3) (et:=3) (x:=(.tmp 90)) (y:=(.const (vI 14))) (u:=(.const (vI 13))) (ty:=0) (m:=([]:List (Int×Int))) (k:=14) (v:=13) (vv:=vI 13) (by kernel_rfl) (by kernel_rfl) (by kernel_rfl) (by kernel_rfl) rfl (by kernel_rfl) (by kernel_rfl) hS121 fun w33 hS122=>?_
    refine ge_nil fun a hF=>hKK _ _ (RS.of2 (l:=[ld b1 0 (.slice A0 l0.length c0),.loaded ⟨blkOf A0,offOf A0+((z2).toNat)*3,none⟩ (vI e4.Op),ld b6 0 (vI e2.Op)]) (by kernel_rfl) ⟨hS121.c 5,RdL.cell (j:=0) (hS121.rd hR0) hx13 rfl,hS121.c 1,trivial⟩ ⟨hS122.c 5,RdL.cell (j:=0) (hS122.rd hR0) hx13 rfl,hS122.c 1,trivial⟩) ?_ a hF
    refine go_alt3 (fun KK hKK=>?_) ?_
    ·refine ge_mapSet (κ:=Int) (ν:=Int) (b:=b10) (ins:=true) (mm:=0) (t:=62) (kt:=3) (et:=3) (x:=(.tmp 90)) (y:=(.const (vI 17))) (u:=(.const (vI 16))) (ty:=0) (m:=(mset ([]:List (Int×Int)) 14 13)) (k:=17) (v:=16) (vv:=vI 16) (by kernel_rfl) (by kernel_rfl) (by kernel_rfl) (by kernel_rfl) rfl (by kernel_rfl) (by kernel_rfl) hS122 fun w34 hS123=>?_
     have hS124:=hS123.toE (m:=(mset (mset ([]:List (Int×Int)) 14 13) 17 16)) (fun k=>by simp only [mget_mset]; (repeat' split); all_goals first | rfl | omega)
     refine ge_nil fun a hF=>hKK _ _ (RS.of2 (l:=[ld b1 0 (.slice A0 l0.length c0),.loaded ⟨blkOf A0,offOf A0+((z2).toNat)*3,none⟩ (vI e4.Op),ld b6 0 (vI e2.Op)]) (by kernel_rfl) ⟨hS122.c 5,RdL.cell (j:=0) (hS122.rd hR0) hx13 rfl,hS122.c 1,trivial⟩ ⟨hS124.c 5,RdL.cell (j:=0) (hS124.rd hR0) hx13 rfl,hS124.c 1,trivial⟩) ?_ a hF
     refine g30 [11] [(91,.map (some b10))]<|go_alt3 (fun KK hKK=>?_) ?_
     ·refine ge_val2 ?_
      refine ge_lookupE (κ:=Int) (ν:=Int) (d:=94) (b:=b10) (q:=0) (t:=62) (kt:=3) (et:=3) (x:=(.tmp 91)) (y:=(.tmp 93)) (ty:=3) (m:=(mset (mset ([]:List (Int×Int)) 14 13) 17 16)) (k:=e2.Op) (z:=0) (v:=((mget (mset (mset ([]:List (Int×Int)) 14 13) 17 16) e2.Op).getD 0)) (zv:=vI 0) (vv:=vI ((mget (mset (mset ([]:List (Int×Int)) 14 13) 17 16) e2.Op).getD 0)) (by kernel_rfl) (by kernel_rfl) (by kernel_rfl) (by kernel_rfl) (by kernel_rfl) (fun w'=>by kernel_rfl) rfl hS124 rfl rfl rfl ?_
      refine ge_nil fun a hF=>hKK _ _ (RS.refl _ _) ?_ a hF
      refine g30 [15,16,17] [(97,.bool (e4.Op != ((mget (mset (mset ([]:List (Int×Int)) 14 13) 17 16) e2.Op).getD 0))),(96,.bool (e4.Op != ((mget (mset (mset ([]:List (Int×Int)) 14 13) 17 16) e2.Op).getD 0))),(95,.bool (e4.Op != ((mget (mset (mset ([]:List (Int×Int)) 14 13) 17 16) e2.Op).getD 0)))] ?_
      by_cases hc15:e4.Op=((mget (mset (mset ([]:List (Int×Int)) 14 13) 17 16) e2.Op).getD 0)
      ·rw [if_pos hc15] at h
       refine go3_known (t:=97) (b:=(e4.Op != ((mget (mset (mset ([]:List (Int×Int)) 14 13) 17 16) e2.Op).getD 0))) (c:=false) (by kernel_rfl) (bne_eq_false_iff_eq.2 hc15) ?_
       refine g3 18 [(98,.slice A0 l0.length c0)] [ld b1 0 (.slice A0 l0.length c0)] ⟨hS124.c 5,trivial⟩<|g30 [19] [(99,vI z2)]<|go3_index (d:=100) (ty:=0) (t:=22) (el:=29) (sz:=3) (m:=l0.length) (c:=c0) (x:=(.tmp 98)) (y:=(.tmp 99)) (A:=A0) (k':=.i64) (j:=z2) (jn:=((z2).toNat)) (b0:=blkOf A0) (o0:=offOf A0) (by kernel_rfl) (by kernel_rfl) (by kernel_rfl) (by kernel_rfl) (by kernel_rfl) ((hS124.rd hR0).eqSome (pos_of_get hx13)) (Int.toNat_of_nonneg hc14).symm (lt_of_get hx13) ?_
       refine g30 [21] [(101,.pointer (some ⟨blkOf A0,offOf A0+(z2).toNat*3+1,none⟩))]<|g3 22 [(102,vI e4.A)] [.loaded ⟨blkOf A0,offOf A0+((z2).toNat)*3+1,none⟩ (vI e4.A)] ⟨RdL.cell (j:=1) (hS124.rd hR0) hx13 rfl,trivial⟩<|g30 [23] [(103,pP b6 1)]<|g3 24 [(104,vI e2.A)] [ld b6 1 (vI e2.A)] ⟨hS124.c 1,trivial⟩<|g30 [25,26,27] [(107,.bool (e4.A != e2.A)),(106,.bool (e4.A != e2.A)),(105,.bool (e4.A != e2.A))] ?_
       by_cases hc16:e4.A=e2.A
       ·rw [if_pos hc16] at h
        refine go3_known (t:=107) (b:=(e4.A != e2.A)) (c:=false) (by kernel_rfl) (bne_eq_false_iff_eq.2 hc16) ?_
        refine g30 [28] [(108,pP b6 0)]<|g3 29 [(109,vI e2.Op)] [ld b6 0 (vI e2.Op)] ⟨hS124.c 1,trivial⟩<|g30 [30,31] [(111,.bool (e2.Op==14)),(110,.bool (e2.Op==14))] ?_
        by_cases hc17:e2.Op=14
        ·rw [if_pos hc17] at h
         refine go3_known (t:=111) (b:=(e2.Op==14)) (c:=true) (by kernel_rfl) (beq_iff_eq.2 hc17) ?_
         refine g30 [32] [(112,pP b6 2)]<|g3 33 [(113,vI e2.B)] [ld b6 2 (vI e2.B)] ⟨hS124.c 1,trivial⟩<|g30 [34,35,36,37,38] [(118,.bool (e2.B != (IntKind.i64.wrap (z2+1)))),(117,.bool (e2.B != (IntKind.i64.wrap (z2+1)))),(116,.bool (e2.B != (IntKind.i64.wrap (z2+1)))),(115,vI (IntKind.i64.wrap (z2+1))),(114,vI z2)]<|go_fin3 fun a hF=>hK35 _ _ ?_ a hF
         by_cases hc18:e2.B=(IntKind.i64.wrap (z2+1))
         ·rw [if_pos hc18] at h
          refine wk 118 (e2.B != (IntKind.i64.wrap (z2+1))) false (bne_eq_false_iff_eq.2 hc18)<|wf ?_
          have hS131:=hS124.p [2,3,4,5,6,7] rfl
          obtain rfl:=si h
          exact we_skip fun a hF=>hQ _ _ _ (Outs.again ⟨hS131,hF.weaken ea⟩)
         rw [if_neg hc18] at h
         refine wk 118 (e2.B != (IntKind.i64.wrap (z2+1))) true (bne_iff_ne.2 hc18)<|wt<|ws fun K37 hK37=>wr [(0,1),(1,2),(2,2),(3,0),(4,0),(5,0),(6,0),(7,0),(8,1),(9,0),(10,2)]<|gw (some 119) (.map #[] 0) (fun b=>.map (some b)) hS124 fun b11 w35 hx15 hS132=>?_
         have hS133:=hS132.newMap (κ:=Int) (ν:=Int)
         refine ge_mapSet (κ:=Int) (ν:=Int) (b:=b11) (ins:=true) (mm:=0) (t:=72) (kt:=3) (et:=23) (x:=(.tmp 119)) (y:=(.const (vI 14))) (u:=(.const (vI 9))) (ty:=0) (m:=([]:List (Int×Int))) (k:=14) (v:=9) (vv:=vI 9) (by kernel_rfl) (by kernel_rfl) (by kernel_rfl) (by kernel_rfl) rfl (by kernel_rfl) (by kernel_rfl) hS133 fun w36 hS134=>?_
         refine ge_mapSet (κ:=Int) (ν:=Int) (b:=b11) (ins:=true) (mm:=0) (t:=72) (kt:=3) (et:=23) (x:=(.tmp 119)) (y:=(.const (vI 17))) (u:=(.const (vI 10))) (ty:=0) (m:=(mset ([]:List (Int×Int)) 14 9)) (k:=17) (v:=10) (vv:=vI 10) (by kernel_rfl) (by kernel_rfl) (by kernel_rfl) (by kernel_rfl) rfl (by kernel_rfl) (by kernel_rfl) hS134 fun w37 hS135=>?_
         refine gb [3,4,5] [(122,vI e2.Op),(121,pP b6 0),(120,.map (some b11))] [ld b6 0 (vI e2.Op)] ⟨hS135.c 2,trivial⟩<|ge_lookup (κ:=Int) (ν:=Int) (d:=123) (b:=b11) (q:=0) (t:=72) (kt:=3) (et:=23) (x:=(.tmp 120)) (y:=(.tmp 122)) (ty:=23) (m:=(mset (mset ([]:List (Int×Int)) 14 9) 17 10)) (k:=e2.Op) (z:=0) (v:=((mget (mset (mset ([]:List (Int×Int)) 14 9) 17 10) e2.Op).getD 0)) (zv:=vI 0) (vv:=vI ((mget (mset (mset ([]:List (Int×Int)) 14 9) 17 10) e2.Op).getD 0)) (by kernel_rfl) (by kernel_rfl) (by kernel_rfl) (by kernel_rfl) (by kernel_rfl) (fun w'=>by kernel_rfl) rfl hS135 rfl rfl rfl ?_
         refine gb0 [7] [(124,vI (i2:Int))]<|ge_call (d:=some 125) (f:=9) (args:=#[vI ((mget (mset (mset ([]:List (Int×Int)) 14 9) 17 10) e2.Op).getD 0),vI (i2:Int)]) (by kernel_rfl) (punctualref_F_ok ((mget (mset (mset ([]:List (Int×Int)) 14 9) 17 10) e2.Op).getD 0) (i2:Int) _ _ rfl) ?_
         rintro _ w38 ⟨rfl,hS136⟩
         refine ⟨_,rfl,hS136.below,?_⟩
         have hS137:=hS135.call hS136
         refine gb0 [9] [(2,.pointer none)] ?_
         have hS138:=hS137.b 5
         refine gs b2 0 #[vI 0,vI 0] 25 [vI ((punctualref_F.f ((mget (mset (mset ([]:List (Int×Int)) 14 9) 17 10) e2.Op).getD 0) (i2:Int)).Code),vI ((punctualref_F.f ((mget (mset (mset ([]:List (Int×Int)) 14 9) 17 10) e2.Op).getD 0) (i2:Int)).At)] hS138 fun w39 hS139=>?_
         have hS140:=hS139.nc #[vI ((punctualref_F.f ((mget (mset (mset ([]:List (Int×Int)) 14 9) 17 10) e2.Op).getD 0) (i2:Int)).Code),vI ((punctualref_F.f ((mget (mset (mset ([]:List (Int×Int)) 14 9) 17 10) e2.Op).getD 0) (i2:Int)).At)] rfl
         refine gn hK37 ?_
         have hS141:=hS140.takeN 0
         obtain rfl:=si h
         exact rq hQ fun a hF=>⟨rfl,(pr [.tmp 2,.cell 3 25] [.pointer none,.agg #[vI ((punctualref_F.f ((mget (mset (mset ([]:List (Int×Int)) 14 9) 17 10) e2.Op).getD 0) (i2:Int)).Code),vI ((punctualref_F.f ((mget (mset (mset ([]:List (Int×Int)) 14 9) 17 10) e2.Op).getD 0) (i2:Int)).At)]] [ld b2 0 (vI ((punctualref_F.f ((mget (mset (mset ([]:List (Int×Int)) 14 9) 17 10) e2.Op).getD 0) (i2:Int)).Code)),ld b2 1 (vI ((punctualref_F.f ((mget (mset (mset ([]:List (Int×Int)) 14 9) 17 10) e2.Op).getD 0) (i2:Int)).At))] ⟨hS140.c 0,hS140.c 0,trivial⟩ ⟨rfl,hS141⟩) a hF⟩
        rw [if_neg hc17] at h
        refine go3_known (t:=111) (b:=(e2.Op==14)) (c:=false) (by kernel_rfl) (beq_eq_false_iff_ne.2 hc17) ?_
        refine g30 [32,33,34,35,36,37,38] [(118,.bool false),(117,.bool false),(116,undef),(115,undef),(114,undef),(113,undef),(112,undef)]<|go_fin3 fun a hF=>hK35 _ _ ?_ a hF
        refine wf ?_
        have hS148:=hS124.p [2,3,4,5,6,7] rfl
        obtain rfl:=si h
        exact we_skip fun a hF=>hQ _ _ _ (Outs.again ⟨hS148,hF.weaken ea⟩)
       rw [if_neg hc16] at h
       refine go3_known (t:=107) (b:=(e4.A != e2.A)) (c:=true) (by kernel_rfl) (bne_iff_ne.2 hc16) ?_
       refine g30 [28,29,30,31,32,33,34,35,36,37,38] [(118,.bool true),(117,undef),(116,undef),(115,undef),(114,undef),(113,undef),(112,undef),(111,undef),(110,undef),(109,undef),(108,undef)]<|go_fin3 fun a hF=>hK35 _ _ ?_ a hF
       refine wt<|ws fun K38 hK38=>wr [(0,1),(1,2),(2,2),(3,0),(4,0),(5,0),(6,0),(7,0),(8,1),(9,0),(10,2)]<|gw (some 119) (.map #[] 0) (fun b=>.map (some b)) hS124 fun b12 w40 hx16 hS149=>?_
       have hS150:=hS149.newMap (κ:=Int) (ν:=Int)
       refine ge_mapSet (κ:=Int) (ν:=Int) (b:=b12) (ins:=true) (mm:=0) (t:=72) (kt:=3) (et:=23) (x:=(.tmp 119)) (y:=(.const (vI 14))) (u:=(.const (vI 9))) (ty:=0) (m:=([]:List (Int×Int))) (k:=14) (v:=9) (vv:=vI 9) (by kernel_rfl) (by kernel_rfl) (by kernel_rfl) (by kernel_rfl) rfl (by kernel_rfl) (by kernel_rfl) hS150 fun w41 hS151=>?_
       refine ge_mapSet (κ:=Int) (ν:=Int) (b:=b12) (ins:=true) (mm:=0) (t:=72) (kt:=3) (et:=23) (x:=(.tmp 119)) (y:=(.const (vI 17))) (u:=(.const (vI 10))) (ty:=0) (m:=(mset ([]:List (Int×Int)) 14 9)) (k:=17) (v:=10) (vv:=vI 10) (by kernel_rfl) (by kernel_rfl) (by kernel_rfl) (by kernel_rfl) rfl (by kernel_rfl) (by kernel_rfl) hS151 fun w42 hS152=>?_
       refine gb [3,4,5] [(122,vI e2.Op),(121,pP b6 0),(120,.map (some b12))] [ld b6 0 (vI e2.Op)] ⟨hS152.c 2,trivial⟩<|ge_lookup (κ:=Int) (ν:=Int) (d:=123) (b:=b12) (q:=0) (t:=72) (kt:=3) (et:=23) (x:=(.tmp 120)) (y:=(.tmp 122)) (ty:=23) (m:=(mset (mset ([]:List (Int×Int)) 14 9) 17 10)) (k:=e2.Op) (z:=0) (v:=((mget (mset (mset ([]:List (Int×Int)) 14 9) 17 10) e2.Op).getD 0)) (zv:=vI 0) (vv:=vI ((mget (mset (mset ([]:List (Int×Int)) 14 9) 17 10) e2.Op).getD 0)) (by kernel_rfl) (by kernel_rfl) (by kernel_rfl) (by kernel_rfl) (by kernel_rfl) (fun w'=>by kernel_rfl) rfl hS152 rfl rfl rfl ?_
       refine gb0 [7] [(124,vI (i2:Int))]<|ge_call (d:=some 125) (f:=9) (args:=#[vI ((mget (mset (mset ([]:List (Int×Int)) 14 9) 17 10) e2.Op).getD 0),vI (i2:Int)]) (by kernel_rfl) (punctualref_F_ok ((mget (mset (mset ([]:List (Int×Int)) 14 9) 17 10) e2.Op).getD 0) (i2:Int) _ _ rfl) ?_
       rintro _ w43 ⟨rfl,hS153⟩
       refine ⟨_,rfl,hS153.below,?_⟩
       have hS154:=hS152.call hS153
       refine gb0 [9] [(2,.pointer none)] ?_
       have hS155:=hS154.b 5
       refine gs b2 0 #[vI 0,vI 0] 25 [vI ((punctualref_F.f ((mget (mset (mset ([]:List (Int×Int)) 14 9) 17 10) e2.Op).getD 0) (i2:Int)).Code),vI ((punctualref_F.f ((mget (mset (mset ([]:List (Int×Int)) 14 9) 17 10) e2.Op).getD 0) (i2:Int)).At)] hS155 fun w44 hS156=>?_
       have hS157:=hS156.nc #[vI ((punctualref_F.f ((mget (mset (mset ([]:List (Int×Int)) 14 9) 17 10) e2.Op).getD 0) (i2:Int)).Code),vI ((punctualref_F.f ((mget (mset (mset ([]:List (Int×Int)) 14 9) 17 10) e2.Op).getD 0) (i2:Int)).At)] rfl
       refine gn hK38 ?_
       have hS158:=hS157.takeN 0
       obtain rfl:=si h
       exact rq hQ fun a hF=>⟨rfl,(pr [.tmp 2,.cell 3 25] [.pointer none,.agg #[vI ((punctualref_F.f ((mget (mset (mset ([]:List (Int×Int)) 14 9) 17 10) e2.Op).getD 0) (i2:Int)).Code),vI ((punctualref_F.f ((mget (mset (mset ([]:List (Int×Int)) 14 9) 17 10) e2.Op).getD 0) (i2:Int)).At)]] [ld b2 0 (vI ((punctualref_F.f ((mget (mset (mset ([]:List (Int×Int)) 14 9) 17 10) e2.Op).getD 0) (i2:Int)).Code)),ld b2 1 (vI ((punctualref_F.f ((mget (mset (mset ([]:List (Int×Int)) 14 9) 17 10) e2.Op).getD 0) (i2:Int)).At))] ⟨hS157.c 0,hS157.c 0,trivial⟩ ⟨rfl,hS158⟩) a hF⟩
      rw [if_neg hc15] at h
      refine go3_known (t:=97) (b:=(e4.Op != ((mget (mset (mset ([]:List (Int×Int)) 14 13) 17 16) e2.Op).getD 0))) (c:=true) (by kernel_rfl) (bne_iff_ne.2 hc15) ?_
      refine g30 [18,19,20,21,22,23,24,25,26,27,28,29,30,31,32,33,34,35,36,37,38] [(118,.bool true),(117,undef),(116,undef),(115,undef),(114,undef),(113,undef),(112,undef),(111,undef),(110,undef),(109,undef),(108,undef),(107,.bool true),(106,.bool true),(105,undef),(104,undef),(103,undef),(102,undef),(101,undef),(100,undef),(99,undef),(98,undef)]<|go_fin3 fun a hF=>hK35 _ _ ?_ a hF
      refine wt<|ws fun K39 hK39=>wr [(0,1),(1,2),(2,2),(3,0),(4,0),(5,0),(6,0),(7,0),(8,1),(9,0),(10,2)]<|gw (some 119) (.map #[] 0) (fun b=>.map (some b)) hS124 fun b13 w45 hx17 hS159=>?_
      have hS160:=hS159.newMap (κ:=Int) (ν:=Int)
      refine ge_mapSet (κ:=Int) (ν:=Int) (b:=b13) (ins:=true) (mm:=0) (t:=72) (kt:=3) (et:=23) (x:=(.tmp 119)) (y:=(.const (vI 14))) (u:=(.const (vI 9))) (ty:=0) (m:=([]:List (Int×Int))) (k:=14) (v:=9) (vv:=vI 9) (by kernel_rfl) (by kernel_rfl) (by kernel_rfl) (by kernel_rfl) rfl (by kernel_rfl) (by kernel_rfl) hS160 fun w46 hS161=>?_
      refine ge_mapSet (κ:=Int) (ν:=Int) (b:=b13) (ins:=true) (mm:=0) (t:=72) (kt:=3) (et:=23) (x:=(.tmp 119)) (y:=(.const (vI 17))) (u:=(.const (vI 10))) (ty:=0) (m:=(mset ([]:List (Int×Int)) 14 9)) (k:=17) (v:=10) (vv:=vI 10) (by kernel_rfl) (by kernel_rfl) (by kernel_rfl) (by kernel_rfl) rfl (by kernel_rfl) (by kernel_rfl) hS161 fun w47 hS162=>?_
      refine gb [3,4,5] [(122,vI e2.Op),(121,pP b6 0),(120,.map (some b13))] [ld b6 0 (vI e2.Op)] ⟨hS162.c 2,trivial⟩<|ge_lookup (κ:=Int) (ν:=Int) (d:=123) (b:=b13) (q:=0) (t:=72) (kt:=3) (et:=23) (x:=(.tmp 120)) (y:=(.tmp 122)) (ty:=23) (m:=(mset (mset ([]:List (Int×Int)) 14 9) 17 10)) (k:=e2.Op) (z:=0) (v:=((mget (mset (mset ([]:List (Int×Int)) 14 9) 17 10) e2.Op).getD 0)) (zv:=vI 0) (vv:=vI ((mget (mset (mset ([]:List (Int×Int)) 14 9) 17 10) e2.Op).getD 0)) (by kernel_rfl) (by kernel_rfl) (by kernel_rfl) (by kernel_rfl) (by kernel_rfl) (fun w'=>by kernel_rfl) rfl hS162 rfl rfl rfl ?_
      refine gb0 [7] [(124,vI (i2:Int))]<|ge_call (d:=some 125) (f:=9) (args:=#[vI ((mget (mset (mset ([]:List (Int×Int)) 14 9) 17 10) e2.Op).getD 0),vI (i2:Int)]) (by kernel_rfl) (punctualref_F_ok ((mget (mset (mset ([]:List (Int×Int)) 14 9) 17 10) e2.Op).getD 0) (i2:Int) _ _ rfl) ?_
      rintro _ w48 ⟨rfl,hS163⟩
      refine ⟨_,rfl,hS163.below,?_⟩
      have hS164:=hS162.call hS163
      refine gb0 [9] [(2,.pointer none)] ?_
      have hS165:=hS164.b 5
      refine gs b2 0 #[vI 0,vI 0] 25 [vI ((punctualref_F.f ((mget (mset (mset ([]:List (Int×Int)) 14 9) 17 10) e2.Op).getD 0) (i2:Int)).Code),vI ((punctualref_F.f ((mget (mset (mset ([]:List (Int×Int)) 14 9) 17 10) e2.Op).getD 0) (i2:Int)).At)] hS165 fun w49 hS166=>?_
      have hS167:=hS166.nc #[vI ((punctualref_F.f ((mget (mset (mset ([]:List (Int×Int)) 14 9) 17 10) e2.Op).getD 0) (i2:Int)).Code),vI ((punctualref_F.f ((mget (mset (mset ([]:List (Int×Int)) 14 9) 17 10) e2.Op).getD 0) (i2:Int)).At)] rfl
      refine gn hK39 ?_
      have hS168:=hS167.takeN 0
      obtain rfl:=si h
      exact rq hQ fun a hF=>⟨rfl,(pr [.tmp 2,.cell 3 25] [.pointer none,.agg #[vI ((punctualref_F.f ((mget (mset (mset ([]:List (Int×Int)) 14 9) 17 10) e2.Op).getD 0) (i2:Int)).Code),vI ((punctualref_F.f ((mget (mset (mset ([]:List (Int×Int)) 14 9) 17 10) e2.Op).getD 0) (i2:Int)).At)]] [ld b2 0 (vI ((punctualref_F.f ((mget (mset (mset ([]:List (Int×Int)) 14 9) 17 10) e2.Op).getD 0) (i2:Int)).Code)),ld b2 1 (vI ((punctualref_F.f ((mget (mset (mset ([]:List (Int×Int)) 14 9) 17 10) e2.Op).getD 0) (i2:Int)).At))] ⟨hS167.c 0,hS167.c 0,trivial⟩ ⟨rfl,hS168⟩) a hF⟩
     exact go_nomore3
    exact go_nomore3
   refine go_alt3 (fun KK hKK=>?_) ?_
   ·refine ge_mapSet (κ:=Int) (ν:=Int) (b:=b10) (ins:=true) (mm:=0) (t:=62) (kt:=3) (et:=3) (x:=(.tmp 90)) (y:=(.const (vI 17))) (u:=(.const (vI 16))) (ty:=0) (m:=([]:List (Int×Int))) (k:=17) (v:=16) (vv:=vI 16) (by kernel_rfl) (by kernel_rfl) (by kernel_rfl) (by kernel_rfl) rfl (by kernel_rfl) (by kernel_rfl) hS121 fun w33 hS122=>?_
    refine ge_nil fun a hF=>hKK _ _ (RS.of2 (l:=[ld b1 0 (.slice A0 l0.length c0),.loaded ⟨blkOf A0,offOf A0+((z2).toNat)*3,none⟩ (vI e4.Op),ld b6 0 (vI e2.Op)]) (by kernel_rfl) ⟨hS121.c 5,RdL.cell (j:=0) (hS121.rd hR0) hx13 rfl,hS121.c 1,trivial⟩ ⟨hS122.c 5,RdL.cell (j:=0) (hS122.rd hR0) hx13 rfl,hS122.c 1,trivial⟩) ?_ a hF
    refine go_alt3 (fun KK hKK=>?_) ?_
    ·refine ge_mapSet (κ:=Int) (ν:=Int) (b:=b10) (ins:=true) (mm:=0) (t:=62) (kt:=3) (et:=3) (x:=(.tmp 90)) (y:=(.const (vI 14))) (u:=(.const (vI 13))) (ty:=0) (m:=(mset ([]:List (Int×Int)) 17 16)) (k:=14) (v:=13) (vv:=vI 13) (by kernel_rfl) (by kernel_rfl) (by kernel_rfl) (by kernel_rfl) rfl (by kernel_rfl) (by kernel_rfl) hS122 fun w34 hS123=>?_
     have hS124:=hS123.toE (m:=(mset (mset ([]:List (Int×Int)) 14 13) 17 16)) (fun k=>by simp only [mget_mset]; (repeat' split); all_goals first | rfl | omega)
     refine ge_nil fun a hF=>hKK _ _ (RS.of2 (l:=[ld b1 0 (.slice A0 l0.length c0),.loaded ⟨blkOf A0,offOf A0+((z2).toNat)*3,none⟩ (vI e4.Op),ld b6 0 (vI e2.Op)]) (by kernel_rfl) ⟨hS122.c 5,RdL.cell (j:=0) (hS122.rd hR0) hx13 rfl,hS122.c 1,trivial⟩ ⟨hS124.c 5,RdL.cell (j:=0) (hS124.rd hR0) hx13 rfl,hS124.c 1,trivial⟩) ?_ a hF
     refine g30 [11] [(91,.map (some b10))]<|go_alt3 (fun KK hKK=>?_) ?_
     ·refine ge_val2 ?_
      refine ge_lookupE (κ:=Int) (ν:=Int) (d:=94) (b:=b10) (q:=0) (t:=62) (kt:=3) (et:=3) (x:=(.tmp 91)) (y:=(.tmp 93)) (ty:=3) (m:=(mset (mset ([]:List (Int×Int)) 14 13) 17 16)) (k:=e2.Op) (z:=0) (v:=((mget (mset (mset ([]:List (Int×Int)) 14 13) 17 16) e2.Op).getD 0)) (zv:=vI 0) (vv:=vI ((mget (mset (mset ([]:List (Int×Int)) 14 13) 17 16) e2.Op).getD 0)) (by kernel_rfl) (by kernel_rfl) (by kernel_rfl) (by kernel_rfl) (by kernel_rfl) (fun w'=>by kernel_rfl) rfl hS124 rfl rfl rfl ?_
      refine ge_nil fun a hF=>hKK _ _ (RS.refl _ _) ?_ a hF
      refine g30 [15,16,17] [(97,.bool (e4.Op != ((mget (mset (mset ([]:List (Int×Int)) 14 13) 17 16) e2.Op).getD 0))),(96,.bool (e4.Op != ((mget (mset (mset ([]:List (Int×Int)) 14 13) 17 16) e2.Op).getD 0))),(95,.bool (e4.Op != ((mget (mset (mset ([]:List (Int×Int)) 14 13) 17 16) e2.Op).getD 0)))] ?_
      by_cases hc15:e4.Op=((mget (mset (mset ([]:List (Int×Int)) 14 13) 17 16) e2.Op).getD 0)
      ·rw [if_pos hc15] at h
       refine go3_known (t:=97) (b:=(e4.Op != ((mget (mset (mset ([]:List (Int×Int)) 14 13) 17 16) e2.Op).getD 0))) (c:=false) (by kernel_rfl) (bne_eq_false_iff_eq.2 hc15) ?_
       refine g3 18 [(98,.slice A0 l0.length c0)] [ld b1 0 (.slice A0 l0.length c0)] ⟨hS124.c 5,trivial⟩<|g30 [19] [(99,vI z2)]<|go3_index (d:=100) (ty:=0) (t:=22) (el:=29) (sz:=3) (m:=l0.length) (c:=c0) (x:=(.tmp 98)) (y:=(.tmp 99)) (A:=A0) (k':=.i64) (j:=z2) (jn:=((z2).toNat)) (b0:=blkOf A0) (o0:=offOf A0) (by kernel_rfl) (by kernel_rfl) (by kernel_rfl) (by kernel_rfl) (by kernel_rfl) ((hS124.rd hR0).eqSome (pos_of_get hx13)) (Int.toNat_of_nonneg hc14).symm (lt_of_get hx13) ?_
       refine g30 [21] [(101,.pointer (some ⟨blkOf A0,offOf A0+(z2).toNat*3+1,none⟩))]<|g3 22 [(102,vI e4.A)] [.loaded ⟨blkOf A0,offOf A0+((z2).toNat)*3+1,none⟩ (vI e4.A)] ⟨RdL.cell (j:=1) (hS124.rd hR0) hx13 rfl,trivial⟩<|g30 [23] [(103,pP b6 1)]<|g3 24 [(104,vI e2.A)] [ld b6 1 (vI e2.A)] ⟨hS124.c 1,trivial⟩<|g30 [25,26,27] [(107,.bool (e4.A != e2.A)),(106,.bool (e4.A != e2.A)),(105,.bool (e4.A != e2.A))] ?_
       by_cases hc16:e4.A=e2.A
       ·rw [if_pos hc16] at h
        refine go3_known (t:=107) (b:=(e4.A != e2.A)) (c:=false) (by kernel_rfl) (bne_eq_false_iff_eq.2 hc16) ?_
        refine g30 [28] [(108,pP b6 0)]<|g3 29 [(109,vI e2.Op)] [ld b6 0 (vI e2.Op)] ⟨hS124.c 1,trivial⟩<|g30 [30,31] [(111,.bool (e2.Op==14)),(110,.bool (e2.Op==14))] ?_
        by_cases hc17:e2.Op=14
        ·rw [if_pos hc17] at h
         refine go3_known (t:=111) (b:=(e2.Op==14)) (c:=true) (by kernel_rfl) (beq_iff_eq.2 hc17) ?_
         refine g30 [32] [(112,pP b6 2)]<|g3 33 [(113,vI e2.B)] [ld b6 2 (vI e2.B)] ⟨hS124.c 1,trivial⟩<|g30 [34,35,36,37,38] [(118,.bool (e2.B != (IntKind.i64.wrap (z2+1)))),(117,.bool (e2.B != (IntKind.i64.wrap (z2+1)))),(116,.bool (e2.B != (IntKind.i64.wrap (z2+1)))),(115,vI (IntKind.i64.wrap (z2+1))),(114,vI z2)]<|go_fin3 fun a hF=>hK35 _ _ ?_ a hF
         by_cases hc18:e2.B=(IntKind.i64.wrap (z2+1))
         ·rw [if_pos hc18] at h
          refine wk 118 (e2.B != (IntKind.i64.wrap (z2+1))) false (bne_eq_false_iff_eq.2 hc18)<|wf ?_
          have hS131:=hS124.p [2,3,4,5,6,7] rfl
          obtain rfl:=si h
          exact we_skip fun a hF=>hQ _ _ _ (Outs.again ⟨hS131,hF.weaken ea⟩)
         rw [if_neg hc18] at h
         refine wk 118 (e2.B != (IntKind.i64.wrap (z2+1))) true (bne_iff_ne.2 hc18)<|wt<|ws fun K37 hK37=>wr [(0,1),(1,2),(2,2),(3,0),(4,0),(5,0),(6,0),(7,0),(8,1),(9,0),(10,2)]<|gw (some 119) (.map #[] 0) (fun b=>.map (some b)) hS124 fun b11 w35 hx15 hS132=>?_
         have hS133:=hS132.newMap (κ:=Int) (ν:=Int)
         refine ge_mapSet (κ:=Int) (ν:=Int) (b:=b11) (ins:=true) (mm:=0) (t:=72) (kt:=3) (et:=23) (x:=(.tmp 119)) (y:=(.const (vI 14))) (u:=(.const (vI 9))) (ty:=0) (m:=([]:List (Int×Int))) (k:=14) (v:=9) (vv:=vI 9) (by kernel_rfl) (by kernel_rfl) (by kernel_rfl) (by kernel_rfl) rfl (by kernel_rfl) (by kernel_rfl) hS133 fun w36 hS134=>?_
         refine ge_mapSet (κ:=Int) (ν:=Int) (b:=b11) (ins:=true) (mm:=0) (t:=72) (kt:=3) (et:=23) (x:=(.tmp 119)) (y:=(.const (vI 17))) (u:=(.const (vI 10))) (ty:=0) (m:=(mset ([]:List (Int×Int)) 14 9)) (k:=17) (v:=10) (vv:=vI 10) (by kernel_rfl) (by kernel_rfl) (by kernel_rfl) (by kernel_rfl) rfl (by kernel_rfl) (by kernel_rfl) hS134 fun w37 hS135=>?_
         refine gb [3,4,5] [(122,vI e2.Op),(121,pP b6 0),(120,.map (some b11))] [ld b6 0 (vI e2.Op)] ⟨hS135.c 2,trivial⟩<|ge_lookup (κ:=Int) (ν:=Int) (d:=123) (b:=b11) (q:=0) (t:=72) (kt:=3) (et:=23) (x:=(.tmp 120)) (y:=(.tmp 122)) (ty:=23) (m:=(mset (mset ([]:List (Int×Int)) 14 9) 17 10)) (k:=e2.Op) (z:=0) (v:=((mget (mset (mset ([]:List (Int×Int)) 14 9) 17 10) e2.Op).getD 0)) (zv:=vI 0) (vv:=vI ((mget (mset (mset ([]:List (Int×Int)) 14 9) 17 10) e2.Op).getD 0)) (by kernel_rfl) (by kernel_rfl) (by kernel_rfl) (by kernel_rfl) (by kernel_rfl) (fun w'=>by kernel_rfl) rfl hS135 rfl rfl rfl ?_
         refine gb0 [7] [(124,vI (i2:Int))]<|ge_call (d:=some 125) (f:=9) (args:=#[vI ((mget (mset (mset ([]:List (Int×Int)) 14 9) 17 10) e2.Op).getD 0),vI (i2:Int)]) (by kernel_rfl) (punctualref_F_ok ((mget (mset (mset ([]:List (Int×Int)) 14 9) 17 10) e2.Op).getD 0) (i2:Int) _ _ rfl) ?_
         rintro _ w38 ⟨rfl,hS136⟩
         refine ⟨_,rfl,hS136.below,?_⟩
         have hS137:=hS135.call hS136
         refine gb0 [9] [(2,.pointer none)] ?_
         have hS138:=hS137.b 5
         refine gs b2 0 #[vI 0,vI 0] 25 [vI ((punctualref_F.f ((mget (mset (mset ([]:List (Int×Int)) 14 9) 17 10) e2.Op).getD 0) (i2:Int)).Code),vI ((punctualref_F.f ((mget (mset (mset ([]:List (Int×Int)) 14 9) 17 10) e2.Op).getD 0) (i2:Int)).At)] hS138 fun w39 hS139=>?_
         have hS140:=hS139.nc #[vI ((punctualref_F.f ((mget (mset (mset ([]:List (Int×Int)) 14 9) 17 10) e2.Op).getD 0) (i2:Int)).Code),vI ((punctualref_F.f ((mget (mset (mset ([]:List (Int×Int)) 14 9) 17 10) e2.Op).getD 0) (i2:Int)).At)] rfl
         refine gn hK37 ?_
         have hS141:=hS140.takeN 0
         obtain rfl:=si h
         exact rq hQ fun a hF=>⟨rfl,(pr [.tmp 2,.cell 3 25] [.pointer none,.agg #[vI ((punctualref_F.f ((mget (mset (mset ([]:List (Int×Int)) 14 9) 17 10) e2.Op).getD 0) (i2:Int)).Code),vI ((punctualref_F.f ((mget (mset (mset ([]:List (Int×Int)) 14 9) 17 10) e2.Op).getD 0) (i2:Int)).At)]] [ld b2 0 (vI ((punctualref_F.f ((mget (mset (mset ([]:List (Int×Int)) 14 9) 17 10) e2.Op).getD 0) (i2:Int)).Code)),ld b2 1 (vI ((punctualref_F.f ((mget (mset (mset ([]:List (Int×Int)) 14 9) 17 10) e2.Op).getD 0) (i2:Int)).At))] ⟨hS140.c 0,hS140.c 0,trivial⟩ ⟨rfl,hS141⟩) a hF⟩
        rw [if_neg hc17] at h
        refine go3_known (t:=111) (b:=(e2.Op==14)) (c:=false) (by kernel_rfl) (beq_eq_false_iff_ne.2 hc17) ?_
        refine g30 [32,33,34,35,36,37,38] [(118,.bool false),(117,.bool false),(116,undef),(115,undef),(114,undef),(113,undef),(112,undef)]<|go_fin3 fun a hF=>hK35 _ _ ?_ a hF
        refine wf ?_
        have hS148:=hS124.p [2,3,4,5,6,7] rfl
        obtain rfl:=si h
        exact we_skip fun a hF=>hQ _ _ _ (Outs.again ⟨hS148,hF.weaken ea⟩)
       rw [if_neg hc16] at h
       refine go3_known (t:=107) (b:=(e4.A != e2.A)) (c:=true) (by kernel_rfl) (bne_iff_ne.2 hc16) ?_
       refine g30 [28,29,30,31,32,33,34,35,36,37,38] [(118,.bool true),(117,undef),(116,undef),(115,undef),(114,undef),(113,undef),(112,undef),(111,undef),(110,undef),(109,undef),(108,undef)]<|go_fin3 fun a hF=>hK35 _ _ ?_ a hF
       refine wt<|ws fun K38 hK38=>wr [(0,1),(1,2),(2,2),(3,0),(4,0),(5,0),(6,0),(7,0),(8,1),(9,0),(10,2)]<|gw (some 119) (.map #[] 0) (fun b=>.map (some b)) hS124 fun b12 w40 hx16 hS149=>?_
       have hS150:=hS149.newMap (κ:=Int) (ν:=Int)
       refine ge_mapSet (κ:=Int) (ν:=Int) (b:=b12) (ins:=true) (mm:=0) (t:=72) (kt:=3) (et:=23) (x:=(.tmp 119)) (y:=(.const (vI 14))) (u:=(.const (vI 9))) (ty:=0) (m:=([]:List (Int×Int))) (k:=14) (v:=9) (vv:=vI 9) (by kernel_rfl) (by kernel_rfl) (by kernel_rfl) (by kernel_rfl) rfl (by kernel_rfl) (by kernel_rfl) hS150 fun w41 hS151=>?_
       refine ge_mapSet (κ:=Int) (ν:=Int) (b:=b12) (ins:=true) (mm:=0) (t:=72) (kt:=3) (et:=23) (x:=(.tmp 119)) (y:=(.const (vI 17))) (u:=(.const (vI 10))) (ty:=0) (m:=(mset ([]:List (Int×Int)) 14 9)) (k:=17) (v:=10) (vv:=vI 10) (by kernel_rfl) (by kernel_rfl) (by kernel_rfl) (by kernel_rfl) rfl (by kernel_rfl) (by kernel_rfl) hS151 fun w42 hS152=>?_
       refine gb [3,4,5] [(122,vI e2.Op),(121,pP b6 0),(120,.map (some b12))] [ld b6 0 (vI e2.Op)] ⟨hS152.c 2,trivial⟩<|ge_lookup (κ:=Int) (ν:=Int) (d:=123) (b:=b12) (q:=0) (t:=72) (kt:=3) (et:=23) (x:=(.tmp 120)) (y:=(.tmp 122)) (ty:=23) (m:=(mset (mset ([]:List (Int×Int)) 14 9) 17 10)) (k:=e2.Op) (z:=0) (v:=((mget (mset (mset ([]:List (Int×Int)) 14 9) 17 10) e2.Op).getD 0)) (zv:=vI 0) (vv:=vI ((mget (mset (mset ([]:List (Int×Int)) 14 9) 17 10) e2.Op).getD 0)) (by kernel_rfl) (by kernel_rfl) (by kernel_rfl) (by kernel_rfl) (by kernel_rfl) (fun w'=>by kernel_rfl) rfl hS152 rfl rfl rfl ?_
       refine gb0 [7] [(124,vI (i2:Int))]<|ge_call (d:=some 125) (f:=9) (args:=#[vI ((mget (mset (mset ([]:List (Int×Int)) 14 9) 17 10) e2.Op).getD 0),vI (i2:Int)]) (by kernel_rfl) (punctualref_F_ok ((mget (mset (mset ([]:List (Int×Int)) 14 9) 17 10) e2.Op).getD 0) (i2:Int) _ _ rfl) ?_
       rintro _ w43 ⟨rfl,hS153⟩
       refine ⟨_,rfl,hS153.below,?_⟩
       have hS154:=hS152.call hS153
       refine gb0 [9] [(2,.pointer none)] ?_
       have hS155:=hS154.b 5
       refine gs b2 0 #[vI 0,vI 0] 25 [vI ((punctualref_F.f ((mget (mset (mset ([]:List (Int×Int)) 14 9) 17 10) e2.Op).getD 0) (i2:Int)).Code),vI ((punctualref_F.f ((mget (mset (mset ([]:List (Int×Int)) 14 9) 17 10) e2.Op).getD 0) (i2:Int)).At)] hS155 fun w44 hS156=>?_
       have hS157:=hS156.nc #[vI ((punctualref_F.f ((mget (mset (mset ([]:List (Int×Int)) 14 9) 17 10) e2.Op).getD 0) (i2:Int)).Code),vI ((punctualref_F.f ((mget (mset (mset ([]:List (Int×Int)) 14 9) 17 10) e2.Op).getD 0) (i2:Int)).At)] rfl
       refine gn hK38 ?_
       have hS158:=hS157.takeN 0
       obtain rfl:=si h
       exact rq hQ fun a hF=>⟨rfl,(pr [.tmp 2,.cell 3 25] [.pointer none,.agg #[vI ((punctualref_F.f ((mget (mset (mset ([]:List (Int×Int)) 14 9) 17 10) e2.Op).getD 0) (i2:Int)).Code),vI ((punctualref_F.f ((mget (mset (mset ([]:List (Int×Int)) 14 9) 17 10) e2.Op).getD 0) (i2:Int)).At)]] [ld b2 0 (vI ((punctualref_F.f ((mget (mset (mset ([]:List (Int×Int)) 14 9) 17 10) e2.Op).getD 0) (i2:Int)).Code)),ld b2 1 (vI ((punctualref_F.f ((mget (mset (mset ([]:List (Int×Int)) 14 9) 17 10) e2.Op).getD 0) (i2:Int)).At))] ⟨hS157.c 0,hS157.c 0,trivial⟩ ⟨rfl,hS158⟩) a hF⟩
      rw [if_neg hc15] at h
      refine go3_known (t:=97) (b:=(e4.Op != ((mget (mset (mset ([]:List (Int×Int)) 14 13) 17 16) e2.Op).getD 0))) (c:=true) (by kernel_rfl) (bne_iff_ne.2 hc15) ?_
      refine g30 [18,19,20,21,22,23,24,25,26,27,28,29,30,31,32,33,34,35,36,37,38] [(118,.bool true),(117,undef),(116,undef),(115,undef),(114,undef),(113,undef),(112,undef),(111,undef),(110,undef),(109,undef),(108,undef),(107,.bool true),(106,.bool true),(105,undef),(104,undef),(103,undef),(102,undef),(101,undef),(100,undef),(99,undef),(98,undef)]<|go_fin3 fun a hF=>hK35 _ _ ?_ a hF
      refine wt<|ws fun K39 hK39=>wr [(0,1),(1,2),(2,2),(3,0),(4,0),(5,0),(6,0),(7,0),(8,1),(9,0),(10,2)]<|gw (some 119) (.map #[] 0) (fun b=>.map (some b)) hS124 fun b13 w45 hx17 hS159=>?_
      have hS160:=hS159.newMap (κ:=Int) (ν:=Int)
      refine ge_mapSet (κ:=Int) (ν:=Int) (b:=b13) (ins:=true) (mm:=0) (t:=72) (kt:=3) (et:=23) (x:=(.tmp 119)) (y:=(.const (vI 14))) (u:=(.const (vI 9))) (ty:=0) (m:=([]:List (Int×Int))) (k:=14) (v:=9) (vv:=vI 9) (by kernel_rfl) (by kernel_rfl) (by kernel_rfl) (by kernel_rfl) rfl (by kernel_rfl) (by kernel_rfl) hS160 fun w46 hS161=>?_
      refine ge_mapSet (κ:=Int) (ν:=Int) (b:=b13) (ins:=true) (mm:=0) (t:=72) (kt:=3) (et:=23) (x:=(.tmp 119)) (y:=(.const (vI 17))) (u:=(.const (vI 10))) (ty:=0) (m:=(mset ([]:List (Int×Int)) 14 9)) (k:=17) (v:=10) (vv:=vI 10) (by kernel_rfl) (by kernel_rfl) (by kernel_rfl) (by kernel_rfl) rfl (by kernel_rfl) (by kernel_rfl) hS161 fun w47 hS162=>?_
      refine gb [3,4,5] [(122,vI e2.Op),(121,pP b6 0),(120,.map (some b13))] [ld b6 0 (vI e2.Op)] ⟨hS162.c 2,trivial⟩<|ge_lookup (κ:=Int) (ν:=Int) (d:=123) (b:=b13) (q:=0) (t:=72) (kt:=3) (et:=23) (x:=(.tmp 120)) (y:=(.tmp 122)) (ty:=23) (m:=(mset (mset ([]:List (Int×Int)) 14 9) 17 10)) (k:=e2.Op) (z:=0) (v:=((mget (mset (mset ([]:List (Int×Int)) 14 9) 17 10) e2.Op).getD 0)) (zv:=vI 0) (vv:=vI ((mget (mset (mset ([]:List (Int×Int)) 14 9) 17 10) e2.Op).getD 0)) (by kernel_rfl) (by kernel_rfl) (by kernel_rfl) (by kernel_rfl) (by kernel_rfl) (fun w'=>by kernel_rfl) rfl hS162 rfl rfl rfl ?_
      refine gb0 [7] [(124,vI (i2:Int))]<|ge_call (d:=some 125) (f:=9) (args:=#[vI ((mget (mset (mset ([]:List (Int×Int)) 14 9) 17 10) e2.Op).getD 0),vI (i2:Int)]) (by kernel_rfl) (punctualref_F_ok ((mget (mset (mset ([]:List (Int×Int)) 14 9) 17 10) e2.Op).getD 0) (i2:Int) _ _ rfl) ?_
      rintro _ w48 ⟨rfl,hS163⟩
      refine ⟨_,rfl,hS163.below,?_⟩
      have hS164:=hS162.call hS163
      refine gb0 [9] [(2,.pointer none)] ?_
      have hS165:=hS164.b 5
      refine gs b2 0 #[vI 0,vI 0] 25 [vI ((punctualref_F.f ((mget (mset (mset ([]:List (Int×Int)) 14 9) 17 10) e2.Op).getD 0) (i2:Int)).Code),vI ((punctualref_F.f ((mget (mset (mset ([]:List (Int×Int)) 14 9) 17 10) e2.Op).getD 0) (i2:Int)).At)] hS165 fun w49 hS166=>?_
      have hS167:=hS166.nc #[vI ((punctualref_F.f ((mget (mset (mset ([]:List (Int×Int)) 14 9) 17 10) e2.Op).getD 0) (i2:Int)).Code),vI ((punctualref_F.f ((mget (mset (mset ([]:List (Int×Int)) 14 9) 17 10) e2.Op).getD 0) (i2:Int)).At)] rfl
      refine gn hK39 ?_
      have hS168:=hS167.takeN 0
      obtain rfl:=si h
      exact rq hQ fun a hF=>⟨rfl,(pr [.tmp 2,.cell 3 25] [.pointer none,.agg #[vI ((punctualref_F.f ((mget (mset (mset ([]:List (Int×Int)) 14 9) 17 10) e2.Op).getD 0) (i2:Int)).Code),vI ((punctualref_F.f ((mget (mset (mset ([]:List (Int×Int)) 14 9) 17 10) e2.Op).getD 0) (i2:Int)).At)]] [ld b2 0 (vI ((punctualref_F.f ((mget (mset (mset ([]:List (Int×Int)) 14 9) 17 10) e2.Op).getD 0) (i2:Int)).Code)),ld b2 1 (vI ((punctualref_F.f ((mget (mset (mset ([]:List (Int×Int)) 14 9) 17 10) e2.Op).getD 0) (i2:Int)).At))] ⟨hS167.c 0,hS167.c 0,trivial⟩ ⟨rfl,hS168⟩) a hF⟩
     exact go_nomore3
    exact go_nomore3
   exact go_nomore3
  exact go_nomore3
 rw [if_neg hc14] at h
 cases h
abbrev punctualref_ReadImage.A1 (w0:World) (l0:List SIns) (A0:OA) (c0 b1 b2 b4 b5:Nat):(Nat×(List Int)×(List Sregion))→Act→World→Prop:=fun (s:Nat×(List Int)×(List Sregion)) a w=>∃ (v1:Value) (v2:Value),St w0 w [bk b5 #[v1] 37,bk b4 #[.slice A0 l0.length c0,v2] 70,bk b2 #[vI 0,vI 0] 25,bk b1 #[.slice A0 l0.length c0] 22,Own.of v1 3 s.2.1,Own.of v2 74 s.2.2]∧Frm 230 a [(1,pP b1 0),(3,pP b2 0),(7,pP b4 0),(8,pP b5 0),(42,.slice A0 l0.length c0),(43,vI (l0.length:Int)),(44,vI (s.1:Int))]
abbrev punctualref_ReadImage.B1 (w0:World) (l0:List SIns) (A0:OA) (c0 b1 b2 b4 b5:Nat):(((List Int)×(List Sregion)) ⊕ ((Option PImage)×SFault))→Exit→Act→World→Prop:=Exits 2 (fun (s:(List Int)×(List Sregion)) a w=>∃ (v3:Value) (v4:Value),St w0 w [bk b5 #[v3] 37,bk b4 #[.slice A0 l0.length c0,v4] 70,bk b2 #[vI 0,vI 0] 25,bk b1 #[.slice A0 l0.length c0] 22,Own.of v3 3 s.1,Own.of v4 74 s.2]∧Frm 230 a [(1,pP b1 0),(3,pP b2 0),(7,pP b4 0),(8,pP b5 0)]) (Rets Tryd.prog Tryd.f11 (punctualref_ReadImage.Post w0 l0 A0 c0))
theorem punctualref_ReadImage_r1 (K:Nat) (w0:World) (l0:List SIns) (A0:OA) (c0:Nat) (hR0:RdL w0 A0 l0) (hL0:l0.length≤c0) (b1 b2:Nat) (hc1:¬ ((l0.length:Int) > 2000)) (b4 b5:Nat) (s:Nat×(List Int)×(List Sregion)) (o:(Nat×(List Int)×(List Sregion)) ⊕ (((List Int)×(List Sregion)) ⊕ ((Option PImage)×SFault))) (h:punctualref_ReadImage.r1 K l0 s=some o) (a:Act) (w:World) (hA:punctualref_ReadImage.A1 w0 l0 A0 c0 b1 b2 b4 b5 s a w) (Q:Exit→Act→World→Prop) (hQ:∀ x a w,Outs (punctualref_ReadImage.A1 w0 l0 A0 c0 b1 b2 b4 b5) (punctualref_ReadImage.B1 w0 l0 A0 c0 b1 b2 b4 b5) o x a w→Q x a w):(subF Tryd.f11 [1,1,1,1,1,0,1,0,0]).wp Tryd.prog Q a w:=by
 obtain ⟨i2,m1,m2⟩:=s
 obtain ⟨v1,v2,hS,hF⟩:=hA
 replace hS:St w0 w [bk b5 #[v1] 37,bk b4 #[.slice A0 l0.length c0,v2] 70,bk b2 #[vI 0,vI 0] 25,bk b1 #[.slice A0 l0.length c0] 22,Own.of v1 3 m1,Own.of v2 74 m2]:=hS
 simp only [punctualref_ReadImage.r1] at h
 refine (?_:WE Tryd.prog 230 (subF Tryd.f11 [1,1,1,1,1,0,1,0,0]) Q [(1,pP b1 0),(3,pP b2 0),(7,pP b4 0),(8,pP b5 0),(42,.slice A0 l0.length c0),(43,vI (l0.length:Int)),(44,vI (i2:Int))] w) a hF
 clear hF a
 refine ws fun K18 hK18=>wr [(0,0)]<|gb0 [0] [(45,.bool (decide ((i2:Int)<(l0.length:Int))))]<|gn hK18<|ws fun K19 hK19=>?_
 by_cases hc4:(i2:Int)<(l0.length:Int)
 ·rw [if_pos hc4] at h
  refine wk 45 (decide ((i2:Int)<(l0.length:Int))) true (decide_eq_true hc4)<|wt<|we_skip fun a hF=>hK19 _ _ ?_ a hF
  refine ws fun K20 hK20=>we_block<|ws fun K21 hK21=>wr [(0,0),(1,0),(2,0),(3,1),(4,0),(5,2)]<|gb0 [0] [(46,vI (i2:Int))] ?_
  rcases hx7:l0[i2]? with _ | e2
  ·rw [hx7] at h; cases h
  rw [hx7] at h
  simp only [] at h
  refine gi 47 0 22 29 3 l0.length c0 (.tmp 42) (.tmp 44) A0 .i64 (i2:Int) i2 ((hS.rd hR0).eqSome (pos_of_get hx7)) rfl (lt_of_get hx7) ?_
  refine gb [2] [(48,.agg #[vI e2.Op,vI e2.A,vI e2.B])] [.loaded ⟨blkOf A0,offOf A0+i2*3,none⟩ (vI e2.Op),.loaded ⟨blkOf A0,offOf A0+i2*3+1,none⟩ (vI e2.A),.loaded ⟨blkOf A0,offOf A0+i2*3+2,none⟩ (vI e2.B)] ⟨RdL.cell (j:=0) (hS.rd hR0) hx7 rfl,RdL.cell (j:=1) (hS.rd hR0) hx7 rfl,RdL.cell (j:=2) (hS.rd hR0) hx7 rfl,trivial⟩<|gw (some 10) (.cells #[vI 0,vI 0,vI 0] 29) (fun b=>pP b 0) hS fun b6 w13 hx8 hS36=>?_
  refine gb0 [4] [(9,vI (i2:Int))]<|gs b6 0 #[vI 0,vI 0,vI 0] 29 [vI e2.Op,vI e2.A,vI e2.B] hS36 fun w14 hS37=>?_
  have hS38:=hS37.nc #[vI e2.Op,vI e2.A,vI e2.B] rfl
  refine gn hK21<|ws fun K22 hK22=>wr [(0,0)]<|gb0 [0] [(11,vI (-1))]<|gn hK22<|ws fun K23 hK23=>?_
  obtain ⟨Z1,cz1,rfl⟩:=hS38.open 5 rfl
  obtain ⟨Z2,cz2,rfl⟩:=hS38.open 6 rfl
  rcases hq5:punctualref_ReadImage.p2 m1 with _ | (z2 | rr4)
  ·rw [hq5] at h; cases h
  ·rw [hq5] at h
   simp only [] at h
   refine kp (punctualref_ReadImage_p2 K w0 l0 A0 c0 hR0 hL0 b1 b2 hc1 b4 b5 i2 m1 m2 hc4 e2 hx7 b6 Z1 cz1 Z2 cz2 _ hq5 _ hS38 _ ?_)
   rintro _ a w15 ⟨rfl,hS53,hF⟩
   replace hS53:St w0 w15 [bk b6 #[vI e2.Op,vI e2.A,vI e2.B] 29,bk b5 #[(.slice Z1 m1.length cz1)] 37,bk b4 #[.slice A0 l0.length c0,(.slice Z2 m2.length cz2)] 70,bk b2 #[vI 0,vI 0] 25,bk b1 #[.slice A0 l0.length c0] 22,ro Z1 cz1 3 m1,ro Z2 cz2 74 m2]:=hS53
   refine hK23 [(1,pP b1 0),(3,pP b2 0),(7,pP b4 0),(8,pP b5 0),(9,vI (i2:Int)),(10,pP b6 0),(11,vI z2),(42,.slice A0 l0.length c0),(43,vI (l0.length:Int)),(44,vI (i2:Int))] w15 ?_ a hF
   refine ws fun K25 hK25=>wr [(0,0),(1,0)]<|gb0 [0,1] [(12,.func (.func 32) #[] #[pP b5 0,pP b1 0,pP b6 0]),(58,.func (.func 32) #[] #[pP b5 0,pP b1 0,pP b6 0])]<|gn hK25<|ws fun K26 hK26=>wr [(0,0),(1,0)]<|gb [0,1] [(60,vI e2.Op),(59,pP b6 0)] [ld b6 0 (vI e2.Op)] ⟨hS53.c 0,trivial⟩<|gn hK26<|we_block<|ws fun K27 hK27=>?_
   rcases hq6:punctualref_ReadImage.p3 e2 with _ | (q2 | rr3)
   ·rw [hq6] at h; cases h
   ·rw [hq6] at h
    simp only [] at h
    refine kp (punctualref_ReadImage_p3 K w0 l0 A0 c0 hR0 hL0 b1 b2 hc1 b4 b5 i2 m1 m2 hc4 e2 hx7 b6 Z1 cz1 Z2 cz2 z2 _ hq6 _ hS53 _ ?_)
    rintro _ a w16 ⟨rfl,hS68,hF⟩
    replace hS68:St w0 w16 [bk b6 #[vI e2.Op,vI e2.A,vI e2.B] 29,bk b5 #[(.slice Z1 m1.length cz1)] 37,bk b4 #[.slice A0 l0.length c0,(.slice Z2 m2.length cz2)] 70,bk b2 #[vI 0,vI 0] 25,bk b1 #[.slice A0 l0.length c0] 22,ro Z1 cz1 3 m1,ro Z2 cz2 74 m2]:=hS68
    refine hK27 [(1,pP b1 0),(3,pP b2 0),(7,pP b4 0),(8,pP b5 0),(9,vI (i2:Int)),(10,pP b6 0),(11,vI z2),(12,.func (.func 32) #[] #[pP b5 0,pP b1 0,pP b6 0]),(42,.slice A0 l0.length c0),(43,vI (l0.length:Int)),(44,vI (i2:Int)),(60,vI e2.Op),(61,.bool q2)] w16 ?_ a hF
    by_cases hc8:q2=true
    ·rw [if_pos hc8] at h
     refine wk 61 q2 true hc8<|wt<|ws fun K29 hK29=>ws fun K30 hK30=>wr [(0,0),(1,0),(2,0),(3,1)] ?_
     rcases hq7:punctualref_ReadImage_1.f K e2.Op m1 l0 e2 with _ | r2
     ·rw [hq7] at h; cases h
     rw [hq7] at h
     simp only [] at h
     refine gb [0,1,2] [(66,vI e2.Op),(65,pP b6 0),(64,.func (.func 32) #[] #[pP b5 0,pP b1 0,pP b6 0])] [ld b6 0 (vI e2.Op)] ⟨hS68.c 0,trivial⟩<|ge_call (d:=some 67) (f:=32) (args:=#[vI e2.Op,pP b5 0,pP b1 0,pP b6 0]) (by kernel_rfl) (punctualref_ReadImage_1_ok K e2.Op b5 m1 Z1 cz1 b1 l0 A0 c0 b6 e2 _ (hS68.rdAt 5 rfl) (hS68.capAt 5 rfl) (hS68.globOf 1 rfl) (hS68.rd hR0) hL0 (hS68.globOf 4 rfl) (hS68.globOf 0 rfl) _ hq7) ?_
     rintro _ w17 ⟨rfl,hS69⟩
     refine ⟨_,rfl,hS69.below,?_⟩
     have hS70:=hS68.call hS69
     refine gn hK30 ?_
     by_cases hc9:r2=true
     ·rw [if_pos hc9] at h
      refine wk 67 r2 true hc9<|wt<|ws fun K31 hK31=>wr [(0,1),(1,2),(2,2),(3,0),(4,0),(5,0),(6,0),(7,0),(8,1),(9,0),(10,2)]<|gw (some 68) (.map #[] 0) (fun b=>.map (some b)) hS70 fun b7 w18 hx10 hS71=>?_
      have hS72:=hS71.newMap (κ:=Int) (ν:=Int)
      refine ge_mapSet (κ:=Int) (ν:=Int) (b:=b7) (ins:=true) (mm:=0) (t:=72) (kt:=3) (et:=23) (x:=(.tmp 68)) (y:=(.const (vI 13))) (u:=(.const (vI 9))) (ty:=0) (m:=([]:List (Int×Int))) (k:=13) (v:=9) (vv:=vI 9) (by kernel_rfl) (by kernel_rfl) (by kernel_rfl) (by kernel_rfl) rfl (by kernel_rfl) (by kernel_rfl) hS72 fun w19 hS73=>?_
      refine ge_mapSet (κ:=Int) (ν:=Int) (b:=b7) (ins:=true) (mm:=0) (t:=72) (kt:=3) (et:=23) (x:=(.tmp 68)) (y:=(.const (vI 16))) (u:=(.const (vI 10))) (ty:=0) (m:=(mset ([]:List (Int×Int)) 13 9)) (k:=16) (v:=10) (vv:=vI 10) (by kernel_rfl) (by kernel_rfl) (by kernel_rfl) (by kernel_rfl) rfl (by kernel_rfl) (by kernel_rfl) hS73 fun w20 hS74=>?_
      refine gb [3,4,5] [(71,vI e2.Op),(70,pP b6 0),(69,.map (some b7))] [ld b6 0 (vI e2.Op)] ⟨hS74.c 1,trivial⟩<|ge_lookup (κ:=Int) (ν:=Int) (d:=72) (b:=b7) (q:=0) (t:=72) (kt:=3) (et:=23) (x:=(.tmp 69)) (y:=(.tmp 71)) (ty:=23) (m:=(mset (mset ([]:List (Int×Int)) 13 9) 16 10)) (k:=e2.Op) (z:=0) (v:=((mget (mset (mset ([]:List (Int×Int)) 13 9) 16 10) e2.Op).getD 0)) (zv:=vI 0) (vv:=vI ((mget (mset (mset ([]:List (Int×Int)) 13 9) 16 10) e2.Op).getD 0)) (by kernel_rfl) (by kernel_rfl) (by kernel_rfl) (by kernel_rfl) (by kernel_rfl) (fun w'=>by kernel_rfl) rfl hS74 rfl rfl rfl ?_
      refine gb0 [7] [(73,vI (i2:Int))]<|ge_call (d:=some 74) (f:=9) (args:=#[vI ((mget (mset (mset ([]:List (Int×Int)) 13 9) 16 10) e2.Op).getD 0),vI (i2:Int)]) (by kernel_rfl) (punctualref_F_ok ((mget (mset (mset ([]:List (Int×Int)) 13 9) 16 10) e2.Op).getD 0) (i2:Int) _ _ rfl) ?_
      rintro _ w21 ⟨rfl,hS75⟩
      refine ⟨_,rfl,hS75.below,?_⟩
      have hS76:=hS74.call hS75
      refine gb0 [9] [(2,.pointer none)] ?_
      have hS77:=hS76.b 4
      refine gs b2 0 #[vI 0,vI 0] 25 [vI ((punctualref_F.f ((mget (mset (mset ([]:List (Int×Int)) 13 9) 16 10) e2.Op).getD 0) (i2:Int)).Code),vI ((punctualref_F.f ((mget (mset (mset ([]:List (Int×Int)) 13 9) 16 10) e2.Op).getD 0) (i2:Int)).At)] hS77 fun w22 hS78=>?_
      have hS79:=hS78.nc #[vI ((punctualref_F.f ((mget (mset (mset ([]:List (Int×Int)) 13 9) 16 10) e2.Op).getD 0) (i2:Int)).Code),vI ((punctualref_F.f ((mget (mset (mset ([]:List (Int×Int)) 13 9) 16 10) e2.Op).getD 0) (i2:Int)).At)] rfl
      refine gn hK31 ?_
      have hS80:=hS79.takeN 0
      obtain rfl:=si h
      exact we_ret fun a hF=>hQ _ _ _ (Outs.out nofun (Exits.on ⟨rfl,(pr [.tmp 2,.cell 3 25] [.pointer none,.agg #[vI ((punctualref_F.f ((mget (mset (mset ([]:List (Int×Int)) 13 9) 16 10) e2.Op).getD 0) (i2:Int)).Code),vI ((punctualref_F.f ((mget (mset (mset ([]:List (Int×Int)) 13 9) 16 10) e2.Op).getD 0) (i2:Int)).At)]] [ld b2 0 (vI ((punctualref_F.f ((mget (mset (mset ([]:List (Int×Int)) 13 9) 16 10) e2.Op).getD 0) (i2:Int)).Code)),ld b2 1 (vI ((punctualref_F.f ((mget (mset (mset ([]:List (Int×Int)) 13 9) 16 10) e2.Op).getD 0) (i2:Int)).At))] ⟨hS79.c 0,hS79.c 0,trivial⟩ ⟨rfl,hS80⟩) a hF⟩))
     rw [if_neg hc9] at h
     refine wk 67 r2 false (Bool.eq_false_iff.2 hc9)<|wf<|we_skip fun a hF=>hK29 _ _ ?_ a hF
     refine wr [(0,0),(1,0),(2,1),(3,2),(4,2)]<|gb [0,1] [(76,vI (i2:Int)),(75,(.slice Z1 m1.length cz1))] [ld b5 0 ((.slice Z1 m1.length cz1))] ⟨hS70.c 1,trivial⟩<|gw (some 77) (.cells #[vI (i2:Int)] 3) (fun b=>.slice (some ⟨b,0,none⟩) 1 1) hS70 fun b8 w23 hx11 hS81=>?_
     have hS82:=hS81.b 6
     by_cases hc10:m1.length<17592186044416
     ·rw [if_pos hc10] at h
      refine ge_append (α:=Int) (m:=0) (d:=78) (t:=37) (el:=3) (bytes:=8) (c1:=1) (b1:=b8) (x:=(.tmp 75)) (y:=(.tmp 77)) (ty:=37) (v:=(.slice Z1 m1.length cz1)) (z:=vI 0) (l:=m1) (u:=(i2:Int)) (by kernel_rfl) (by kernel_rfl) (by kernel_rfl) (by kernel_rfl) (by kernel_rfl) rfl hS82 rfl (by omega) fun v5 w24 hS83=>?_
      obtain ⟨Z3,cz3,rfl⟩:=hS83.open 0 rfl
      have hS84:=hS83.b 2
      refine gs b5 0 #[(.slice Z1 m1.length cz1)] 37 [(.slice Z3 (m1++[(i2:Int)]).length cz3)] hS84 fun w25 hS85=>?_
      have hS86:=hS85.nc #[(.slice Z3 (m1++[(i2:Int)]).length cz3)] rfl
      refine gn hK20<|wr [(0,0),(1,0)]<|ge_addn (d:=150) (ty:=3) (x:=(.tmp 44)) (y:=(.const (vI 1))) (t:=3) (t2:=3) (k:=.i64) (m:=i2) (by kernel_rfl) (by kernel_rfl) (by kernel_rfl) (by have h0:=hR0.small; omega) ?_
      refine gb0 [1] [(44,vI ((i2+1:Nat):Int))] ?_
      have hS93:=hS86.p [0,3,4,5,1,6] rfl
      obtain rfl:=si h
      exact ge_nil fun a hF=>hQ _ _ _ (Outs.again ⟨(.slice Z3 (m1++[(i2:Int)]).length cz3),(.slice Z2 m2.length cz2),hS93,hF.weaken ea⟩)
     rw [if_neg hc10] at h
     cases h
    rw [if_neg hc8] at h
    refine wk 61 q2 false (Bool.eq_false_iff.2 hc8)<|wf<|ws fun K32 hK32=>?_
    rcases hq9:punctualref_ReadImage.p4 e2 with _ | (q4 | rr2)
    ·rw [hq9] at h; cases h
    ·rw [hq9] at h
     simp only [] at h
     refine kp (punctualref_ReadImage_p4 K w0 l0 A0 c0 hR0 hL0 b1 b2 hc1 b4 b5 i2 m1 m2 hc4 e2 hx7 b6 Z1 cz1 Z2 cz2 z2 q2 hc8 _ hq9 _ hS68 _ ?_)
     rintro _ a w26 ⟨rfl,hS108,hF⟩
     replace hS108:St w0 w26 [bk b6 #[vI e2.Op,vI e2.A,vI e2.B] 29,bk b5 #[(.slice Z1 m1.length cz1)] 37,bk b4 #[.slice A0 l0.length c0,(.slice Z2 m2.length cz2)] 70,bk b2 #[vI 0,vI 0] 25,bk b1 #[.slice A0 l0.length c0] 22,ro Z1 cz1 3 m1,ro Z2 cz2 74 m2]:=hS108
     refine hK32 [(1,pP b1 0),(3,pP b2 0),(7,pP b4 0),(8,pP b5 0),(9,vI (i2:Int)),(10,pP b6 0),(11,vI z2),(12,.func (.func 32) #[] #[pP b5 0,pP b1 0,pP b6 0]),(42,.slice A0 l0.length c0),(43,vI (l0.length:Int)),(44,vI (i2:Int)),(60,vI e2.Op),(79,.bool q4)] w26 ?_ a hF
     by_cases hc12:q4=true
     ·rw [if_pos hc12] at h
      refine wk 79 q4 true hc12<|wt<|ws fun K34 hK34=>?_
      rcases hq14:punctualref_ReadImage.p5 l0 i2 e2 z2 with _ | (_ | rr1)
      ·rw [hq14] at h; cases h
      ·rw [hq14] at h
       simp only [] at h
       refine kp (punctualref_ReadImage_p5 K w0 l0 A0 c0 hR0 hL0 b1 b2 hc1 b4 b5 i2 m1 m2 hc4 e2 hx7 b6 Z1 cz1 Z2 cz2 z2 q2 hc8 q4 hc12 _ hq14 _ hS108 _ ?_)
       rintro _ a w50 ⟨rfl,hS169,hF⟩
       replace hS169:St w0 w50 [bk b5 #[(.slice Z1 m1.length cz1)] 37,bk b4 #[.slice A0 l0.length c0,(.slice Z2 m2.length cz2)] 70,bk b2 #[vI 0,vI 0] 25,bk b1 #[.slice A0 l0.length c0] 22,ro Z1 cz1 3 m1,ro Z2 cz2 74 m2]:=hS169
       refine hK34 [(1,pP b1 0),(3,pP b2 0),(7,pP b4 0),(8,pP b5 0),(9,vI (i2:Int)),(11,vI z2),(42,.slice A0 l0.length c0),(43,vI (l0.length:Int)),(44,vI (i2:Int))] w50 ?_ a hF
       refine ws fun K40 hK40=>wr [(0,0),(1,0),(2,0),(3,0),(4,0),(5,0),(6,0),(7,0),(8,1),(9,2),(10,0),(11,0),(12,2)]<|gb [0,1,2,3,4,5,6,7] [(133,.agg #[vI z2,vI (i2:Int)]),(132,vI (i2:Int)),(131,vI z2),(130,(.slice Z2 m2.length cz2)),(129,pP b4 1),(128,pP b4 0),(127,pP b4 0),(126,pP b4 0)] [ld b4 1 ((.slice Z2 m2.length cz2))] ⟨hS169.c 1,trivial⟩<|gw (some 134) (.cells #[vI z2,vI (i2:Int)] 74) (fun b=>.slice (some ⟨b,0,none⟩) 1 1) hS169 fun b14 w51 hx18 hS170=>?_
       have hS171:=hS170.b 6
       by_cases hc19:m2.length<8796093022208
       ·rw [if_pos hc19] at h
        refine ge_append (α:=Sregion) (m:=0) (d:=135) (t:=68) (el:=74) (bytes:=16) (c1:=1) (b1:=b14) (x:=(.tmp 130)) (y:=(.tmp 134)) (ty:=68) (v:=(.slice Z2 m2.length cz2)) (z:=.agg #[vI 0,vI 0]) (l:=m2) (u:=(⟨z2,(i2:Int)⟩:Sregion)) (by kernel_rfl) (by kernel_rfl) (by kernel_rfl) (by kernel_rfl) (by kernel_rfl) rfl hS171 rfl (by omega) fun v6 w52 hS172=>?_
        refine gb0 [10,11] [(137,pP b4 1),(136,pP b4 0)] ?_
        obtain ⟨Z4,cz4,rfl⟩:=hS172.open 0 rfl
        have hS173:=hS172.b 2
        refine gs b4 1 #[.slice A0 l0.length c0,(.slice Z2 m2.length cz2)] 70 [(.slice Z4 (m2++[(⟨z2,(i2:Int)⟩:Sregion)]).length cz4)] hS173 fun w53 hS174=>?_
        have hS175:=hS174.nc #[.slice A0 l0.length c0,(.slice Z4 (m2++[(⟨z2,(i2:Int)⟩:Sregion)]).length cz4)] rfl
        refine gn hK40<|wr [(0,0),(1,0),(2,0),(3,0),(4,0),(5,2)]<|gb [0,1,2,3] [(141,vI (IntKind.i64.wrap ((m1.length:Int)-1))),(140,vI (m1.length:Int)),(139,(.slice Z1 m1.length cz1)),(138,(.slice Z1 m1.length cz1))] [ld b5 0 ((.slice Z1 m1.length cz1)),ld b5 0 ((.slice Z1 m1.length cz1))] ⟨hS175.c 2,hS175.c 2,trivial⟩ ?_
        by_cases hc20:0≤(IntKind.i64.wrap ((m1.length:Int)-1))
        ·rw [if_pos hc20] at h
         by_cases hc21:((IntKind.i64.wrap ((m1.length:Int)-1)).toNat)≤m1.length
         ·rw [if_pos hc21] at h
          refine ge_sliceHi (d:=142) (ty:=37) (t:=37) (el:=3) (sz:=1) (m:=m1.length) (c:=cz1) (hn:=((IntKind.i64.wrap ((m1.length:Int)-1)).toNat)) (x:=(.tmp 138)) (y:=(.tmp 141)) (A:=Z1) (k':=.i64) (hi:=(IntKind.i64.wrap ((m1.length:Int)-1))) (by kernel_rfl) (by kernel_rfl) (by kernel_rfl) (Int.toNat_of_nonneg hc20).symm (by kernel_rfl) (by kernel_rfl) (by have f0:=hc21; have f1:=(hS175.capAt 5 rfl); omega) ?_
          refine ge_same (t:=142) (v:=.slice Z1 ((IntKind.i64.wrap ((m1.length:Int)-1)).toNat) cz1) (v':=.slice Z1 ((m1.take ((IntKind.i64.wrap ((m1.length:Int)-1)).toNat)).length) cz1) (by kernel_rfl) (congrArg (fun z=>Value.slice Z1 z cz1) (show (IntKind.i64.wrap ((m1.length:Int)-1)).toNat=(m1.take ((IntKind.i64.wrap ((m1.length:Int)-1)).toNat)).length by have f0:=hc21; have f1:=(hS175.capAt 5 rfl); simp only [List.length_take]; omega)) ?_
          have hS176:=hS175.b 2
          refine gs b5 0 #[(.slice Z1 m1.length cz1)] 37 [.slice Z1 ((m1.take ((IntKind.i64.wrap ((m1.length:Int)-1)).toNat)).length) cz1] hS176 fun w54 hS177=>?_
          have hS178:=hS177.nc #[.slice Z1 ((m1.take ((IntKind.i64.wrap ((m1.length:Int)-1)).toNat)).length) cz1] rfl
          refine gn hK20<|wr [(0,0),(1,0)]<|ge_addn (d:=150) (ty:=3) (x:=(.tmp 44)) (y:=(.const (vI 1))) (t:=3) (t2:=3) (k:=.i64) (m:=i2) (by kernel_rfl) (by kernel_rfl) (by kernel_rfl) (by have h0:=hR0.small; omega) ?_
          refine gb0 [1] [(44,vI ((i2+1:Nat):Int))] ?_
          have hS186:=(((((((hS178.b 5).shrink ((IntKind.i64.wrap ((m1.length:Int)-1)).toNat)).b 3).b 1).b 5).b 5).b 5).b 5
          obtain rfl:=si h
          exact ge_nil fun a hF=>hQ _ _ _ (Outs.again ⟨(.slice Z1 (m1.take ((IntKind.i64.wrap ((m1.length:Int)-1)).toNat)).length cz1),(.slice Z4 (m2++[(⟨z2,(i2:Int)⟩:Sregion)]).length cz4),hS186,hF.weaken ea⟩)
         rw [if_neg hc21] at h
         cases h
        rw [if_neg hc20] at h
        cases h
       rw [if_neg hc19] at h
       cases h
      rw [hq14] at h
      simp only [] at h
      refine kp (punctualref_ReadImage_p5 K w0 l0 A0 c0 hR0 hL0 b1 b2 hc1 b4 b5 i2 m1 m2 hc4 e2 hx7 b6 Z1 cz1 Z2 cz2 z2 q2 hc8 q4 hc12 _ hq14 _ hS108 _ ?_)
      rintro _ a w1 ⟨_,rfl,hb⟩
      obtain rfl:=si h
      exact hQ _ _ _ (Outs.out nofun (Exits.on ⟨rfl,hb⟩))
     rw [if_neg hc12] at h
     refine wk 79 q4 false (Bool.eq_false_iff.2 hc12)<|wf<|ws fun K41 hK41=>wr [(0,0),(1,0)]<|gb0 [0,1] [(143,.bool (e2.Op==15)),(144,.bool (e2.Op==15))]<|gn hK41 ?_
     by_cases hc22:e2.Op=15
     ·rw [if_pos hc22] at h
      refine wk 143 (e2.Op==15) true (beq_iff_eq.2 hc22)<|wt<|ws fun K42 hK42=>wr [(0,0),(1,1),(2,0)] ?_
      rcases hq15:punctualref_ReadImage_1.f K 13 m1 l0 e2 with _ | r3
      ·rw [hq15] at h; cases h
      rw [hq15] at h
      simp only [] at h
      refine gb0 [0] [(145,.func (.func 32) #[] #[pP b5 0,pP b1 0,pP b6 0])]<|ge_call (d:=some 146) (f:=32) (args:=#[vI 13,pP b5 0,pP b1 0,pP b6 0]) (by kernel_rfl) (punctualref_ReadImage_1_ok K 13 b5 m1 Z1 cz1 b1 l0 A0 c0 b6 e2 _ (hS108.rdAt 5 rfl) (hS108.capAt 5 rfl) (hS108.globOf 1 rfl) (hS108.rd hR0) hL0 (hS108.globOf 4 rfl) (hS108.globOf 0 rfl) _ hq15) ?_
      rintro _ w55 ⟨rfl,hS187⟩
      refine ⟨_,rfl,hS187.below,?_⟩
      have hS188:=hS108.call hS187
      refine gb0 [2] [(147,.bool (!r3))]<|gn hK42 ?_
      by_cases hc23:r3=true
      ·rw [if_pos hc23] at h
       refine wk 147 (!r3) false (congrArg (fun z=>!z) hc23)<|wf<|we_skip fun a hF=>hK20 _ _ ?_ a hF
       refine wr [(0,0),(1,0)]<|ge_addn (d:=150) (ty:=3) (x:=(.tmp 44)) (y:=(.const (vI 1))) (t:=3) (t2:=3) (k:=.i64) (m:=i2) (by kernel_rfl) (by kernel_rfl) (by kernel_rfl) (by have h0:=hR0.small; omega) ?_
       refine gb0 [1] [(44,vI ((i2+1:Nat):Int))] ?_
       have hS195:=hS188.p [1,2,3,4,5,6] rfl
       obtain rfl:=si h
       exact ge_nil fun a hF=>hQ _ _ _ (Outs.again ⟨(.slice Z1 m1.length cz1),(.slice Z2 m2.length cz2),hS195,hF.weaken ea⟩)
      rw [if_neg hc23] at h
      refine wk 147 (!r3) true (congrArg (fun z=>!z) (Bool.eq_false_iff.2 hc23))<|wt<|ws fun K43 hK43=>wr [(0,0),(1,1),(2,0),(3,2)]<|gb0 [0] [(148,vI (i2:Int))]<|ge_call (d:=some 149) (f:=9) (args:=#[vI 9,vI (i2:Int)]) (by kernel_rfl) (punctualref_F_ok 9 (i2:Int) _ _ rfl) ?_
      rintro _ w56 ⟨rfl,hS196⟩
      refine ⟨_,rfl,hS196.below,?_⟩
      have hS197:=hS188.call hS196
      refine gb0 [2] [(2,.pointer none)] ?_
      have hS198:=hS197.b 3
      refine gs b2 0 #[vI 0,vI 0] 25 [vI ((punctualref_F.f 9 (i2:Int)).Code),vI ((punctualref_F.f 9 (i2:Int)).At)] hS198 fun w57 hS199=>?_
      have hS200:=hS199.nc #[vI ((punctualref_F.f 9 (i2:Int)).Code),vI ((punctualref_F.f 9 (i2:Int)).At)] rfl
      refine gn hK43 ?_
      have hS201:=hS200.takeN 0
      obtain rfl:=si h
      exact we_ret fun a hF=>hQ _ _ _ (Outs.out nofun (Exits.on ⟨rfl,(pr [.tmp 2,.cell 3 25] [.pointer none,.agg #[vI ((punctualref_F.f 9 (i2:Int)).Code),vI ((punctualref_F.f 9 (i2:Int)).At)]] [ld b2 0 (vI ((punctualref_F.f 9 (i2:Int)).Code)),ld b2 1 (vI ((punctualref_F.f 9 (i2:Int)).At))] ⟨hS200.c 0,hS200.c 0,trivial⟩ ⟨rfl,hS201⟩) a hF⟩))
     rw [if_neg hc22] at h
     refine wk 143 (e2.Op==15) false (beq_eq_false_iff_ne.2 hc22)<|wf<|we_skip fun a hF=>hK20 _ _ ?_ a hF
     refine wr [(0,0),(1,0)]<|ge_addn (d:=150) (ty:=3) (x:=(.tmp 44)) (y:=(.const (vI 1))) (t:=3) (t2:=3) (k:=.i64) (m:=i2) (by kernel_rfl) (by kernel_rfl) (by kernel_rfl) (by have h0:=hR0.small; omega) ?_
     refine gb0 [1] [(44,vI ((i2+1:Nat):Int))] ?_
     have hS208:=hS108.p [1,2,3,4,5,6] rfl
     obtain rfl:=si h
     exact ge_nil fun a hF=>hQ _ _ _ (Outs.again ⟨(.slice Z1 m1.length cz1),(.slice Z2 m2.length cz2),hS208,hF.weaken ea⟩)
    rw [hq9] at h
    simp only [] at h
    refine kp (punctualref_ReadImage_p4 K w0 l0 A0 c0 hR0 hL0 b1 b2 hc1 b4 b5 i2 m1 m2 hc4 e2 hx7 b6 Z1 cz1 Z2 cz2 z2 q2 hc8 _ hq9 _ hS68 _ ?_)
    rintro _ a w1 ⟨_,rfl,hb⟩
    obtain rfl:=si h
    exact hQ _ _ _ (Outs.out nofun (Exits.on ⟨rfl,hb⟩))
   rw [hq6] at h
   simp only [] at h
   refine kp (punctualref_ReadImage_p3 K w0 l0 A0 c0 hR0 hL0 b1 b2 hc1 b4 b5 i2 m1 m2 hc4 e2 hx7 b6 Z1 cz1 Z2 cz2 z2 _ hq6 _ hS53 _ ?_)
   rintro _ a w1 ⟨_,rfl,hb⟩
   obtain rfl:=si h
   exact hQ _ _ _ (Outs.out nofun (Exits.on ⟨rfl,hb⟩))
  rw [hq5] at h
  simp only [] at h
  refine kp (punctualref_ReadImage_p2 K w0 l0 A0 c0 hR0 hL0 b1 b2 hc1 b4 b5 i2 m1 m2 hc4 e2 hx7 b6 Z1 cz1 Z2 cz2 _ hq5 _ hS38 _ ?_)
  rintro _ a w1 ⟨_,rfl,hb⟩
  obtain rfl:=si h
  exact hQ _ _ _ (Outs.out nofun (Exits.on ⟨rfl,hb⟩))
 rw [if_neg hc4] at h
 refine wk 45 (decide ((i2:Int)<(l0.length:Int))) false (decide_eq_false hc4)<|wf ?_
 have hS214:=(((((hS.b 5).b 5).b 5).b 5).b 5).b 5
 obtain rfl:=si h
 exact we_exit fun a hF=>hQ _ _ _ (Outs.out nofun (Exits.here ⟨v1,v2,hS214,hF.weaken ea⟩))
abbrev punctualref_ReadImage.A6 (w0:World) (l0:List SIns) (A0:OA) (c0 b1 b2 b4:Nat) (m6:List Sregion) (Z6:OA) (cz6:Nat):Nat→Act→World→Prop:=fun (s:Nat) a w=>St w0 w [bk b4 #[.slice A0 l0.length c0,(.slice Z6 m6.length cz6)] 70,bk b2 #[vI 0,vI 0] 25,bk b1 #[.slice A0 l0.length c0] 22,ro Z6 cz6 74 m6]∧Frm 230 a [(1,pP b1 0),(3,pP b2 0),(7,pP b4 0),(170,.slice A0 l0.length c0),(171,vI (l0.length:Int)),(172,vI (s:Int))]
abbrev punctualref_ReadImage.B6 (w0:World) (l0:List SIns) (A0:OA) (c0 b1 b2 b4:Nat) (m6:List Sregion) (Z6:OA) (cz6:Nat):(Unit ⊕ ((Option PImage)×SFault))→Exit→Act→World→Prop:=Exits 5 (fun (s:Unit) a w=>St w0 w [bk b4 #[.slice A0 l0.length c0,(.slice Z6 m6.length cz6)] 70,bk b2 #[vI 0,vI 0] 25,bk b1 #[.slice A0 l0.length c0] 22,ro Z6 cz6 74 m6]∧Frm 230 a [(1,pP b1 0),(3,pP b2 0),(7,pP b4 0)]) (Rets Tryd.prog Tryd.f11 (punctualref_ReadImage.Post w0 l0 A0 c0))
theorem punctualref_ReadImage_r6 (K:Nat) (w0:World) (l0:List SIns) (A0:OA) (c0:Nat) (hR0:RdL w0 A0 l0) (hL0:l0.length≤c0) (b1 b2:Nat) (hc1:¬ ((l0.length:Int) > 2000)) (b4 b5:Nat) (m5:List Int) (m6:List Sregion) (Z5:OA) (cz5:Nat) (hc24:¬ ((m5.length:Int) > 0)) (Z6:OA) (cz6 s:Nat) (o:Nat ⊕ (Unit ⊕ ((Option PImage)×SFault))) (h:punctualref_ReadImage.r6 K l0 m6 s=some o) (a:Act) (w:World) (hA:punctualref_ReadImage.A6 w0 l0 A0 c0 b1 b2 b4 m6 Z6 cz6 s a w) (Q:Exit→Act→World→Prop) (hQ:∀ x a w,Outs (punctualref_ReadImage.A6 w0 l0 A0 c0 b1 b2 b4 m6 Z6 cz6) (punctualref_ReadImage.B6 w0 l0 A0 c0 b1 b2 b4 m6 Z6 cz6) o x a w→Q x a w):(subF Tryd.f11 [1,1,1,1,1,1,1,0,1,0,0]).wp Tryd.prog Q a w:=by
 obtain ⟨i3,hs⟩:∃ z,z=s:=⟨s,rfl⟩
 subst hs
 obtain ⟨hS,hF⟩:=hA
 replace hS:St w0 w [bk b4 #[.slice A0 l0.length c0,(.slice Z6 m6.length cz6)] 70,bk b2 #[vI 0,vI 0] 25,bk b1 #[.slice A0 l0.length c0] 22,ro Z6 cz6 74 m6]:=hS
 simp only [punctualref_ReadImage.r6] at h
 refine (?_:WE Tryd.prog 230 (subF Tryd.f11 [1,1,1,1,1,1,1,0,1,0,0]) Q [(1,pP b1 0),(3,pP b2 0),(7,pP b4 0),(170,.slice A0 l0.length c0),(171,vI (l0.length:Int)),(172,vI (i3:Int))] w) a hF
 clear hF a
 refine ws fun K52 hK52=>wr [(0,0)]<|gb0 [0] [(173,.bool (decide ((i3:Int)<(l0.length:Int))))]<|gn hK52<|ws fun K53 hK53=>?_
 by_cases hc27:(i3:Int)<(l0.length:Int)
 ·rw [if_pos hc27] at h
  refine wk 173 (decide ((i3:Int)<(l0.length:Int))) true (decide_eq_true hc27)<|wt<|we_skip fun a hF=>hK53 _ _ ?_ a hF
  refine ws fun K54 hK54=>we_block<|ws fun K55 hK55=>wr [(0,0),(1,0),(2,0),(3,1),(4,0),(5,2)]<|gb0 [0] [(174,vI (i3:Int))] ?_
  rcases hx21:l0[i3]? with _ | e7
  ·rw [hx21] at h; cases h
  rw [hx21] at h
  simp only [] at h
  refine gi 175 0 22 29 3 l0.length c0 (.tmp 170) (.tmp 172) A0 .i64 (i3:Int) i3 ((hS.rd hR0).eqSome (pos_of_get hx21)) rfl (lt_of_get hx21) ?_
  refine gb [2] [(176,.agg #[vI e7.Op,vI e7.A,vI e7.B])] [.loaded ⟨blkOf A0,offOf A0+i3*3,none⟩ (vI e7.Op),.loaded ⟨blkOf A0,offOf A0+i3*3+1,none⟩ (vI e7.A),.loaded ⟨blkOf A0,offOf A0+i3*3+2,none⟩ (vI e7.B)] ⟨RdL.cell (j:=0) (hS.rd hR0) hx21 rfl,RdL.cell (j:=1) (hS.rd hR0) hx21 rfl,RdL.cell (j:=2) (hS.rd hR0) hx21 rfl,trivial⟩<|gw (some 14) (.cells #[vI 0,vI 0,vI 0] 29) (fun b=>pP b 0) hS fun b15 w63 hx22 hS234=>?_
  refine gb0 [4] [(13,vI (i3:Int))]<|gs b15 0 #[vI 0,vI 0,vI 0] 29 [vI e7.Op,vI e7.A,vI e7.B] hS234 fun w64 hS235=>?_
  have hS236:=hS235.nc #[vI e7.Op,vI e7.A,vI e7.B] rfl
  refine gn hK55<|ws fun K56 hK56=>ws fun K57 hK57=>wr [(0,0),(1,0),(2,0),(3,0),(4,0),(5,0),(6,0),(7,0)]<|gb [0,1,2,3] [(180,.bool (e7.Op != 11)),(179,.bool (e7.Op != 11)),(178,vI e7.Op),(177,pP b15 0)] [ld b15 0 (vI e7.Op)] ⟨hS236.c 0,trivial⟩ ?_
  by_cases hc28:e7.Op=11
  ·rw [if_pos hc28] at h
   refine gk 180 (e7.Op != 11) false (bne_eq_false_iff_eq.2 hc28)<|gb0 [4,5,6,7] [(184,.bool false),(183,undef),(182,undef),(181,undef)]<|gn hK57<|wf<|we_skip fun a hF=>hK56 _ _ ?_ a hF
   refine ws fun K58 hK58=>wr [(0,0),(1,0),(2,1),(3,0),(4,0),(5,0),(6,1),(7,2),(8,0)] ?_
   rcases hq20:punctualref_Image_inner.f K l0 m6 (i3:Int) with _ | r4
   ·rw [hq20] at h; cases h
   rw [hq20] at h
   simp only [] at h
   refine gb0 [0,1] [(187,vI (i3:Int)),(186,pP b4 0)]<|ge_call (d:=some 188) (f:=33) (args:=#[pP b4 0,vI (i3:Int)]) (by kernel_rfl) (punctualref_Image_inner_ok K b4 l0 A0 c0 m6 Z6 cz6 (i3:Int) _ (hS236.rd hR0) hL0 (hS236.rdAt 4 rfl) (hS236.capAt 4 rfl) (hS236.globOf 1 rfl) _ hq20) ?_
   rintro _ w65 ⟨rfl,hS237⟩
   refine ⟨_,rfl,hS237.below,?_⟩
   have hS238:=hS236.call hS237
   refine gb0 [3,4,5] [(190,.bool r4.2),(189,.agg #[vI r4.1.open_,vI r4.1.close]),(185,.tuple #[.agg #[vI r4.1.open_,vI r4.1.close],.bool r4.2])]<|gw (some 15) (.cells #[vI 0,vI 0] 74) (fun b=>pP b 0) hS238 fun b16 w66 hx23 hS239=>?_
   refine gs b16 0 #[vI 0,vI 0] 74 [vI r4.1.open_,vI r4.1.close] hS239 fun w67 hS240=>?_
   have hS241:=hS240.nc #[vI r4.1.open_,vI r4.1.close] rfl
   refine gb0 [8] [(16,.bool r4.2)]<|gn hK58<|ws fun K59 hK59=>wr [(0,0),(1,0),(2,0),(3,1),(4,0),(5,0),(6,0),(7,1),(8,2),(9,0)] ?_
   rcases hq21:punctualref_Image_inner.f K l0 m6 e7.A with _ | r5
   ·rw [hq21] at h; cases h
   rw [hq21] at h
   simp only [] at h
   refine gb [0,1,2] [(194,vI e7.A),(193,pP b15 1),(192,pP b4 0)] [ld b15 1 (vI e7.A)] ⟨hS241.c 1,trivial⟩<|ge_call (d:=some 195) (f:=33) (args:=#[pP b4 0,vI e7.A]) (by kernel_rfl) (punctualref_Image_inner_ok K b4 l0 A0 c0 m6 Z6 cz6 e7.A _ (hS241.rd hR0) hL0 (hS241.rdAt 5 rfl) (hS241.capAt 5 rfl) (hS241.globOf 2 rfl) _ hq21) ?_
   rintro _ w68 ⟨rfl,hS242⟩
   refine ⟨_,rfl,hS242.below,?_⟩
   have hS243:=hS241.call hS242
   refine gb0 [4,5,6] [(197,.bool r5.2),(196,.agg #[vI r5.1.open_,vI r5.1.close]),(191,.tuple #[.agg #[vI r5.1.open_,vI r5.1.close],.bool r5.2])]<|gw (some 17) (.cells #[vI 0,vI 0] 74) (fun b=>pP b 0) hS243 fun b17 w69 hx24 hS244=>?_
   refine gs b17 0 #[vI 0,vI 0] 74 [vI r5.1.open_,vI r5.1.close] hS244 fun w70 hS245=>?_
   have hS246:=hS245.nc #[vI r5.1.open_,vI r5.1.close] rfl
   refine gb0 [9] [(18,.bool r5.2)]<|gn hK59<|ws fun K60 hK60=>wr [(0,0),(1,0),(2,0),(3,0),(4,0),(5,0),(6,0),(7,0),(8,0),(9,0),(10,0),(11,0),(12,0),(13,0),(14,0),(15,0),(16,0),(17,0),(18,0),(19,0),(20,0)]<|gb [0,1,2,3,4] [(202,.bool (decide (e7.A≤(i3:Int)))),(201,.bool (decide (e7.A≤(i3:Int)))),(200,vI (i3:Int)),(199,vI e7.A),(198,pP b15 1)] [ld b15 1 (vI e7.A)] ⟨hS246.c 2,trivial⟩ ?_
   by_cases hc29:e7.A≤(i3:Int)
   ·rw [if_pos hc29] at h
    refine gk 202 (decide (e7.A≤(i3:Int))) true (decide_eq_true hc29)<|gb0 [5,6,7,8,9,10,11,12,13,14,15,16,17,18,19,20] [(218,.bool true),(217,undef),(216,undef),(215,undef),(214,.bool true),(213,.bool true),(212,undef),(211,undef),(210,undef),(209,.bool true),(208,.bool true),(207,undef),(206,undef),(205,undef),(204,undef),(203,undef)]<|gn hK60<|wt<|ws fun K61 hK61=>wr [(0,0),(1,1),(2,0),(3,2)]<|gb0 [0] [(219,vI (i3:Int))]<|ge_call (d:=some 220) (f:=9) (args:=#[vI 7,vI (i3:Int)]) (by kernel_rfl) (punctualref_F_ok 7 (i3:Int) _ _ rfl) ?_
    rintro _ w71 ⟨rfl,hS247⟩
    refine ⟨_,rfl,hS247.below,?_⟩
    have hS248:=hS246.call hS247
    refine gb0 [2] [(2,.pointer none)] ?_
    have hS249:=hS248.b 4
    refine gs b2 0 #[vI 0,vI 0] 25 [vI ((punctualref_F.f 7 (i3:Int)).Code),vI ((punctualref_F.f 7 (i3:Int)).At)] hS249 fun w72 hS250=>?_
    have hS251:=hS250.nc #[vI ((punctualref_F.f 7 (i3:Int)).Code),vI ((punctualref_F.f 7 (i3:Int)).At)] rfl
    refine gn hK61 ?_
    have hS252:=hS251.takeN 0
    obtain rfl:=si h
    exact we_ret fun a hF=>hQ _ _ _ (Outs.out nofun (Exits.on ⟨rfl,(pr [.tmp 2,.cell 3 25] [.pointer none,.agg #[vI ((punctualref_F.f 7 (i3:Int)).Code),vI ((punctualref_F.f 7 (i3:Int)).At)]] [ld b2 0 (vI ((punctualref_F.f 7 (i3:Int)).Code)),ld b2 1 (vI ((punctualref_F.f 7 (i3:Int)).At))] ⟨hS251.c 0,hS251.c 0,trivial⟩ ⟨rfl,hS252⟩) a hF⟩))
   rw [if_neg hc29] at h
   refine gk 202 (decide (e7.A≤(i3:Int))) false (decide_eq_false hc29)<|gb [5,6,7,8,9,10,11] [(209,.bool (decide (e7.A > (l0.length:Int)))),(208,.bool (decide (e7.A > (l0.length:Int)))),(207,.bool (decide (e7.A > (l0.length:Int)))),(206,vI (l0.length:Int)),(205,.slice A0 l0.length c0),(204,vI e7.A),(203,pP b15 1)] [ld b15 1 (vI e7.A),ld b1 0 (.slice A0 l0.length c0)] ⟨hS246.c 2,hS246.c 5,trivial⟩ ?_
   by_cases hc30:e7.A > (l0.length:Int)
   ·rw [if_pos hc30] at h
    refine gk 209 (decide (e7.A > (l0.length:Int))) true (decide_eq_true hc30)<|gb0 [12,13,14,15,16,17,18,19,20] [(218,.bool true),(217,undef),(216,undef),(215,undef),(214,.bool true),(213,.bool true),(212,undef),(211,undef),(210,undef)]<|gn hK60<|wt<|ws fun K62 hK62=>wr [(0,0),(1,1),(2,0),(3,2)]<|gb0 [0] [(219,vI (i3:Int))]<|ge_call (d:=some 220) (f:=9) (args:=#[vI 7,vI (i3:Int)]) (by kernel_rfl) (punctualref_F_ok 7 (i3:Int) _ _ rfl) ?_
    rintro _ w73 ⟨rfl,hS253⟩
    refine ⟨_,rfl,hS253.below,?_⟩
    have hS254:=hS246.call hS253
    refine gb0 [2] [(2,.pointer none)] ?_
    have hS255:=hS254.b 4
    refine gs b2 0 #[vI 0,vI 0] 25 [vI ((punctualref_F.f 7 (i3:Int)).Code),vI ((punctualref_F.f 7 (i3:Int)).At)] hS255 fun w74 hS256=>?_
    have hS257:=hS256.nc #[vI ((punctualref_F.f 7 (i3:Int)).Code),vI ((punctualref_F.f 7 (i3:Int)).At)] rfl
    refine gn hK62 ?_
    have hS258:=hS257.takeN 0
    obtain rfl:=si h
    exact we_ret fun a hF=>hQ _ _ _ (Outs.out nofun (Exits.on ⟨rfl,(pr [.tmp 2,.cell 3 25] [.pointer none,.agg #[vI ((punctualref_F.f 7 (i3:Int)).Code),vI ((punctualref_F.f 7 (i3:Int)).At)]] [ld b2 0 (vI ((punctualref_F.f 7 (i3:Int)).Code)),ld b2 1 (vI ((punctualref_F.f 7 (i3:Int)).At))] ⟨hS257.c 0,hS257.c 0,trivial⟩ ⟨rfl,hS258⟩) a hF⟩))
   rw [if_neg hc30] at h
   refine gk 209 (decide (e7.A > (l0.length:Int))) false (decide_eq_false hc30)<|gb0 [12,13,14,15,16] [(214,.bool (r4.2 != r5.2)),(213,.bool (r4.2 != r5.2)),(212,.bool (r4.2 != r5.2)),(211,.bool r5.2),(210,.bool r4.2)] ?_
   by_cases hc31:r4.2=r5.2
   ·rw [if_pos hc31] at h
    refine gk 214 (r4.2 != r5.2) false (bne_eq_false_iff_eq.2 hc31)<|gb [17,18] [(216,.agg #[vI r5.1.open_,vI r5.1.close]),(215,.agg #[vI r4.1.open_,vI r4.1.close])] [ld b16 0 (vI r4.1.open_),ld b16 1 (vI r4.1.close),ld b17 0 (vI r5.1.open_),ld b17 1 (vI r5.1.close)] ⟨hS246.c 1,hS246.c 1,hS246.c 0,hS246.c 0,trivial⟩<|ge_eqs (d:=217) (ty:=4) (op:=.neq) (x:=(.tmp 215)) (y:=(.tmp 216)) (t:=74) (t2:=74) (xs:=#[vI r4.1.open_,vI r4.1.close]) (ys:=#[vI r5.1.open_,vI r5.1.close]) (r:=(Sregion.eqb r4.1 r5.1)) (v:=!(Sregion.eqb r4.1 r5.1)) (by kernel_rfl) (by kernel_rfl) (by kernel_rfl) (by kernel_rfl) (by kernel_rfl) rfl ?_
    refine gb0 [20] [(218,.bool (!(Sregion.eqb r4.1 r5.1)))]<|gn hK60 ?_
    by_cases hc32:(Sregion.eqb r4.1 r5.1)=true
    ·rw [if_pos hc32] at h
     refine wk 218 (!(Sregion.eqb r4.1 r5.1)) false (congrArg (fun z=>!z) hc32)<|wf<|we_skip fun a hF=>hK54 _ _ ?_ a hF
     refine wr [(0,0),(1,0)]<|ge_addn (d:=221) (ty:=3) (x:=(.tmp 172)) (y:=(.const (vI 1))) (t:=3) (t2:=3) (k:=.i64) (m:=i3) (by kernel_rfl) (by kernel_rfl) (by kernel_rfl) (by have h0:=hR0.small; omega) ?_
     refine gb0 [1] [(172,vI ((i3+1:Nat):Int))] ?_
     have hS263:=hS246.p [3,4,5,6] rfl
     obtain rfl:=si h
     exact ge_nil fun a hF=>hQ _ _ _ (Outs.again ⟨hS263,hF.weaken ea⟩)
    rw [if_neg hc32] at h
    refine wk 218 (!(Sregion.eqb r4.1 r5.1)) true (congrArg (fun z=>!z) (Bool.eq_false_iff.2 hc32))<|wt<|ws fun K63 hK63=>wr [(0,0),(1,1),(2,0),(3,2)]<|gb0 [0] [(219,vI (i3:Int))]<|ge_call (d:=some 220) (f:=9) (args:=#[vI 7,vI (i3:Int)]) (by kernel_rfl) (punctualref_F_ok 7 (i3:Int) _ _ rfl) ?_
    rintro _ w75 ⟨rfl,hS264⟩
    refine ⟨_,rfl,hS264.below,?_⟩
    have hS265:=hS246.call hS264
    refine gb0 [2] [(2,.pointer none)] ?_
    have hS266:=hS265.b 4
    refine gs b2 0 #[vI 0,vI 0] 25 [vI ((punctualref_F.f 7 (i3:Int)).Code),vI ((punctualref_F.f 7 (i3:Int)).At)] hS266 fun w76 hS267=>?_
    have hS268:=hS267.nc #[vI ((punctualref_F.f 7 (i3:Int)).Code),vI ((punctualref_F.f 7 (i3:Int)).At)] rfl
    refine gn hK63 ?_
    have hS269:=hS268.takeN 0
    obtain rfl:=si h
    exact we_ret fun a hF=>hQ _ _ _ (Outs.out nofun (Exits.on ⟨rfl,(pr [.tmp 2,.cell 3 25] [.pointer none,.agg #[vI ((punctualref_F.f 7 (i3:Int)).Code),vI ((punctualref_F.f 7 (i3:Int)).At)]] [ld b2 0 (vI ((punctualref_F.f 7 (i3:Int)).Code)),ld b2 1 (vI ((punctualref_F.f 7 (i3:Int)).At))] ⟨hS268.c 0,hS268.c 0,trivial⟩ ⟨rfl,hS269⟩) a hF⟩))
   rw [if_neg hc31] at h
   refine gk 214 (r4.2 != r5.2) true (bne_iff_ne.2 hc31)<|gb0 [17,18,19,20] [(218,.bool true),(217,undef),(216,undef),(215,undef)]<|gn hK60<|wt<|ws fun K64 hK64=>wr [(0,0),(1,1),(2,0),(3,2)]<|gb0 [0] [(219,vI (i3:Int))]<|ge_call (d:=some 220) (f:=9) (args:=#[vI 7,vI (i3:Int)]) (by kernel_rfl) (punctualref_F_ok 7 (i3:Int) _ _ rfl) ?_
   rintro _ w77 ⟨rfl,hS270⟩
   refine ⟨_,rfl,hS270.below,?_⟩
   have hS271:=hS246.call hS270
   refine gb0 [2] [(2,.pointer none)] ?_
   have hS272:=hS271.b 4
   refine gs b2 0 #[vI 0,vI 0] 25 [vI ((punctualref_F.f 7 (i3:Int)).Code),vI ((punctualref_F.f 7 (i3:Int)).At)] hS272 fun w78 hS273=>?_
   have hS274:=hS273.nc #[vI ((punctualref_F.f 7 (i3:Int)).Code),vI ((punctualref_F.f 7 (i3:Int)).At)] rfl
   refine gn hK64 ?_
   have hS275:=hS274.takeN 0
   obtain rfl:=si h
   exact we_ret fun a hF=>hQ _ _ _ (Outs.out nofun (Exits.on ⟨rfl,(pr [.tmp 2,.cell 3 25] [.pointer none,.agg #[vI ((punctualref_F.f 7 (i3:Int)).Code),vI ((punctualref_F.f 7 (i3:Int)).At)]] [ld b2 0 (vI ((punctualref_F.f 7 (i3:Int)).Code)),ld b2 1 (vI ((punctualref_F.f 7 (i3:Int)).At))] ⟨hS274.c 0,hS274.c 0,trivial⟩ ⟨rfl,hS275⟩) a hF⟩))
  rw [if_neg hc28] at h
  refine gk 180 (e7.Op != 11) true (bne_iff_ne.2 hc28)<|gb [4,5,6,7] [(184,.bool (e7.Op != 12)),(183,.bool (e7.Op != 12)),(182,vI e7.Op),(181,pP b15 0)] [ld b15 0 (vI e7.Op)] ⟨hS236.c 0,trivial⟩<|gn hK57 ?_
  by_cases hc33:e7.Op=12
  ·rw [if_pos hc33] at h
   refine wk 184 (e7.Op != 12) false (bne_eq_false_iff_eq.2 hc33)<|wf<|we_skip fun a hF=>hK56 _ _ ?_ a hF
   refine ws fun K65 hK65=>wr [(0,0),(1,0),(2,1),(3,0),(4,0),(5,0),(6,1),(7,2),(8,0)] ?_
   rcases hq26:punctualref_Image_inner.f K l0 m6 (i3:Int) with _ | r6
   ·rw [hq26] at h; cases h
   rw [hq26] at h
   simp only [] at h
   refine gb0 [0,1] [(187,vI (i3:Int)),(186,pP b4 0)]<|ge_call (d:=some 188) (f:=33) (args:=#[pP b4 0,vI (i3:Int)]) (by kernel_rfl) (punctualref_Image_inner_ok K b4 l0 A0 c0 m6 Z6 cz6 (i3:Int) _ (hS236.rd hR0) hL0 (hS236.rdAt 4 rfl) (hS236.capAt 4 rfl) (hS236.globOf 1 rfl) _ hq26) ?_
   rintro _ w79 ⟨rfl,hS276⟩
   refine ⟨_,rfl,hS276.below,?_⟩
   have hS277:=hS236.call hS276
   refine gb0 [3,4,5] [(190,.bool r6.2),(189,.agg #[vI r6.1.open_,vI r6.1.close]),(185,.tuple #[.agg #[vI r6.1.open_,vI r6.1.close],.bool r6.2])]<|gw (some 15) (.cells #[vI 0,vI 0] 74) (fun b=>pP b 0) hS277 fun b18 w80 hx25 hS278=>?_
   refine gs b18 0 #[vI 0,vI 0] 74 [vI r6.1.open_,vI r6.1.close] hS278 fun w81 hS279=>?_
   have hS280:=hS279.nc #[vI r6.1.open_,vI r6.1.close] rfl
   refine gb0 [8] [(16,.bool r6.2)]<|gn hK65<|ws fun K66 hK66=>wr [(0,0),(1,0),(2,0),(3,1),(4,0),(5,0),(6,0),(7,1),(8,2),(9,0)] ?_
   rcases hq27:punctualref_Image_inner.f K l0 m6 e7.A with _ | r7
   ·rw [hq27] at h; cases h
   rw [hq27] at h
   simp only [] at h
   refine gb [0,1,2] [(194,vI e7.A),(193,pP b15 1),(192,pP b4 0)] [ld b15 1 (vI e7.A)] ⟨hS280.c 1,trivial⟩<|ge_call (d:=some 195) (f:=33) (args:=#[pP b4 0,vI e7.A]) (by kernel_rfl) (punctualref_Image_inner_ok K b4 l0 A0 c0 m6 Z6 cz6 e7.A _ (hS280.rd hR0) hL0 (hS280.rdAt 5 rfl) (hS280.capAt 5 rfl) (hS280.globOf 2 rfl) _ hq27) ?_
   rintro _ w82 ⟨rfl,hS281⟩
   refine ⟨_,rfl,hS281.below,?_⟩
   have hS282:=hS280.call hS281
   refine gb0 [4,5,6] [(197,.bool r7.2),(196,.agg #[vI r7.1.open_,vI r7.1.close]),(191,.tuple #[.agg #[vI r7.1.open_,vI r7.1.close],.bool r7.2])]<|gw (some 17) (.cells #[vI 0,vI 0] 74) (fun b=>pP b 0) hS282 fun b19 w83 hx26 hS283=>?_
   refine gs b19 0 #[vI 0,vI 0] 74 [vI r7.1.open_,vI r7.1.close] hS283 fun w84 hS284=>?_
   have hS285:=hS284.nc #[vI r7.1.open_,vI r7.1.close] rfl
   refine gb0 [9] [(18,.bool r7.2)]<|gn hK66<|ws fun K67 hK67=>wr [(0,0),(1,0),(2,0),(3,0),(4,0),(5,0),(6,0),(7,0),(8,0),(9,0),(10,0),(11,0),(12,0),(13,0),(14,0),(15,0),(16,0),(17,0),(18,0),(19,0),(20,0)]<|gb [0,1,2,3,4] [(202,.bool (decide (e7.A≤(i3:Int)))),(201,.bool (decide (e7.A≤(i3:Int)))),(200,vI (i3:Int)),(199,vI e7.A),(198,pP b15 1)] [ld b15 1 (vI e7.A)] ⟨hS285.c 2,trivial⟩ ?_
   by_cases hc34:e7.A≤(i3:Int)
   ·rw [if_pos hc34] at h
    refine gk 202 (decide (e7.A≤(i3:Int))) true (decide_eq_true hc34)<|gb0 [5,6,7,8,9,10,11,12,13,14,15,16,17,18,19,20] [(218,.bool true),(217,undef),(216,undef),(215,undef),(214,.bool true),(213,.bool true),(212,undef),(211,undef),(210,undef),(209,.bool true),(208,.bool true),(207,undef),(206,undef),(205,undef),(204,undef),(203,undef)]<|gn hK67<|wt<|ws fun K68 hK68=>wr [(0,0),(1,1),(2,0),(3,2)]<|gb0 [0] [(219,vI (i3:Int))]<|ge_call (d:=some 220) (f:=9) (args:=#[vI 7,vI (i3:Int)]) (by kernel_rfl) (punctualref_F_ok 7 (i3:Int) _ _ rfl) ?_
    rintro _ w85 ⟨rfl,hS286⟩
    refine ⟨_,rfl,hS286.below,?_⟩
    have hS287:=hS285.call hS286
    refine gb0 [2] [(2,.pointer none)] ?_
    have hS288:=hS287.b 4
    refine gs b2 0 #[vI 0,vI 0] 25 [vI ((punctualref_F.f 7 (i3:Int)).Code),vI ((punctualref_F.f 7 (i3:Int)).At)] hS288 fun w86 hS289=>?_
    have hS290:=hS289.nc #[vI ((punctualref_F.f 7 (i3:Int)).Code),vI ((punctualref_F.f 7 (i3:Int)).At)] rfl
    refine gn hK68 ?_
    have hS291:=hS290.takeN 0
    obtain rfl:=si h
    exact we_ret fun a hF=>hQ _ _ _ (Outs.out nofun (Exits.on ⟨rfl,(pr [.tmp 2,.cell 3 25] [.pointer none,.agg #[vI ((punctualref_F.f 7 (i3:Int)).Code),vI ((punctualref_F.f 7 (i3:Int)).At)]] [ld b2 0 (vI ((punctualref_F.f 7 (i3:Int)).Code)),ld b2 1 (vI ((punctualref_F.f 7 (i3:Int)).At))] ⟨hS290.c 0,hS290.c 0,trivial⟩ ⟨rfl,hS291⟩) a hF⟩))
   rw [if_neg hc34] at h
   refine gk 202 (decide (e7.A≤(i3:Int))) false (decide_eq_false hc34)<|gb [5,6,7,8,9,10,11] [(209,.bool (decide (e7.A > (l0.length:Int)))),(208,.bool (decide (e7.A > (l0.length:Int)))),(207,.bool (decide (e7.A > (l0.length:Int)))),(206,vI (l0.length:Int)),(205,.slice A0 l0.length c0),(204,vI e7.A),(203,pP b15 1)] [ld b15 1 (vI e7.A),ld b1 0 (.slice A0 l0.length c0)] ⟨hS285.c 2,hS285.c 5,trivial⟩ ?_
   by_cases hc35:e7.A > (l0.length:Int)
   ·rw [if_pos hc35] at h
    refine gk 209 (decide (e7.A > (l0.length:Int))) true (decide_eq_true hc35)<|gb0 [12,13,14,15,16,17,18,19,20] [(218,.bool true),(217,undef),(216,undef),(215,undef),(214,.bool true),(213,.bool true),(212,undef),(211,undef),(210,undef)]<|gn hK67<|wt<|ws fun K69 hK69=>wr [(0,0),(1,1),(2,0),(3,2)]<|gb0 [0] [(219,vI (i3:Int))]<|ge_call (d:=some 220) (f:=9) (args:=#[vI 7,vI (i3:Int)]) (by kernel_rfl) (punctualref_F_ok 7 (i3:Int) _ _ rfl) ?_
    rintro _ w87 ⟨rfl,hS292⟩
    refine ⟨_,rfl,hS292.below,?_⟩
    have hS293:=hS285.call hS292
    refine gb0 [2] [(2,.pointer none)] ?_
    have hS294:=hS293.b 4
    refine gs b2 0 #[vI 0,vI 0] 25 [vI ((punctualref_F.f 7 (i3:Int)).Code),vI ((punctualref_F.f 7 (i3:Int)).At)] hS294 fun w88 hS295=>?_
    have hS296:=hS295.nc #[vI ((punctualref_F.f 7 (i3:Int)).Code),vI ((punctualref_F.f 7 (i3:Int)).At)] rfl
    refine gn hK69 ?_
    have hS297:=hS296.takeN 0
    obtain rfl:=si h
    exact we_ret fun a hF=>hQ _ _ _ (Outs.out nofun (Exits.on ⟨rfl,(pr [.tmp 2,.cell 3 25] [.pointer none,.agg #[vI ((punctualref_F.f 7 (i3:Int)).Code),vI ((punctualref_F.f 7 (i3:Int)).At)]] [ld b2 0 (vI ((punctualref_F.f 7 (i3:Int)).Code)),ld b2 1 (vI ((punctualref_F.f 7 (i3:Int)).At))] ⟨hS296.c 0,hS296.c 0,trivial⟩ ⟨rfl,hS297⟩) a hF⟩))
   rw [if_neg hc35] at h
   refine gk 209 (decide (e7.A > (l0.length:Int))) false (decide_eq_false hc35)<|gb0 [12,13,14,15,16] [(214,.bool (r6.2 != r7.2)),(213,.bool (r6.2 != r7.2)),(212,.bool (r6.2 != r7.2)),(211,.bool r7.2),(210,.bool r6.2)] ?_
   by_cases hc36:r6.2=r7.2
   ·rw [if_pos hc36] at h
    refine gk 214 (r6.2 != r7.2) false (bne_eq_false_iff_eq.2 hc36)<|gb [17,18] [(216,.agg #[vI r7.1.open_,vI r7.1.close]),(215,.agg #[vI r6.1.open_,vI r6.1.close])] [ld b18 0 (vI r6.1.open_),ld b18 1 (vI r6.1.close),ld b19 0 (vI r7.1.open_),ld b19 1 (vI r7.1.close)] ⟨hS285.c 1,hS285.c 1,hS285.c 0,hS285.c 0,trivial⟩<|ge_eqs (d:=217) (ty:=4) (op:=.neq) (x:=(.tmp 215)) (y:=(.tmp 216)) (t:=74) (t2:=74) (xs:=#[vI r6.1.open_,vI r6.1.close]) (ys:=#[vI r7.1.open_,vI r7.1.close]) (r:=(Sregion.eqb r6.1 r7.1)) (v:=!(Sregion.eqb r6.1 r7.1)) (by kernel_rfl) (by kernel_rfl) (by kernel_rfl) (by kernel_rfl) (by kernel_rfl) rfl ?_
    refine gb0 [20] [(218,.bool (!(Sregion.eqb r6.1 r7.1)))]<|gn hK67 ?_
    by_cases hc37:(Sregion.eqb r6.1 r7.1)=true
    ·rw [if_pos hc37] at h
     refine wk 218 (!(Sregion.eqb r6.1 r7.1)) false (congrArg (fun z=>!z) hc37)<|wf<|we_skip fun a hF=>hK54 _ _ ?_ a hF
     refine wr [(0,0),(1,0)]<|ge_addn (d:=221) (ty:=3) (x:=(.tmp 172)) (y:=(.const (vI 1))) (t:=3) (t2:=3) (k:=.i64) (m:=i3) (by kernel_rfl) (by kernel_rfl) (by kernel_rfl) (by have h0:=hR0.small; omega) ?_
     refine gb0 [1] [(172,vI ((i3+1:Nat):Int))] ?_
     have hS302:=hS285.p [3,4,5,6] rfl
     obtain rfl:=si h
     exact ge_nil fun a hF=>hQ _ _ _ (Outs.again ⟨hS302,hF.weaken ea⟩)
    rw [if_neg hc37] at h
    refine wk 218 (!(Sregion.eqb r6.1 r7.1)) true (congrArg (fun z=>!z) (Bool.eq_false_iff.2 hc37))<|wt<|ws fun K70 hK70=>wr [(0,0),(1,1),(2,0),(3,2)]<|gb0 [0] [(219,vI (i3:Int))]<|ge_call (d:=some 220) (f:=9) (args:=#[vI 7,vI (i3:Int)]) (by kernel_rfl) (punctualref_F_ok 7 (i3:Int) _ _ rfl) ?_
    rintro _ w89 ⟨rfl,hS303⟩
    refine ⟨_,rfl,hS303.below,?_⟩
    have hS304:=hS285.call hS303
    refine gb0 [2] [(2,.pointer none)] ?_
    have hS305:=hS304.b 4
    refine gs b2 0 #[vI 0,vI 0] 25 [vI ((punctualref_F.f 7 (i3:Int)).Code),vI ((punctualref_F.f 7 (i3:Int)).At)] hS305 fun w90 hS306=>?_
    have hS307:=hS306.nc #[vI ((punctualref_F.f 7 (i3:Int)).Code),vI ((punctualref_F.f 7 (i3:Int)).At)] rfl
    refine gn hK70 ?_
    have hS308:=hS307.takeN 0
    obtain rfl:=si h
    exact we_ret fun a hF=>hQ _ _ _ (Outs.out nofun (Exits.on ⟨rfl,(pr [.tmp 2,.cell 3 25] [.pointer none,.agg #[vI ((punctualref_F.f 7 (i3:Int)).Code),vI ((punctualref_F.f 7 (i3:Int)).At)]] [ld b2 0 (vI ((punctualref_F.f 7 (i3:Int)).Code)),ld b2 1 (vI ((punctualref_F.f 7 (i3:Int)).At))] ⟨hS307.c 0,hS307.c 0,trivial⟩ ⟨rfl,hS308⟩) a hF⟩))
   rw [if_neg hc36] at h
   refine gk 214 (r6.2 != r7.2) true (bne_iff_ne.2 hc36)<|gb0 [17,18,19,20] [(218,.bool true),(217,undef),(216,undef),(215,undef)]<|gn hK67<|wt<|ws fun K71 hK71=>wr [(0,0),(1,1),(2,0),(3,2)]<|gb0 [0] [(219,vI (i3:Int))]<|ge_call (d:=some 220) (f:=9) (args:=#[vI 7,vI (i3:Int)]) (by kernel_rfl) (punctualref_F_ok 7 (i3:Int) _ _ rfl) ?_
   rintro _ w91 ⟨rfl,hS309⟩
   refine ⟨_,rfl,hS309.below,?_⟩
   have hS310:=hS285.call hS309
   refine gb0 [2] [(2,.pointer none)] ?_
   have hS311:=hS310.b 4
   refine gs b2 0 #[vI 0,vI 0] 25 [vI ((punctualref_F.f 7 (i3:Int)).Code),vI ((punctualref_F.f 7 (i3:Int)).At)] hS311 fun w92 hS312=>?_
   have hS313:=hS312.nc #[vI ((punctualref_F.f 7 (i3:Int)).Code),vI ((punctualref_F.f 7 (i3:Int)).At)] rfl
   refine gn hK71 ?_
   have hS314:=hS313.takeN 0
   obtain rfl:=si h
   exact we_ret fun a hF=>hQ _ _ _ (Outs.out nofun (Exits.on ⟨rfl,(pr [.tmp 2,.cell 3 25] [.pointer none,.agg #[vI ((punctualref_F.f 7 (i3:Int)).Code),vI ((punctualref_F.f 7 (i3:Int)).At)]] [ld b2 0 (vI ((punctualref_F.f 7 (i3:Int)).Code)),ld b2 1 (vI ((punctualref_F.f 7 (i3:Int)).At))] ⟨hS313.c 0,hS313.c 0,trivial⟩ ⟨rfl,hS314⟩) a hF⟩))
  rw [if_neg hc33] at h
  refine wk 184 (e7.Op != 12) true (bne_iff_ne.2 hc33)<|wt<|we_exit fun a hF=>hK54 _ _ ?_ a hF
  refine wr [(0,0),(1,0)]<|ge_addn (d:=221) (ty:=3) (x:=(.tmp 172)) (y:=(.const (vI 1))) (t:=3) (t2:=3) (k:=.i64) (m:=i3) (by kernel_rfl) (by kernel_rfl) (by kernel_rfl) (by have h0:=hR0.small; omega) ?_
  refine gb0 [1] [(172,vI ((i3+1:Nat):Int))] ?_
  have hS319:=hS236.p [1,2,3,4] rfl
  obtain rfl:=si h
  exact ge_nil fun a hF=>hQ _ _ _ (Outs.again ⟨hS319,hF.weaken ea⟩)
 rw [if_neg hc27] at h
 refine wk 173 (decide ((i3:Int)<(l0.length:Int))) false (decide_eq_false hc27)<|wf ?_
 have hS323:=(((hS.b 3).b 3).b 3).b 3
 obtain rfl:=si h
 exact we_exit fun a hF=>hQ _ _ _ (Outs.out nofun (Exits.here ⟨hS323,hF.weaken ea⟩))
theorem punctualref_ReadImage_ok (K:Nat) (l0:List SIns) (A0:OA) (c0:Nat) (w0:World) (hR0:RdL w0 A0 l0) (hL0:l0.length≤c0) (r:(Option PImage)×SFault) (h:punctualref_ReadImage.f K l0=some r) :
  Calls Tryd.prog 11 #[.slice A0 l0.length c0] w0 (punctualref_ReadImage.Post w0 l0 A0 c0 r):=by
 have hS:=St.start w0
 unfold punctualref_ReadImage.f at h
 refine calls_enter (n:=230) (args:=[.slice A0 l0.length c0]) (fn:=Tryd.f11) rfl rfl rfl rfl ?_
 show WE _ _ _ _ [(0,.slice A0 l0.length c0)] _
 refine ws fun K1 hK1=>wr [(0,1),(1,0),(2,1)]<|gw (some 1) (.cells #[.slice A0 l0.length c0] 22) (fun b=>pP b 0) hS fun b1 w1 hx1 hS1=>?_
 refine gb0 [1] [(2,.pointer none)]<|gw (some 3) (.cells #[vI 0,vI 0] 25) (fun b=>pP b 0) hS1 fun b2 w2 hx2 hS2=>?_
 refine gn hK1<|ws fun K2 hK2=>ws fun K3 hK3=>wr [(0,0),(1,0),(2,0)]<|gb [0,1,2] [(22,.bool (decide ((l0.length:Int) > 2000))),(21,vI (l0.length:Int)),(20,.slice A0 l0.length c0)] [ld b1 0 (.slice A0 l0.length c0)] ⟨hS2.c 1,trivial⟩<|gn hK3 ?_
 by_cases hc1:(l0.length:Int) > 2000
 ·rw [if_pos hc1] at h
  refine wk 22 (decide ((l0.length:Int) > 2000)) true (decide_eq_true hc1)<|wt<|ws fun K4 hK4=>wr [(0,1),(1,0),(2,2)]<|ge_call (d:=some 23) (f:=9) (args:=#[vI 2,vI 0]) (by kernel_rfl) (punctualref_F_ok 2 0 _ _ rfl) ?_
  rintro _ w3 ⟨rfl,hS3⟩
  refine ⟨_,rfl,hS3.below,?_⟩
  have hS4:=hS2.call hS3
  refine gb0 [1] [(2,.pointer none)]<|gs b2 0 #[vI 0,vI 0] 25 [vI ((punctualref_F.f 2 0).Code),vI ((punctualref_F.f 2 0).At)] hS4 fun w4 hS5=>?_
  have hS6:=hS5.nc #[vI ((punctualref_F.f 2 0).Code),vI ((punctualref_F.f 2 0).At)] rfl
  refine gn hK4 ?_
  have hS7:=hS6.takeN 0
  obtain rfl:=si h
  exact we_ret (pr [.tmp 2,.cell 3 25] [.pointer none,.agg #[vI ((punctualref_F.f 2 0).Code),vI ((punctualref_F.f 2 0).At)]] [ld b2 0 (vI ((punctualref_F.f 2 0).Code)),ld b2 1 (vI ((punctualref_F.f 2 0).At))] ⟨hS6.c 0,hS6.c 0,trivial⟩ ⟨rfl,hS7⟩)
 rw [if_neg hc1] at h
 refine wk 22 (decide ((l0.length:Int) > 2000)) false (decide_eq_false hc1)<|wf<|we_skip fun a hF=>hK2 _ _ ?_ a hF
 refine ws fun K5 hK5=>ws fun K6 hK6=>wr [(0,0),(1,0),(2,0)]<|gb [0,1,2] [(26,vI 0),(25,vI (l0.length:Int)),(24,.slice A0 l0.length c0)] [ld b1 0 (.slice A0 l0.length c0)] ⟨hS2.c 1,trivial⟩<|gn hK6<|we_block ?_
 have hS9:=(hS2.b 1).b 1
 rcases hq4:iter (punctualref_ReadImage.r0 l0) K 0 with _ | (_ | rr7)
 ·rw [hq4] at h; cases h
 ·rw [hq4] at h
  simp only [] at h
  refine we_iter (A:=punctualref_ReadImage.A0 w0 l0 A0 c0 b1 b2) (B:=punctualref_ReadImage.B0 w0 l0 A0 c0 b1 b2) hq4 (fun a hF=>⟨hS9,hF.weaken ea⟩) (fun s o hf a w hA Q hQ=>punctualref_ReadImage_r0 K w0 l0 A0 c0 hR0 hL0 b1 b2 hc1 s o hf a w hA Q hQ) ?_
  rintro _ a w10 _ ⟨rfl,hS26,hF⟩
  replace hS26:St w0 w10 [bk b2 #[vI 0,vI 0] 25,bk b1 #[.slice A0 l0.length c0] 22]:=hS26
  refine hK5 [(1,pP b1 0),(3,pP b2 0)] w10 ?_ a hF
  refine ws fun K14 hK14=>wr [(0,0),(1,0),(2,1),(3,0)]<|gb [0,1] [(40,.agg #[.slice A0 l0.length c0,.slice none 0 0]),(39,.slice A0 l0.length c0)] [ld b1 0 (.slice A0 l0.length c0)] ⟨hS26.c 1,trivial⟩<|gw (some 41) (.cells #[.slice A0 l0.length c0,.slice none 0 0] 70) (fun b=>pP b 0) hS26 fun b4 w11 hx5 hS27=>?_
  refine gb0 [3] [(7,pP b4 0)]<|gn hK14<|ws fun K15 hK15=>wr [(0,1)]<|gw (some 8) (.cells #[.slice none 0 0] 37) (fun b=>pP b 0) hS27 fun b5 w12 hx6 hS28=>?_
  refine gn hK15<|ws fun K16 hK16=>ws fun K17 hK17=>wr [(0,0),(1,0),(2,0)]<|gb [0,1,2] [(44,vI 0),(43,vI (l0.length:Int)),(42,.slice A0 l0.length c0)] [ld b1 0 (.slice A0 l0.length c0)] ⟨hS28.c 3,trivial⟩<|gn hK17<|we_block ?_
  have hS29:=hS28.nil (α:=Int) 3
  have hS35:=(((((hS29.nil (α:=Sregion) 74).b 1).b 5).b 5).b 5).b 5
  rcases hq17:iter (punctualref_ReadImage.r1 K l0) K (0,([]:List Int),([]:List Sregion)) with _ | (⟨m5,m6⟩ | rr6)
  ·rw [hq17] at h; cases h
  ·rw [hq17] at h
   simp only [] at h
   refine we_iter (A:=punctualref_ReadImage.A1 w0 l0 A0 c0 b1 b2 b4 b5) (B:=punctualref_ReadImage.B1 w0 l0 A0 c0 b1 b2 b4 b5) hq17 (fun a hF=>⟨(.slice none 0 0),(.slice none 0 0),hS35,hF.weaken ea⟩) (fun s o hf a w hA Q hQ=>punctualref_ReadImage_r1 K w0 l0 A0 c0 hR0 hL0 b1 b2 hc1 b4 b5 s o hf a w hA Q hQ) ?_
   rintro _ a w58 _ ⟨rfl,v7,v8,hS215,hF⟩
   replace hS215:St w0 w58 [bk b5 #[v7] 37,bk b4 #[.slice A0 l0.length c0,v8] 70,bk b2 #[vI 0,vI 0] 25,bk b1 #[.slice A0 l0.length c0] 22,Own.of v7 3 m5,Own.of v8 74 m6]:=hS215
   refine hK16 [(1,pP b1 0),(3,pP b2 0),(7,pP b4 0),(8,pP b5 0)] w58 ?_ a hF
   refine ws fun K44 hK44=>ws fun K45 hK45=>wr [(0,0),(1,0),(2,0)]<|gb [0] [(151,v7)] [ld b5 0 (v7)] ⟨hS215.c 0,trivial⟩ ?_
   obtain ⟨Z5,cz5,rfl⟩:=hS215.open 4 rfl
   refine gb0 [1,2] [(153,.bool (decide ((m5.length:Int) > 0))),(152,vI (m5.length:Int))]<|gn hK45 ?_
   by_cases hc24:(m5.length:Int) > 0
   ·rw [if_pos hc24] at h
    refine wk 153 (decide ((m5.length:Int) > 0)) true (decide_eq_true hc24)<|wt<|ws fun K46 hK46=>ws fun K47 hK47=>we_draws (by kernel_rfl) [(0,0),(1,0),(2,0),(3,0),(4,0),(5,0),(6,0),(7,0)] (by kernel_rfl) ?_
    have hS216:=hS215.drew
    refine gb [0,1] [(155,(.slice Z5 m5.length cz5)),(154,.slice A0 l0.length c0)] [ld b1 0 (.slice A0 l0.length c0),ld b5 0 ((.slice Z5 m5.length cz5))] ⟨hS216.c 3,hS216.c 0,trivial⟩ ?_
    rcases hx19:m5[0]? with _ | e5
    ·rw [hx19] at h; cases h
    rw [hx19] at h
    simp only [] at h
    refine gi 156 0 37 3 1 m5.length cz5 (.tmp 155) (.const (vI 0)) Z5 .i64 0 0 ((hS216.rdAt 4 rfl).eqSome (pos_of_get hx19)) rfl (lt_of_get hx19) ?_
    refine gb [3] [(157,vI e5)] [.loaded ⟨blkOf Z5,offOf Z5+0*1,none⟩ (vI e5)] ⟨RdL.cell (j:=0) (hS216.rdAt 4 rfl) hx19 rfl,trivial⟩ ?_
    by_cases hc25:0≤e5
    ·rw [if_pos hc25] at h
     rcases hx20:l0[(e5).toNat]? with _ | e6
     ·rw [hx20] at h; cases h
     rw [hx20] at h
     simp only [] at h
     refine gi 158 0 22 29 3 l0.length c0 (.tmp 154) (.tmp 157) A0 .i64 e5 ((e5).toNat) ((hS216.rd hR0).eqSome (pos_of_get hx20)) (Int.toNat_of_nonneg hc25).symm (lt_of_get hx20) ?_
     refine gb [5,6,7] [(161,.bool (e6.Op==13)),(160,vI e6.Op),(159,.pointer (some ⟨blkOf A0,offOf A0+(e5).toNat*3,none⟩))] [.loaded ⟨blkOf A0,offOf A0+((e5).toNat)*3,none⟩ (vI e6.Op)] ⟨RdL.cell (j:=0) (hS216.rd hR0) hx20 rfl,trivial⟩<|gn hK47 ?_
     by_cases hc26:e6.Op=13
     ·rw [if_pos hc26] at h
      refine wk 161 (e6.Op==13) true (beq_iff_eq.2 hc26)<|wt<|ws fun K48 hK48=>wr [(0,0),(1,0),(2,0),(3,1),(4,0),(5,2)]<|gb [0] [(162,(.slice Z5 m5.length cz5))] [ld b5 0 ((.slice Z5 m5.length cz5))] ⟨hS216.c 0,trivial⟩<|gi 163 0 37 3 1 m5.length cz5 (.tmp 162) (.const (vI 0)) Z5 .i64 0 0 ((hS216.rdAt 4 rfl).eqSome (pos_of_get hx19)) rfl (lt_of_get hx19) ?_
      refine gb [2] [(164,vI e5)] [.loaded ⟨blkOf Z5,offOf Z5+0*1,none⟩ (vI e5)] ⟨RdL.cell (j:=0) (hS216.rdAt 4 rfl) hx19 rfl,trivial⟩<|ge_call (d:=some 165) (f:=9) (args:=#[vI 9,vI e5]) (by kernel_rfl) (punctualref_F_ok 9 e5 _ _ rfl) ?_
      rintro _ w59 ⟨rfl,hS217⟩
      refine ⟨_,rfl,hS217.below,?_⟩
      have hS218:=hS216.call hS217
      refine gb0 [4] [(2,.pointer none)] ?_
      have hS219:=hS218.b 2
      refine gs b2 0 #[vI 0,vI 0] 25 [vI ((punctualref_F.f 9 e5).Code),vI ((punctualref_F.f 9 e5).At)] hS219 fun w60 hS220=>?_
      have hS221:=hS220.nc #[vI ((punctualref_F.f 9 e5).Code),vI ((punctualref_F.f 9 e5).At)] rfl
      refine gn hK48 ?_
      have hS222:=hS221.takeN 0
      obtain rfl:=si h
      exact we_ret (pr [.tmp 2,.cell 3 25] [.pointer none,.agg #[vI ((punctualref_F.f 9 e5).Code),vI ((punctualref_F.f 9 e5).At)]] [ld b2 0 (vI ((punctualref_F.f 9 e5).Code)),ld b2 1 (vI ((punctualref_F.f 9 e5).At))] ⟨hS221.c 0,hS221.c 0,trivial⟩ ⟨rfl,hS222⟩)
     rw [if_neg hc26] at h
     refine wk 161 (e6.Op==13) false (beq_eq_false_iff_ne.2 hc26)<|wf<|we_skip fun a hF=>hK46 _ _ ?_ a hF
     refine ws fun K49 hK49=>wr [(0,0),(1,0),(2,0),(3,1),(4,0),(5,2)]<|gb [0] [(166,(.slice Z5 m5.length cz5))] [ld b5 0 ((.slice Z5 m5.length cz5))] ⟨hS216.c 0,trivial⟩<|gi 167 0 37 3 1 m5.length cz5 (.tmp 166) (.const (vI 0)) Z5 .i64 0 0 ((hS216.rdAt 4 rfl).eqSome (pos_of_get hx19)) rfl (lt_of_get hx19) ?_
     refine gb [2] [(168,vI e5)] [.loaded ⟨blkOf Z5,offOf Z5+0*1,none⟩ (vI e5)] ⟨RdL.cell (j:=0) (hS216.rdAt 4 rfl) hx19 rfl,trivial⟩<|ge_call (d:=some 169) (f:=9) (args:=#[vI 10,vI e5]) (by kernel_rfl) (punctualref_F_ok 10 e5 _ _ rfl) ?_
     rintro _ w61 ⟨rfl,hS223⟩
     refine ⟨_,rfl,hS223.below,?_⟩
     have hS224:=hS216.call hS223
     refine gb0 [4] [(2,.pointer none)] ?_
     have hS225:=hS224.b 2
     refine gs b2 0 #[vI 0,vI 0] 25 [vI ((punctualref_F.f 10 e5).Code),vI ((punctualref_F.f 10 e5).At)] hS225 fun w62 hS226=>?_
     have hS227:=hS226.nc #[vI ((punctualref_F.f 10 e5).Code),vI ((punctualref_F.f 10 e5).At)] rfl
     refine gn hK49 ?_
     have hS228:=hS227.takeN 0
     obtain rfl:=si h
     exact we_ret (pr [.tmp 2,.cell 3 25] [.pointer none,.agg #[vI ((punctualref_F.f 10 e5).Code),vI ((punctualref_F.f 10 e5).At)]] [ld b2 0 (vI ((punctualref_F.f 10 e5).Code)),ld b2 1 (vI ((punctualref_F.f 10 e5).At))] ⟨hS227.c 0,hS227.c 0,trivial⟩ ⟨rfl,hS228⟩)
    rw [if_neg hc25] at h
    cases h
   rw [if_neg hc24] at h
   refine wk 153 (decide ((m5.length:Int) > 0)) false (decide_eq_false hc24)<|wf<|we_skip fun a hF=>hK44 _ _ ?_ a hF
   refine ws fun K50 hK50=>ws fun K51 hK51=>wr [(0,0),(1,0),(2,0)]<|gb [0,1,2] [(172,vI 0),(171,vI (l0.length:Int)),(170,.slice A0 l0.length c0)] [ld b1 0 (.slice A0 l0.length c0)] ⟨hS215.c 3,trivial⟩<|gn hK51<|we_block ?_
   obtain ⟨Z6,cz6,rfl⟩:=hS215.open 5 rfl
   have hS233:=hS215.p [1,2,3,5] rfl
   rcases hq32:iter (punctualref_ReadImage.r6 K l0 m6) K 0 with _ | (_ | rr5)
   ·rw [hq32] at h; cases h
   ·rw [hq32] at h
    simp only [] at h
    refine we_iter (A:=punctualref_ReadImage.A6 w0 l0 A0 c0 b1 b2 b4 m6 Z6 cz6) (B:=punctualref_ReadImage.B6 w0 l0 A0 c0 b1 b2 b4 m6 Z6 cz6) hq32 (fun a hF=>⟨hS233,hF.weaken ea⟩) (fun s o hf a w hA Q hQ=>punctualref_ReadImage_r6 K w0 l0 A0 c0 hR0 hL0 b1 b2 hc1 b4 b5 m5 m6 Z5 cz5 hc24 Z6 cz6 s o hf a w hA Q hQ) ?_
    rintro _ a w93 _ ⟨rfl,hS324,hF⟩
    replace hS324:St w0 w93 [bk b4 #[.slice A0 l0.length c0,(.slice Z6 m6.length cz6)] 70,bk b2 #[vI 0,vI 0] 25,bk b1 #[.slice A0 l0.length c0] 22,ro Z6 cz6 74 m6]:=hS324
    refine hK50 [(1,pP b1 0),(3,pP b2 0),(7,pP b4 0)] w93 ?_ a hF
    refine ws fun K72 hK72=>ws fun K73 hK73=>wr [(0,0),(1,1),(2,1),(3,2)] ?_
    rcases hq33:punctualref_stackFault.f K l0 with _ | r8
    ·rw [hq33] at h; cases h
    rw [hq33] at h
    simp only [] at h
    refine gb [0] [(222,.slice A0 l0.length c0)] [ld b1 0 (.slice A0 l0.length c0)] ⟨hS324.c 2,trivial⟩<|ge_call (d:=some 223) (f:=34) (args:=#[.slice A0 l0.length c0]) (by kernel_rfl) (punctualref_stackFault_ok K l0 A0 c0 _ (hS324.rd hR0) hL0 _ hq33) ?_
    rintro _ w94 ⟨rfl,hS325⟩
    refine ⟨_,rfl,hS325.below,?_⟩
    have hS326:=hS324.call hS325
    refine gw (some 19) (.cells #[vI 0,vI 0] 25) (fun b=>pP b 0) hS326 fun b20 w95 hx27 hS327=>?_
    refine gs b20 0 #[vI 0,vI 0] 25 [vI r8.Code,vI r8.At] hS327 fun w96 hS328=>?_
    have hS329:=hS328.nc #[vI r8.Code,vI r8.At] rfl
    refine gn hK73<|ws fun K74 hK74=>wr [(0,0),(1,0),(2,0)]<|gb [0,1,2] [(226,.bool (r8.Code != 0)),(225,vI r8.Code),(224,pP b20 0)] [ld b20 0 (vI r8.Code)] ⟨hS329.c 0,trivial⟩<|gn hK74 ?_
    by_cases hc38:r8.Code=0
    ·rw [if_pos hc38] at h
     refine wk 226 (r8.Code != 0) false (bne_eq_false_iff_eq.2 hc38)<|wf<|we_skip fun a hF=>hK72 _ _ ?_ a hF
     refine ws fun K75 hK75=>wr [(0,0),(1,0),(2,0),(3,2)]<|gb0 [0,1,2] [(2,pP b4 0),(229,.agg #[vI 0,vI 0]),(228,pP b4 0)] ?_
     have hS330:=hS329.b 2
     refine gs b2 0 #[vI 0,vI 0] 25 [vI 0,vI 0] hS330 fun w97 hS331=>?_
     have hS332:=hS331.nc #[vI 0,vI 0] rfl
     refine gn hK75 ?_
     have hS335:=hS332.p [2,4] rfl
     obtain rfl:=si h
     exact we_ret (pr [.tmp 2,.cell 3 25] [pP b4 0,.agg #[vI 0,vI 0]] [ld b2 0 (vI 0),ld b2 1 (vI 0)] ⟨hS332.c 0,hS332.c 0,trivial⟩ ⟨b4,(.slice Z6 m6.length cz6),rfl,hS335⟩)
    rw [if_neg hc38] at h
    refine wk 226 (r8.Code != 0) true (bne_iff_ne.2 hc38)<|wt<|ws fun K76 hK76=>we_draws (by kernel_rfl) [(0,0),(1,0),(2,2)] (by kernel_rfl) ?_
    have hS336:=hS329.drew
    refine gb [0,1] [(2,.pointer none),(227,.agg #[vI r8.Code,vI r8.At])] [ld b20 0 (vI r8.Code),ld b20 1 (vI r8.At)] ⟨hS336.c 0,hS336.c 0,trivial⟩ ?_
    have hS337:=hS336.b 2
    refine gs b2 0 #[vI 0,vI 0] 25 [vI r8.Code,vI r8.At] hS337 fun w98 hS338=>?_
    have hS339:=hS338.nc #[vI r8.Code,vI r8.At] rfl
    refine gn hK76 ?_
    have hS340:=hS339.takeN 0
    obtain rfl:=si h
    exact we_ret (pr [.tmp 2,.cell 3 25] [.pointer none,.agg #[vI r8.Code,vI r8.At]] [ld b2 0 (vI r8.Code),ld b2 1 (vI r8.At)] ⟨hS339.c 0,hS339.c 0,trivial⟩ ⟨rfl,hS340⟩)
   rw [hq32] at h
   simp only [] at h
   refine we_iter (A:=punctualref_ReadImage.A6 w0 l0 A0 c0 b1 b2 b4 m6 Z6 cz6) (B:=punctualref_ReadImage.B6 w0 l0 A0 c0 b1 b2 b4 m6 Z6 cz6) hq32 (fun a hF=>⟨hS233,hF.weaken ea⟩) (fun s o hf a w hA Q hQ=>punctualref_ReadImage_r6 K w0 l0 A0 c0 hR0 hL0 b1 b2 hc1 b4 b5 m5 m6 Z5 cz5 hc24 Z6 cz6 s o hf a w hA Q hQ) ?_
   rintro _ a w1 _ ⟨rfl,hb⟩
   obtain rfl:=si h
   exact hb
  rw [hq17] at h
  simp only [] at h
  refine we_iter (A:=punctualref_ReadImage.A1 w0 l0 A0 c0 b1 b2 b4 b5) (B:=punctualref_ReadImage.B1 w0 l0 A0 c0 b1 b2 b4 b5) hq17 (fun a hF=>⟨(.slice none 0 0),(.slice none 0 0),hS35,hF.weaken ea⟩) (fun s o hf a w hA Q hQ=>punctualref_ReadImage_r1 K w0 l0 A0 c0 hR0 hL0 b1 b2 hc1 b4 b5 s o hf a w hA Q hQ) ?_
  rintro _ a w1 _ ⟨rfl,hb⟩
  obtain rfl:=si h
  exact hb
 rw [hq4] at h
 simp only [] at h
 refine we_iter (A:=punctualref_ReadImage.A0 w0 l0 A0 c0 b1 b2) (B:=punctualref_ReadImage.B0 w0 l0 A0 c0 b1 b2) hq4 (fun a hF=>⟨hS9,hF.weaken ea⟩) (fun s o hf a w hA Q hQ=>punctualref_ReadImage_r0 K w0 l0 A0 c0 hR0 hL0 b1 b2 hc1 s o hf a w hA Q hQ) ?_
 rintro _ a w1 _ ⟨rfl,hb⟩
 obtain rfl:=si h
 exact hb

/-! punctual/punctualsame.Lend[punctual/api.Ins] -/
abbrev punctualsame_Lend_api_Ins.Post (w0:World) (n:Nat) (r:List SIns) (e:Ending) (w:World):Prop:=∃ (A:OA) (c:Nat),e=.returned (.slice A n c)∧r.length≤c∧St w0 w [ro A c 29 r]
def punctualsame_Lend_api_Ins.f (l0 : List SIns) (x1 : SIns) : Option (List SIns) :=
 if 0≤(IntKind.i64.wrap ((l0.length:Int)+3)) then
  if ((IntKind.i64.wrap ((l0.length:Int)+3)).toNat)≤5864062014805 then
   if (List.replicate 0 (⟨0,0,0⟩:SIns)).length+l0.length≤5864062014805 then
    if ((List.replicate 0 (⟨0,0,0⟩:SIns))++l0).length+3≤5864062014805 then
     some (((List.replicate 0 (⟨0,0,0⟩:SIns))++l0)++([x1,x1,x1]:List SIns))
    else
     none
   else
    none
  else
   none
 else
  none
theorem punctualsame_Lend_api_Ins_ok (l0:List SIns) (A0:OA) (c0:Nat) (x1:SIns) (w0:World) (hR0:RdL w0 A0 l0) (hL0:l0.length≤c0) (r:List SIns) (h:punctualsame_Lend_api_Ins.f l0 x1=some r) :
  Calls Tryd.prog 10 #[.slice A0 l0.length c0,.agg #[vI x1.Op,vI x1.A,vI x1.B]] w0 (punctualsame_Lend_api_Ins.Post w0 l0.length r):=by
 have hS:=St.start w0
 unfold punctualsame_Lend_api_Ins.f at h
 refine calls_enter (n:=21) (args:=[.slice A0 l0.length c0,.agg #[vI x1.Op,vI x1.A,vI x1.B]]) (fn:=Tryd.f10) rfl rfl rfl rfl ?_
 show WE _ _ _ _ [(0,.slice A0 l0.length c0),(1,.agg #[vI x1.Op,vI x1.A,vI x1.B])] _
 refine ws fun K1 hK1=>wr [(0,1),(1,0)]<|gw (some 3) (.cells #[vI x1.Op,vI x1.A,vI x1.B] 29) (fun b=>pP b 0) hS fun b1 w1 hx1 hS1=>?_
 refine gb0 [1] [(4,.slice none 0 0)]<|gn hK1<|ws fun K2 hK2=>we_orders3 (by kernel_rfl) [(6,[⟨b1,0,none⟩,⟨b1,1,none⟩,⟨b1,2,none⟩],[9,10],[]),(7,[⟨b1,0,none⟩,⟨b1,1,none⟩,⟨b1,2,none⟩],[9,10],[]),(8,[⟨b1,0,none⟩,⟨b1,1,none⟩,⟨b1,2,none⟩],[9,10],[])] (.vals [0] (.vals [1] (.vals [2] (.vals [4] (.vals [6] (.vals [7] (.vals [8] (.alt 3 1 (.alt 5 2 (.alt 9 1 (.alt 10 2 (.vals [11] .fin) .nomore) .nomore) (.alt 9 1 (.alt 5 2 (.alt 10 2 (.vals [11] .fin) .nomore) .nomore) .nomore)) (.alt 9 1 (.alt 3 1 (.alt 5 2 (.alt 10 2 (.vals [11] .fin) .nomore) .nomore) .nomore) .nomore))))))))) (by kernel_rfl) (by kernel_rfl) ?_
 have hS2:=hS1.drew
 refine g30 [0,1,2,4] [(10,.slice A0 l0.length c0),(8,vI (IntKind.i64.wrap ((l0.length:Int)+3))),(7,vI (l0.length:Int)),(6,.slice A0 l0.length c0)]<|g3 6 [(12,.agg #[vI x1.Op,vI x1.A,vI x1.B])] [ld b1 0 (vI x1.Op),ld b1 1 (vI x1.A),ld b1 2 (vI x1.B)] ⟨hS2.c 0,hS2.c 0,hS2.c 0,trivial⟩<|g3 7 [(13,.agg #[vI x1.Op,vI x1.A,vI x1.B])] [ld b1 0 (vI x1.Op),ld b1 1 (vI x1.A),ld b1 2 (vI x1.B)] ⟨hS2.c 0,hS2.c 0,hS2.c 0,trivial⟩<|g3 8 [(14,.agg #[vI x1.Op,vI x1.A,vI x1.B])] [ld b1 0 (vI x1.Op),ld b1 1 (vI x1.A),ld b1 2 (vI x1.B)] ⟨hS2.c 0,hS2.c 0,hS2.c 0,trivial⟩ ?_
 by_cases hc1:0≤(IntKind.i64.wrap ((l0.length:Int)+3))
 ·rw [if_pos hc1] at h
  by_cases hc2:((IntKind.i64.wrap ((l0.length:Int)+3)).toNat)≤5864062014805
  ·rw [if_pos hc2] at h
   refine go_alt3 (fun KK hKK=>?_) ?_
   ·refine ge_one2<|ge_make (α:=SIns) (d:=9) (t:=22) (el:=29) (bytes:=24) (l:=0) (c:=((IntKind.i64.wrap ((l0.length:Int)+3)).toNat)) (x:=(.const (vI 0))) (y:=(.tmp 8)) (ty:=22) (k1:=.i64) (k2:=.i64) (li:=0) (ci:=(IntKind.i64.wrap ((l0.length:Int)+3))) (z:=.agg #[vI 0,vI 0,vI 0]) (z':=(⟨0,0,0⟩:SIns)) (by kernel_rfl) (by kernel_rfl) (by kernel_rfl) rfl (Int.toNat_of_nonneg hc1).symm (by kernel_rfl) (by kernel_rfl) rfl hS2 (Nat.zero_le _) rfl (by omega) fun v1 w2 _ hS3=>?_
    refine ge_nil fun a hF=>hKK _ _ (RS.of2 (l:=[ld b1 0 (vI x1.Op),ld b1 1 (vI x1.A),ld b1 2 (vI x1.B),ld b1 0 (vI x1.Op),ld b1 1 (vI x1.A),ld b1 2 (vI x1.B),ld b1 0 (vI x1.Op),ld b1 1 (vI x1.A),ld b1 2 (vI x1.B)]) (by kernel_rfl) ⟨hS2.c 0,hS2.c 0,hS2.c 0,hS2.c 0,hS2.c 0,hS2.c 0,hS2.c 0,hS2.c 0,hS2.c 0,trivial⟩ ⟨hS3.c 1,hS3.c 1,hS3.c 1,hS3.c 1,hS3.c 1,hS3.c 1,hS3.c 1,hS3.c 1,hS3.c 1,trivial⟩) ?_ a hF
    refine go_alt3 (fun KK hKK=>?_) ?_
    ·by_cases hc3:(List.replicate 0 (⟨0,0,0⟩:SIns)).length+l0.length≤5864062014805
     ·rw [if_pos hc3] at h
      refine ge_appendL (α:=SIns) (m:=0) (d:=11) (t:=22) (el:=29) (bytes:=24) (c1:=c0) (A1:=A0) (x:=(.tmp 9)) (y:=(.tmp 10)) (ty:=22) (v:=v1) (z:=.agg #[vI 0,vI 0,vI 0]) (l:=(List.replicate 0 (⟨0,0,0⟩:SIns))) (us:=l0) (by kernel_rfl) (by kernel_rfl) (by kernel_rfl) (by kernel_rfl) (by kernel_rfl) rfl hS3 (hS3.rd hR0) rfl (Nat.mul_le_of_le_div _ _ _ hc3) fun v2 w3 hS4=>?_
      have hS5:St w0 w3 [Own.of v2 29 ((List.replicate 0 (⟨0,0,0⟩:SIns))++l0),bk b1 #[vI x1.Op,vI x1.A,vI x1.B] 29]:=hS4
      refine ge_nil fun a hF=>hKK _ _ (RS.of2 (l:=[ld b1 0 (vI x1.Op),ld b1 1 (vI x1.A),ld b1 2 (vI x1.B),ld b1 0 (vI x1.Op),ld b1 1 (vI x1.A),ld b1 2 (vI x1.B),ld b1 0 (vI x1.Op),ld b1 1 (vI x1.A),ld b1 2 (vI x1.B)]) (by kernel_rfl) ⟨hS3.c 1,hS3.c 1,hS3.c 1,hS3.c 1,hS3.c 1,hS3.c 1,hS3.c 1,hS3.c 1,hS3.c 1,trivial⟩ ⟨hS5.c 1,hS5.c 1,hS5.c 1,hS5.c 1,hS5.c 1,hS5.c 1,hS5.c 1,hS5.c 1,hS5.c 1,trivial⟩) ?_ a hF
      refine go_alt3 (fun KK hKK=>?_) ?_
      ·refine ge_one2<|gw (some 15) (.cells #[vI x1.Op,vI x1.A,vI x1.B,vI x1.Op,vI x1.A,vI x1.B,vI x1.Op,vI x1.A,vI x1.B] 29) (fun b=>.slice (some ⟨b,0,none⟩) 3 3) hS5 fun b2 w4 hx2 hS6=>?_
       refine g2 hKK<|go_alt3 (fun KK hKK=>?_) ?_
       ·have hS7:=hS6.b 1
        by_cases hc4:((List.replicate 0 (⟨0,0,0⟩:SIns))++l0).length+3≤5864062014805
        ·rw [if_pos hc4] at h
         refine ge_appendL (α:=SIns) (m:=0) (d:=16) (t:=22) (el:=29) (bytes:=24) (c1:=3) (A1:=(some ⟨b2,0,none⟩)) (x:=(.tmp 11)) (y:=(.tmp 15)) (ty:=22) (v:=v2) (z:=.agg #[vI 0,vI 0,vI 0]) (l:=((List.replicate 0 (⟨0,0,0⟩:SIns))++l0)) (us:=([x1,x1,x1]:List SIns)) (by kernel_rfl) (by kernel_rfl) (by kernel_rfl) (by kernel_rfl) (by kernel_rfl) rfl hS7 (hS7.rdBlk 1 ([x1,x1,x1]:List SIns) rfl rfl rfl) rfl (Nat.mul_le_of_le_div _ _ _ hc4) fun v3 w5 hS8=>?_
         have hS9:St w0 w5 [Own.of v3 29 (((List.replicate 0 (⟨0,0,0⟩:SIns))++l0)++([x1,x1,x1]:List SIns)),bk b2 #[vI x1.Op,vI x1.A,vI x1.B,vI x1.Op,vI x1.A,vI x1.B,vI x1.Op,vI x1.A,vI x1.B] 29,bk b1 #[vI x1.Op,vI x1.A,vI x1.B] 29]:=hS8
         refine g2 hKK<|g30 [11] [(5,v3)]<|go_fin3 fun a hF=>hK2 _ _ ?_ a hF
         refine ws fun K3 hK3=>wr [(0,0),(1,0),(2,0),(3,0),(4,0)]<|gb0 [0,1,2] [(19,vI (l0.length:Int)),(18,.slice A0 l0.length c0),(17,v3)] ?_
         obtain ⟨Z1,cz1,rfl,hcp1⟩:=hS9.open2 0 rfl
         refine ge_sliceHi (d:=20) (ty:=22) (t:=22) (el:=29) (sz:=3) (m:=((((List.replicate 0 (⟨0,0,0⟩:SIns))++l0)++([x1,x1,x1]:List SIns)).length)) (c:=cz1) (hn:=l0.length) (x:=(.tmp 17)) (y:=(.tmp 19)) (A:=Z1) (k':=.i64) (hi:=(l0.length:Int)) (by kernel_rfl) (by kernel_rfl) (by kernel_rfl) rfl (by kernel_rfl) (by kernel_rfl) (by have h0:=hcp1; simp only [List.length_append,List.length_cons,List.length_nil] at h0; omega) ?_
         refine gb0 [4] [(4,.slice Z1 l0.length cz1)]<|gn hK3 ?_
         have hS10:=hS9.takeN 1
         obtain rfl:=si h
         exact we_ret (pr0 [.tmp 4] [.slice Z1 l0.length cz1] ⟨Z1,cz1,rfl,hcp1,hS10⟩)
        rw [if_neg hc4] at h
        cases h
       exact go_nomore3
      exact go_nomore3
     rw [if_neg hc3] at h
     cases h
    refine go_alt3 (fun KK hKK=>?_) ?_
    ·refine ge_one2<|gw (some 15) (.cells #[vI x1.Op,vI x1.A,vI x1.B,vI x1.Op,vI x1.A,vI x1.B,vI x1.Op,vI x1.A,vI x1.B] 29) (fun b=>.slice (some ⟨b,0,none⟩) 3 3) hS3 fun b2 w3 hx2 hS4=>?_
     refine g2 hKK<|go_alt3 (fun KK hKK=>?_) ?_
     ·have hS5:=hS4.b 1
      by_cases hc3:(List.replicate 0 (⟨0,0,0⟩:SIns)).length+l0.length≤5864062014805
      ·rw [if_pos hc3] at h
       refine ge_appendL (α:=SIns) (m:=0) (d:=11) (t:=22) (el:=29) (bytes:=24) (c1:=c0) (A1:=A0) (x:=(.tmp 9)) (y:=(.tmp 10)) (ty:=22) (v:=v1) (z:=.agg #[vI 0,vI 0,vI 0]) (l:=(List.replicate 0 (⟨0,0,0⟩:SIns))) (us:=l0) (by kernel_rfl) (by kernel_rfl) (by kernel_rfl) (by kernel_rfl) (by kernel_rfl) rfl hS5 (hS5.rd hR0) rfl (Nat.mul_le_of_le_div _ _ _ hc3) fun v2 w4 hS6=>?_
       have hS7:St w0 w4 [Own.of v2 29 ((List.replicate 0 (⟨0,0,0⟩:SIns))++l0),bk b2 #[vI x1.Op,vI x1.A,vI x1.B,vI x1.Op,vI x1.A,vI x1.B,vI x1.Op,vI x1.A,vI x1.B] 29,bk b1 #[vI x1.Op,vI x1.A,vI x1.B] 29]:=hS6
       refine ge_nil fun a hF=>hKK _ _ (RS.of2 (l:=[ld b1 0 (vI x1.Op),ld b1 1 (vI x1.A),ld b1 2 (vI x1.B),ld b1 0 (vI x1.Op),ld b1 1 (vI x1.A),ld b1 2 (vI x1.B),ld b1 0 (vI x1.Op),ld b1 1 (vI x1.A),ld b1 2 (vI x1.B)]) (by kernel_rfl) ⟨hS4.c 2,hS4.c 2,hS4.c 2,hS4.c 2,hS4.c 2,hS4.c 2,hS4.c 2,hS4.c 2,hS4.c 2,trivial⟩ ⟨hS7.c 2,hS7.c 2,hS7.c 2,hS7.c 2,hS7.c 2,hS7.c 2,hS7.c 2,hS7.c 2,hS7.c 2,trivial⟩) ?_ a hF
       refine go_alt3 (fun KK hKK=>?_) ?_
       ·by_cases hc4:((List.replicate 0 (⟨0,0,0⟩:SIns))++l0).length+3≤5864062014805
        ·rw [if_pos hc4] at h
         refine ge_appendL (α:=SIns) (m:=0) (d:=16) (t:=22) (el:=29) (bytes:=24) (c1:=3) (A1:=(some ⟨b2,0,none⟩)) (x:=(.tmp 11)) (y:=(.tmp 15)) (ty:=22) (v:=v2) (z:=.agg #[vI 0,vI 0,vI 0]) (l:=((List.replicate 0 (⟨0,0,0⟩:SIns))++l0)) (us:=([x1,x1,x1]:List SIns)) (by kernel_rfl) (by kernel_rfl) (by kernel_rfl) (by kernel_rfl) (by kernel_rfl) rfl hS7 (hS7.rdBlk 1 ([x1,x1,x1]:List SIns) rfl rfl rfl) rfl (Nat.mul_le_of_le_div _ _ _ hc4) fun v3 w5 hS8=>?_
         have hS9:St w0 w5 [Own.of v3 29 (((List.replicate 0 (⟨0,0,0⟩:SIns))++l0)++([x1,x1,x1]:List SIns)),bk b2 #[vI x1.Op,vI x1.A,vI x1.B,vI x1.Op,vI x1.A,vI x1.B,vI x1.Op,vI x1.A,vI x1.B] 29,bk b1 #[vI x1.Op,vI x1.A,vI x1.B] 29]:=hS8
         refine g2 hKK<|g30 [11] [(5,v3)]<|go_fin3 fun a hF=>hK2 _ _ ?_ a hF
         refine ws fun K3 hK3=>wr [(0,0),(1,0),(2,0),(3,0),(4,0)]<|gb0 [0,1,2] [(19,vI (l0.length:Int)),(18,.slice A0 l0.length c0),(17,v3)] ?_
         obtain ⟨Z1,cz1,rfl,hcp1⟩:=hS9.open2 0 rfl
         refine ge_sliceHi (d:=20) (ty:=22) (t:=22) (el:=29) (sz:=3) (m:=((((List.replicate 0 (⟨0,0,0⟩:SIns))++l0)++([x1,x1,x1]:List SIns)).length)) (c:=cz1) (hn:=l0.length) (x:=(.tmp 17)) (y:=(.tmp 19)) (A:=Z1) (k':=.i64) (hi:=(l0.length:Int)) (by kernel_rfl) (by kernel_rfl) (by kernel_rfl) rfl (by kernel_rfl) (by kernel_rfl) (by have h0:=hcp1; simp only [List.length_append,List.length_cons,List.length_nil] at h0; omega) ?_
         refine gb0 [4] [(4,.slice Z1 l0.length cz1)]<|gn hK3 ?_
         have hS10:=hS9.takeN 1
         obtain rfl:=si h
         exact we_ret (pr0 [.tmp 4] [.slice Z1 l0.length cz1] ⟨Z1,cz1,rfl,hcp1,hS10⟩)
        rw [if_neg hc4] at h
        cases h
       exact go_nomore3
      rw [if_neg hc3] at h
      cases h
     exact go_nomore3
    exact go_nomore3
   refine go_alt3 (fun KK hKK=>?_) ?_
   ·refine ge_one2<|gw (some 15) (.cells #[vI x1.Op,vI x1.A,vI x1.B,vI x1.Op,vI x1.A,vI x1.B,vI x1.Op,vI x1.A,vI x1.B] 29) (fun b=>.slice (some ⟨b,0,none⟩) 3 3) hS2 fun b2 w2 hx2 hS3=>?_
    refine g2 hKK<|go_alt3 (fun KK hKK=>?_) ?_
    ·refine ge_one2<|ge_make (α:=SIns) (d:=9) (t:=22) (el:=29) (bytes:=24) (l:=0) (c:=((IntKind.i64.wrap ((l0.length:Int)+3)).toNat)) (x:=(.const (vI 0))) (y:=(.tmp 8)) (ty:=22) (k1:=.i64) (k2:=.i64) (li:=0) (ci:=(IntKind.i64.wrap ((l0.length:Int)+3))) (z:=.agg #[vI 0,vI 0,vI 0]) (z':=(⟨0,0,0⟩:SIns)) (by kernel_rfl) (by kernel_rfl) (by kernel_rfl) rfl (Int.toNat_of_nonneg hc1).symm (by kernel_rfl) (by kernel_rfl) rfl hS3 (Nat.zero_le _) rfl (by omega) fun v1 w3 _ hS4=>?_
     refine ge_nil fun a hF=>hKK _ _ (RS.of2 (l:=[ld b1 0 (vI x1.Op),ld b1 1 (vI x1.A),ld b1 2 (vI x1.B),ld b1 0 (vI x1.Op),ld b1 1 (vI x1.A),ld b1 2 (vI x1.B),ld b1 0 (vI x1.Op),ld b1 1 (vI x1.A),ld b1 2 (vI x1.B)]) (by kernel_rfl) ⟨hS3.c 1,hS3.c 1,hS3.c 1,hS3.c 1,hS3.c 1,hS3.c 1,hS3.c 1,hS3.c 1,hS3.c 1,trivial⟩ ⟨hS4.c 2,hS4.c 2,hS4.c 2,hS4.c 2,hS4.c 2,hS4.c 2,hS4.c 2,hS4.c 2,hS4.c 2,trivial⟩) ?_ a hF
     refine go_alt3 (fun KK hKK=>?_) ?_
     ·by_cases hc3:(List.replicate 0 (⟨0,0,0⟩:SIns)).length+l0.length≤5864062014805
      ·rw [if_pos hc3] at h
       refine ge_appendL (α:=SIns) (m:=0) (d:=11) (t:=22) (el:=29) (bytes:=24) (c1:=c0) (A1:=A0) (x:=(.tmp 9)) (y:=(.tmp 10)) (ty:=22) (v:=v1) (z:=.agg #[vI 0,vI 0,vI 0]) (l:=(List.replicate 0 (⟨0,0,0⟩:SIns))) (us:=l0) (by kernel_rfl) (by kernel_rfl) (by kernel_rfl) (by kernel_rfl) (by kernel_rfl) rfl hS4 (hS4.rd hR0) rfl (Nat.mul_le_of_le_div _ _ _ hc3) fun v2 w4 hS5=>?_
       have hS6:St w0 w4 [Own.of v2 29 ((List.replicate 0 (⟨0,0,0⟩:SIns))++l0),bk b2 #[vI x1.Op,vI x1.A,vI x1.B,vI x1.Op,vI x1.A,vI x1.B,vI x1.Op,vI x1.A,vI x1.B] 29,bk b1 #[vI x1.Op,vI x1.A,vI x1.B] 29]:=hS5
       refine ge_nil fun a hF=>hKK _ _ (RS.of2 (l:=[ld b1 0 (vI x1.Op),ld b1 1 (vI x1.A),ld b1 2 (vI x1.B),ld b1 0 (vI x1.Op),ld b1 1 (vI x1.A),ld b1 2 (vI x1.B),ld b1 0 (vI x1.Op),ld b1 1 (vI x1.A),ld b1 2 (vI x1.B)]) (by kernel_rfl) ⟨hS4.c 2,hS4.c 2,hS4.c 2,hS4.c 2,hS4.c 2,hS4.c 2,hS4.c 2,hS4.c 2,hS4.c 2,trivial⟩ ⟨hS6.c 2,hS6.c 2,hS6.c 2,hS6.c 2,hS6.c 2,hS6.c 2,hS6.c 2,hS6.c 2,hS6.c 2,trivial⟩) ?_ a hF
       refine go_alt3 (fun KK hKK=>?_) ?_
       ·by_cases hc4:((List.replicate 0 (⟨0,0,0⟩:SIns))++l0).length+3≤5864062014805
        ·rw [if_pos hc4] at h
         refine ge_appendL (α:=SIns) (m:=0) (d:=16) (t:=22) (el:=29) (bytes:=24) (c1:=3) (A1:=(some ⟨b2,0,none⟩)) (x:=(.tmp 11)) (y:=(.tmp 15)) (ty:=22) (v:=v2) (z:=.agg #[vI 0,vI 0,vI 0]) (l:=((List.replicate 0 (⟨0,0,0⟩:SIns))++l0)) (us:=([x1,x1,x1]:List SIns)) (by kernel_rfl) (by kernel_rfl) (by kernel_rfl) (by kernel_rfl) (by kernel_rfl) rfl hS6 (hS6.rdBlk 1 ([x1,x1,x1]:List SIns) rfl rfl rfl) rfl (Nat.mul_le_of_le_div _ _ _ hc4) fun v3 w5 hS7=>?_
         have hS8:St w0 w5 [Own.of v3 29 (((List.replicate 0 (⟨0,0,0⟩:SIns))++l0)++([x1,x1,x1]:List SIns)),bk b2 #[vI x1.Op,vI x1.A,vI x1.B,vI x1.Op,vI x1.A,vI x1.B,vI x1.Op,vI x1.A,vI x1.B] 29,bk b1 #[vI x1.Op,vI x1.A,vI x1.B] 29]:=hS7
         refine g2 hKK<|g30 [11] [(5,v3)]<|go_fin3 fun a hF=>hK2 _ _ ?_ a hF
         refine ws fun K3 hK3=>wr [(0,0),(1,0),(2,0),(3,0),(4,0)]<|gb0 [0,1,2] [(19,vI (l0.length:Int)),(18,.slice A0 l0.length c0),(17,v3)] ?_
         obtain ⟨Z1,cz1,rfl,hcp1⟩:=hS8.open2 0 rfl
         refine ge_sliceHi (d:=20) (ty:=22) (t:=22) (el:=29) (sz:=3) (m:=((((List.replicate 0 (⟨0,0,0⟩:SIns))++l0)++([x1,x1,x1]:List SIns)).length)) (c:=cz1) (hn:=l0.length) (x:=(.tmp 17)) (y:=(.tmp 19)) (A:=Z1) (k':=.i64) (hi:=(l0.length:Int)) (by kernel_rfl) (by kernel_rfl) (by kernel_rfl) rfl (by kernel_rfl) (by kernel_rfl) (by have h0:=hcp1; simp only [List.length_append,List.length_cons,List.length_nil] at h0; omega) ?_
         refine gb0 [4] [(4,.slice Z1 l0.length cz1)]<|gn hK3 ?_
         have hS9:=hS8.takeN 1
         obtain rfl:=si h
         exact we_ret (pr0 [.tmp 4] [.slice Z1 l0.length cz1] ⟨Z1,cz1,rfl,hcp1,hS9⟩)
        rw [if_neg hc4] at h
        cases h
       exact go_nomore3
      rw [if_neg hc3] at h
      cases h
     exact go_nomore3
    exact go_nomore3
   exact go_nomore3
  rw [if_neg hc2] at h
  cases h
 rw [if_neg hc1] at h
 cases h
theorem punctualsame_Lend_api_Ins_full (l0:List SIns) (x1:SIns) {r:List SIns} (h:punctualsame_Lend_api_Ins.f l0 x1=some r):r=l0++[x1,x1,x1]:=by
 unfold punctualsame_Lend_api_Ins.f at h
 repeat' split at h
 all_goals first | (exact (Option.some.inj h).symm) | cases h

/-! punctual/punctualsame.Lend[int] -/
abbrev punctualsame_Lend_int.Post (w0:World) (n:Nat) (r:List Int) (e:Ending) (w:World):Prop:=∃ (A:OA) (c:Nat),e=.returned (.slice A n c)∧r.length≤c∧St w0 w [ro A c 3 r]
def punctualsame_Lend_int.f (l0 : List Int) (x1 : Int) : Option (List Int) :=
 if 0≤(IntKind.i64.wrap ((l0.length:Int)+3)) then
  if ((IntKind.i64.wrap ((l0.length:Int)+3)).toNat)≤17592186044416 then
   if (List.replicate 0 (0:Int)).length+l0.length≤17592186044416 then
    if ((List.replicate 0 (0:Int))++l0).length+3≤17592186044416 then
     some (((List.replicate 0 (0:Int))++l0)++([x1,x1,x1]:List Int))
    else
     none
   else
    none
  else
   none
 else
  none
theorem punctualsame_Lend_int_ok (l0:List Int) (A0:OA) (c0:Nat) (x1:Int) (w0:World) (hR0:RdL w0 A0 l0) (hL0:l0.length≤c0) (r:List Int) (h:punctualsame_Lend_int.f l0 x1=some r) :
  Calls Tryd.prog 14 #[.slice A0 l0.length c0,vI x1] w0 (punctualsame_Lend_int.Post w0 l0.length r):=by
 have hS:=St.start w0
 unfold punctualsame_Lend_int.f at h
 refine calls_enter (n:=21) (args:=[.slice A0 l0.length c0,vI x1]) (fn:=Tryd.f14) rfl rfl rfl rfl ?_
 show WE _ _ _ _ [(0,.slice A0 l0.length c0),(1,vI x1)] _
 refine ws fun K1 hK1=>wr [(0,0)]<|gb0 [0] [(4,.slice none 0 0)]<|gn hK1<|ws fun K2 hK2=>wr [(0,0),(1,0),(2,0),(3,1),(4,0),(5,2),(6,0),(7,0),(8,0),(9,1),(10,2),(11,0)]<|gb0 [0,1,2] [(8,vI (IntKind.i64.wrap ((l0.length:Int)+3))),(7,vI (l0.length:Int)),(6,.slice A0 l0.length c0)] ?_
 by_cases hc1:0≤(IntKind.i64.wrap ((l0.length:Int)+3))
 ·rw [if_pos hc1] at h
  by_cases hc2:((IntKind.i64.wrap ((l0.length:Int)+3)).toNat)≤17592186044416
  ·rw [if_pos hc2] at h
   refine ge_make (α:=Int) (d:=9) (t:=37) (el:=3) (bytes:=8) (l:=0) (c:=((IntKind.i64.wrap ((l0.length:Int)+3)).toNat)) (x:=(.const (vI 0))) (y:=(.tmp 8)) (ty:=37) (k1:=.i64) (k2:=.i64) (li:=0) (ci:=(IntKind.i64.wrap ((l0.length:Int)+3))) (z:=vI 0) (z':=(0:Int)) (by kernel_rfl) (by kernel_rfl) (by kernel_rfl) rfl (Int.toNat_of_nonneg hc1).symm (by kernel_rfl) (by kernel_rfl) rfl hS (Nat.zero_le _) rfl (by omega) fun v1 w1 _ hS1=>?_
   refine gb0 [4] [(10,.slice A0 l0.length c0)] ?_
   by_cases hc3:(List.replicate 0 (0:Int)).length+l0.length≤17592186044416
   ·rw [if_pos hc3] at h
    refine ge_appendL (α:=Int) (m:=0) (d:=11) (t:=37) (el:=3) (bytes:=8) (c1:=c0) (A1:=A0) (x:=(.tmp 9)) (y:=(.tmp 10)) (ty:=37) (v:=v1) (z:=vI 0) (l:=(List.replicate 0 (0:Int))) (us:=l0) (by kernel_rfl) (by kernel_rfl) (by kernel_rfl) (by kernel_rfl) (by kernel_rfl) rfl hS1 (hS1.rd hR0) rfl (Nat.mul_le_of_le_div _ _ _ hc3) fun v2 w2 hS2=>?_
    have hS3:St w0 w2 [Own.of v2 3 ((List.replicate 0 (0:Int))++l0)]:=hS2
    refine gb0 [6,7,8] [(14,vI x1),(13,vI x1),(12,vI x1)]<|gw (some 15) (.cells #[vI x1,vI x1,vI x1] 3) (fun b=>.slice (some ⟨b,0,none⟩) 3 3) hS3 fun b1 w3 hx1 hS4=>?_
    have hS5:=hS4.b 1
    by_cases hc4:((List.replicate 0 (0:Int))++l0).length+3≤17592186044416
    ·rw [if_pos hc4] at h
     refine ge_appendL (α:=Int) (m:=0) (d:=16) (t:=37) (el:=3) (bytes:=8) (c1:=3) (A1:=(some ⟨b1,0,none⟩)) (x:=(.tmp 11)) (y:=(.tmp 15)) (ty:=37) (v:=v2) (z:=vI 0) (l:=((List.replicate 0 (0:Int))++l0)) (us:=([x1,x1,x1]:List Int)) (by kernel_rfl) (by kernel_rfl) (by kernel_rfl) (by kernel_rfl) (by kernel_rfl) rfl hS5 (hS5.rdBlk 1 ([x1,x1,x1]:List Int) rfl rfl rfl) rfl (Nat.mul_le_of_le_div _ _ _ hc4) fun v3 w4 hS6=>?_
     have hS7:St w0 w4 [Own.of v3 3 (((List.replicate 0 (0:Int))++l0)++([x1,x1,x1]:List Int)),bk b1 #[vI x1,vI x1,vI x1] 3]:=hS6
     refine gb0 [11] [(5,v3)]<|gn hK2<|ws fun K3 hK3=>wr [(0,0),(1,0),(2,0),(3,0),(4,0)]<|gb0 [0,1,2] [(19,vI (l0.length:Int)),(18,.slice A0 l0.length c0),(17,v3)] ?_
     obtain ⟨Z1,cz1,rfl,hcp1⟩:=hS7.open2 0 rfl
     refine ge_sliceHi (d:=20) (ty:=37) (t:=37) (el:=3) (sz:=1) (m:=((((List.replicate 0 (0:Int))++l0)++([x1,x1,x1]:List Int)).length)) (c:=cz1) (hn:=l0.length) (x:=(.tmp 17)) (y:=(.tmp 19)) (A:=Z1) (k':=.i64) (hi:=(l0.length:Int)) (by kernel_rfl) (by kernel_rfl) (by kernel_rfl) rfl (by kernel_rfl) (by kernel_rfl) (by have h0:=hcp1; simp only [List.length_append,List.length_cons,List.length_nil] at h0; omega) ?_
     refine gb0 [4] [(4,.slice Z1 l0.length cz1)]<|gn hK3 ?_
     have hS8:=hS7.takeN 1
     obtain rfl:=si h
     exact we_ret (pr0 [.tmp 4] [.slice Z1 l0.length cz1] ⟨Z1,cz1,rfl,hcp1,hS8⟩)
    rw [if_neg hc4] at h
    cases h
   rw [if_neg hc3] at h
   cases h
  rw [if_neg hc2] at h
  cases h
 rw [if_neg hc1] at h
 cases h
theorem punctualsame_Lend_int_full (l0:List Int) (x1:Int) {r:List Int} (h:punctualsame_Lend_int.f l0 x1=some r):r=l0++[x1,x1,x1]:=by
 unfold punctualsame_Lend_int.f at h
 repeat' split at h
 all_goals first | (exact (Option.some.inj h).symm) | cases h

/-! punctual/punctualsame.Spoil[punctual/api.Ins] -/
theorem punctualsame_Spoil_api_Ins_ok (w0 w:World) {L:List Own} (A:OA) (n c:Nat) (l:List SIns) (hS:St w0 w (Own.of (.slice A n c) 29 l::L)):Calls Tryd.prog 28 #[.slice A n c] w (fun e w'=>e=.returned (.tuple #[])∧St w0 w' L):=by
 refine calls_enter (n:=6) (args:=[.slice A n c]) (fn:=Tryd.f28) rfl rfl rfl rfl ?_
 show WE _ _ _ _ [(0,.slice A n c)] _
 refine wr [(0,0),(1,0),(2,0),(3,0),(4,2)]<|gb0 [0,1,2] [(4,vI (c:Int)),(3,.slice A n c),(2,.slice A n c)]<|ge_sliceHi (d:=5) (ty:=22) (t:=22) (el:=29) (sz:=3) (m:=n) (c:=c) (hn:=c) (x:=(.tmp 2)) (y:=(.tmp 4)) (A:=A) (k':=.i64) (hi:=(c:Int)) (by kernel_rfl) (by kernel_rfl) (by kernel_rfl) rfl (by kernel_rfl) (by kernel_rfl) (Nat.le_refl _) ?_
 refine ge_clear (α:=SIns) (m:=0) (t:=22) (el:=29) (c:=c) (k:=n) (bytes:=24) (x:=(.tmp 5)) (ty:=0) (A:=A) (z:=.agg #[vI 0,vI 0,vI 0]) (l:=l) (by kernel_rfl) (by kernel_rfl) (by kernel_rfl) (by kernel_rfl) rfl rfl hS fun w1 hS1=>?_
 exact ge_nil (pe0 [] [] ⟨rfl,hS1⟩)

/-! punctual/punctualsame.Spoil[int] -/
theorem punctualsame_Spoil_int_ok (w0 w:World) {L:List Own} (A:OA) (n c:Nat) (l:List Int) (hS:St w0 w (Own.of (.slice A n c) 3 l::L)):Calls Tryd.prog 23 #[.slice A n c] w (fun e w'=>e=.returned (.tuple #[])∧St w0 w' L):=by
 refine calls_enter (n:=6) (args:=[.slice A n c]) (fn:=Tryd.f23) rfl rfl rfl rfl ?_
 show WE _ _ _ _ [(0,.slice A n c)] _
 refine wr [(0,0),(1,0),(2,0),(3,0),(4,2)]<|gb0 [0,1,2] [(4,vI (c:Int)),(3,.slice A n c),(2,.slice A n c)]<|ge_sliceHi (d:=5) (ty:=37) (t:=37) (el:=3) (sz:=1) (m:=n) (c:=c) (hn:=c) (x:=(.tmp 2)) (y:=(.tmp 4)) (A:=A) (k':=.i64) (hi:=(c:Int)) (by kernel_rfl) (by kernel_rfl) (by kernel_rfl) rfl (by kernel_rfl) (by kernel_rfl) (Nat.le_refl _) ?_
 refine ge_clear (α:=Int) (m:=0) (t:=37) (el:=3) (c:=c) (k:=n) (bytes:=8) (x:=(.tmp 5)) (ty:=0) (A:=A) (z:=vI 0) (l:=l) (by kernel_rfl) (by kernel_rfl) (by kernel_rfl) (by kernel_rfl) rfl rfl hS fun w1 hS1=>?_
 exact ge_nil (pe0 [] [] ⟨rfl,hS1⟩)

/-! punctual/punctualref.Steps$1 -/
abbrev punctualref_Steps_1.Post (w0:World) (x0:Int) (bf0:Nat) (lf0_0:List Int) (Af0_0:OA) (cf0_0 bf1:Nat) (sf1_0:Int) (LT:List Own) (r:List Int) (e:Ending) (w:World):Prop:=∃ (nbf0_0:Value),e=.returned (.tuple #[])∧St w0 w [bk bf0 #[nbf0_0] 37,bk bf1 #[vI sf1_0] 3,Own.of nbf0_0 3 r,Own.all LT]
def punctualref_Steps_1.f (x0 : Int) (lf0_0 : List Int) (sf1_0 : Int) : Option (List Int) :=
 if 0≤(IntKind.i64.wrap (sf1_0-2)) then
  if ((IntKind.i64.wrap (sf1_0-2)).toNat)≤lf0_0.length then
   if (lf0_0.take ((IntKind.i64.wrap (sf1_0-2)).toNat)).length<17592186044416 then
    some ((lf0_0.take ((IntKind.i64.wrap (sf1_0-2)).toNat))++[x0])
   else
    none
  else
   none
 else
  none
theorem punctualref_Steps_1_ok (x0:Int) (bf0:Nat) (lf0_0:List Int) (Af0_0:OA) (cf0_0 bf1:Nat) (sf1_0:Int) (w0 wE:World) (LT:List Own) (hS:St w0 wE [bk bf0 #[(.slice Af0_0 lf0_0.length cf0_0)] 37,bk bf1 #[vI sf1_0] 3,ro Af0_0 cf0_0 3 lf0_0,Own.all LT]) (r:List Int) (h:punctualref_Steps_1.f x0 lf0_0 sf1_0=some r) :
  Calls Tryd.prog 66 #[vI x0,pP bf0 0,pP bf1 0] wE (punctualref_Steps_1.Post w0 x0 bf0 lf0_0 Af0_0 cf0_0 bf1 sf1_0 LT r):=by
 unfold punctualref_Steps_1.f at h
 refine calls_enter (n:=11) (args:=[vI x0,pP bf0 0,pP bf1 0]) (fn:=Tryd.f66) rfl rfl rfl rfl ?_
 show WE _ _ _ _ [(0,vI x0),(1,pP bf0 0),(2,pP bf1 0)] _
 refine wr [(0,0),(1,0),(2,0),(3,0),(4,0),(5,1),(6,2),(7,2)]<|gb [0,1,2] [(6,vI (IntKind.i64.wrap (sf1_0-2))),(5,vI sf1_0),(4,(.slice Af0_0 lf0_0.length cf0_0))] [ld bf0 0 ((.slice Af0_0 lf0_0.length cf0_0)),ld bf1 0 (vI sf1_0)] ⟨hS.c 0,hS.c 1,trivial⟩ ?_
 by_cases hc1:0≤(IntKind.i64.wrap (sf1_0-2))
 ·rw [if_pos hc1] at h
  by_cases hc2:((IntKind.i64.wrap (sf1_0-2)).toNat)≤lf0_0.length
  ·rw [if_pos hc2] at h
   refine ge_sliceHi (d:=7) (ty:=37) (t:=37) (el:=3) (sz:=1) (m:=lf0_0.length) (c:=cf0_0) (hn:=((IntKind.i64.wrap (sf1_0-2)).toNat)) (x:=(.tmp 4)) (y:=(.tmp 6)) (A:=Af0_0) (k':=.i64) (hi:=(IntKind.i64.wrap (sf1_0-2))) (by kernel_rfl) (by kernel_rfl) (by kernel_rfl) (Int.toNat_of_nonneg hc1).symm (by kernel_rfl) (by kernel_rfl) (by have f0:=hc2; have f1:=(hS.capAt 2 rfl); omega) ?_
   refine ge_same (t:=7) (v:=.slice Af0_0 ((IntKind.i64.wrap (sf1_0-2)).toNat) cf0_0) (v':=.slice Af0_0 ((lf0_0.take ((IntKind.i64.wrap (sf1_0-2)).toNat)).length) cf0_0) (by kernel_rfl) (congrArg (fun z=>Value.slice Af0_0 z cf0_0) (show (IntKind.i64.wrap (sf1_0-2)).toNat=(lf0_0.take ((IntKind.i64.wrap (sf1_0-2)).toNat)).length by have f0:=hc2; have f1:=(hS.capAt 2 rfl); simp only [List.length_take]; omega)) ?_
   refine gb0 [4] [(8,vI x0)]<|gw (some 9) (.cells #[vI x0] 3) (fun b=>.slice (some ⟨b,0,none⟩) 1 1) hS fun b1 w1 hx1 hS1=>?_
   have hS5:=(((hS1.b 3).shrink ((IntKind.i64.wrap (sf1_0-2)).toNat)).b 1).b 1
   by_cases hc3:(lf0_0.take ((IntKind.i64.wrap (sf1_0-2)).toNat)).length<17592186044416
   ·rw [if_pos hc3] at h
    refine ge_append (α:=Int) (m:=0) (d:=10) (t:=37) (el:=3) (bytes:=8) (c1:=1) (b1:=b1) (x:=(.tmp 7)) (y:=(.tmp 9)) (ty:=37) (v:=(.slice Af0_0 (lf0_0.take ((IntKind.i64.wrap (sf1_0-2)).toNat)).length cf0_0)) (z:=vI 0) (l:=(lf0_0.take ((IntKind.i64.wrap (sf1_0-2)).toNat))) (u:=x0) (by kernel_rfl) (by kernel_rfl) (by kernel_rfl) (by kernel_rfl) (by kernel_rfl) rfl hS5 rfl (by omega) fun v1 w2 hS6=>?_
    obtain ⟨Z1,cz1,rfl⟩:=hS6.open 0 rfl
    have hS7:=hS6.b 1
    refine gs bf0 0 #[(.slice Af0_0 lf0_0.length cf0_0)] 37 [(.slice Z1 ((lf0_0.take ((IntKind.i64.wrap (sf1_0-2)).toNat))++[x0]).length cz1)] hS7 fun w3 hS8=>?_
    have hS13:=((((hS8.nc #[(.slice Z1 ((lf0_0.take ((IntKind.i64.wrap (sf1_0-2)).toNat))++[x0]).length cz1)] rfl).b 3).b 2).b 3).b 3
    obtain rfl:=si h
    exact ge_nil (pe0 [] [] ⟨(.slice Z1 ((lf0_0.take ((IntKind.i64.wrap (sf1_0-2)).toNat))++[x0]).length cz1),rfl,hS13⟩)
   rw [if_neg hc3] at h
   cases h
  rw [if_neg hc2] at h
  cases h
 rw [if_neg hc1] at h
 cases h

/-! punctual/punctualref.Steps$2 -/
abbrev punctualref_Steps_2.Post (w0:World) (r:Int) (e:Ending) (w:World):Prop:=e=.returned (vI r)∧St w0 w []
def punctualref_Steps_2.f (x0 : Bool) : Int :=
 if x0=true then
  1
 else
  0
theorem punctualref_Steps_2_ok (x0:Bool) (w0:World) (r:Int) (h:punctualref_Steps_2.f x0=r) :
  Calls Tryd.prog 67 #[.bool x0] w0 (punctualref_Steps_2.Post w0 r):=by
 have hS:=St.start w0
 unfold punctualref_Steps_2.f at h
 refine calls_enter (n:=4) (args:=[.bool x0]) (fn:=Tryd.f67) rfl rfl rfl rfl ?_
 show WE _ _ _ _ [(0,.bool x0)] _
 refine ws fun K1 hK1=>wr [(0,0)]<|gb0 [0] [(2,vI 0)]<|gn hK1<|ws fun K2 hK2=>ws fun K3 hK3=>wr [(0,0)]<|gb0 [0] [(3,.bool x0)]<|gn hK3 ?_
 by_cases hc1:x0=true
 ·rw [if_pos hc1] at h
  refine wk 3 x0 true hc1<|wt<|ws fun K4 hK4=>wr [(0,0)]<|gb0 [0] [(2,vI 1)]<|gn hK4 ?_
  subst h
  exact we_ret (pr0 [.tmp 2] [vI 1] ⟨rfl,hS⟩)
 rw [if_neg hc1] at h
 refine wk 3 x0 false (Bool.eq_false_iff.2 hc1)<|wf<|we_skip fun a hF=>hK2 _ _ ?_ a hF
 refine ws fun K5 hK5=>wr [(0,0)]<|gb0 [0] [(2,vI 0)]<|gn hK5 ?_
 subst h
 exact we_ret (pr0 [.tmp 2] [vI 0] ⟨rfl,hS⟩)

/-! punctual/punctualref.Ticks -/
abbrev punctualref_Ticks.Post (w0:World) (r:Int) (e:Ending) (w:World):Prop:=e=.returned (vI r)∧St w0 w []
def punctualref_Ticks.f (x0 : SIns) (x1 : Bool) : Int :=
 if x0.Op=6 then
  3
 else
  if x0.Op=9 then
   2
  else
   if x0.Op=10 then
    2
   else
    if x0.Op=11 then
     2
    else
     if x1=true then
      if x0.Op=12 then
       2
      else
       if x0.Op=14 then
        2
       else
        if x0.Op=18 then
         x0.A
        else
         1
     else
      if x0.Op=18 then
       x0.A
      else
       1
theorem punctualref_Ticks_ok (x0:SIns) (x1:Bool) (w0:World) (r:Int) (h:punctualref_Ticks.f x0 x1=r) :
  Calls Tryd.prog 57 #[.agg #[vI x0.Op,vI x0.A,vI x0.B],.bool x1] w0 (punctualref_Ticks.Post w0 r):=by
 have hS:=St.start w0
 unfold punctualref_Ticks.f at h
 refine calls_enter (n:=42) (args:=[.agg #[vI x0.Op,vI x0.A,vI x0.B],.bool x1]) (fn:=Tryd.f57) rfl rfl rfl rfl ?_
 show WE _ _ _ _ [(0,.agg #[vI x0.Op,vI x0.A,vI x0.B]),(1,.bool x1)] _
 refine ws fun K1 hK1=>wr [(0,1),(1,0)]<|gw (some 2) (.cells #[vI x0.Op,vI x0.A,vI x0.B] 29) (fun b=>pP b 0) hS fun b1 w1 hx1 hS1=>?_
 refine gb0 [1] [(4,vI 0)]<|gn hK1<|ws fun K2 hK2=>we_block<|ws fun K3 hK3=>wr [(0,0),(1,0),(2,0),(3,0)]<|gb [0,1,2,3] [(5,.bool (x0.Op==6)),(8,.bool (x0.Op==6)),(7,vI x0.Op),(6,pP b1 0)] [ld b1 0 (vI x0.Op)] ⟨hS1.c 0,trivial⟩<|gn hK3 ?_
 by_cases hc1:x0.Op=6
 ·rw [if_pos hc1] at h
  refine wk 5 (x0.Op==6) true (beq_iff_eq.2 hc1)<|wt<|ws fun K4 hK4=>wr [(0,0)]<|gb0 [0] [(4,vI 3)]<|gn hK4 ?_
  have hS2:=hS1.takeN 0
  subst h
  exact we_ret (pr0 [.tmp 4] [vI 3] ⟨rfl,hS2⟩)
 rw [if_neg hc1] at h
 refine wk 5 (x0.Op==6) false (beq_eq_false_iff_ne.2 hc1)<|wf<|ws fun K5 hK5=>wr [(0,0),(1,0),(2,0),(3,0),(4,0),(5,0),(6,0),(7,0),(8,0),(9,0),(10,0),(11,0),(12,0),(13,0),(14,0),(15,0),(16,0),(17,0),(18,0),(19,0),(20,0),(21,0),(22,0),(23,0),(24,0),(25,0),(26,0)]<|gb [0,1,2,3] [(13,.bool (x0.Op==9)),(12,.bool (x0.Op==9)),(11,vI x0.Op),(10,pP b1 0)] [ld b1 0 (vI x0.Op)] ⟨hS1.c 0,trivial⟩ ?_
 by_cases hc2:x0.Op=9
 ·rw [if_pos hc2] at h
  refine gk 13 (x0.Op==9) true (beq_iff_eq.2 hc2)<|gb0 [4,5,6,7,8,9,10,11,12,13,14,15,16,17,18,19,20,21,22,23,24,25,26] [(9,.bool true),(35,.bool true),(34,undef),(33,undef),(32,undef),(31,undef),(30,undef),(29,undef),(28,undef),(27,undef),(26,undef),(25,undef),(24,undef),(23,.bool true),(22,.bool true),(21,undef),(20,undef),(19,undef),(18,.bool true),(17,.bool true),(16,undef),(15,undef),(14,undef)]<|gn hK5<|wt<|ws fun K6 hK6=>wr [(0,0)]<|gb0 [0] [(4,vI 2)]<|gn hK6 ?_
  have hS3:=hS1.takeN 0
  subst h
  exact we_ret (pr0 [.tmp 4] [vI 2] ⟨rfl,hS3⟩)
 rw [if_neg hc2] at h
 refine gk 13 (x0.Op==9) false (beq_eq_false_iff_ne.2 hc2)<|gb [4,5,6,7,8] [(18,.bool (x0.Op==10)),(17,.bool (x0.Op==10)),(16,.bool (x0.Op==10)),(15,vI x0.Op),(14,pP b1 0)] [ld b1 0 (vI x0.Op)] ⟨hS1.c 0,trivial⟩ ?_
 by_cases hc3:x0.Op=10
 ·rw [if_pos hc3] at h
  refine gk 18 (x0.Op==10) true (beq_iff_eq.2 hc3)<|gb0 [9,10,11,12,13,14,15,16,17,18,19,20,21,22,23,24,25,26] [(9,.bool true),(35,.bool true),(34,undef),(33,undef),(32,undef),(31,undef),(30,undef),(29,undef),(28,undef),(27,undef),(26,undef),(25,undef),(24,undef),(23,.bool true),(22,.bool true),(21,undef),(20,undef),(19,undef)]<|gn hK5<|wt<|ws fun K7 hK7=>wr [(0,0)]<|gb0 [0] [(4,vI 2)]<|gn hK7 ?_
  have hS4:=hS1.takeN 0
  subst h
  exact we_ret (pr0 [.tmp 4] [vI 2] ⟨rfl,hS4⟩)
 rw [if_neg hc3] at h
 refine gk 18 (x0.Op==10) false (beq_eq_false_iff_ne.2 hc3)<|gb [9,10,11,12,13] [(23,.bool (x0.Op==11)),(22,.bool (x0.Op==11)),(21,.bool (x0.Op==11)),(20,vI x0.Op),(19,pP b1 0)] [ld b1 0 (vI x0.Op)] ⟨hS1.c 0,trivial⟩ ?_
 by_cases hc4:x0.Op=11
 ·rw [if_pos hc4] at h
  refine gk 23 (x0.Op==11) true (beq_iff_eq.2 hc4)<|gb0 [14,15,16,17,18,19,20,21,22,23,24,25,26] [(9,.bool true),(35,.bool true),(34,undef),(33,undef),(32,undef),(31,undef),(30,undef),(29,undef),(28,undef),(27,undef),(26,undef),(25,undef),(24,undef)]<|gn hK5<|wt<|ws fun K8 hK8=>wr [(0,0)]<|gb0 [0] [(4,vI 2)]<|gn hK8 ?_
  have hS5:=hS1.takeN 0
  subst h
  exact we_ret (pr0 [.tmp 4] [vI 2] ⟨rfl,hS5⟩)
 rw [if_neg hc4] at h
 refine gk 23 (x0.Op==11) false (beq_eq_false_iff_ne.2 hc4)<|gb0 [14,15] [(25,.bool x1),(24,.bool x1)] ?_
 by_cases hc5:x1=true
 ·rw [if_pos hc5] at h
  refine gk 25 x1 true hc5<|gb [16,17,18,19] [(29,.bool (x0.Op==12)),(28,.bool (x0.Op==12)),(27,vI x0.Op),(26,pP b1 0)] [ld b1 0 (vI x0.Op)] ⟨hS1.c 0,trivial⟩ ?_
  by_cases hc6:x0.Op=12
  ·rw [if_pos hc6] at h
   refine gk 29 (x0.Op==12) true (beq_iff_eq.2 hc6)<|gb0 [20,21,22,23,24,25,26] [(9,.bool true),(35,.bool true),(34,.bool true),(33,.bool true),(32,undef),(31,undef),(30,undef)]<|gn hK5<|wt<|ws fun K9 hK9=>wr [(0,0)]<|gb0 [0] [(4,vI 2)]<|gn hK9 ?_
   have hS6:=hS1.takeN 0
   subst h
   exact we_ret (pr0 [.tmp 4] [vI 2] ⟨rfl,hS6⟩)
  rw [if_neg hc6] at h
  refine gk 29 (x0.Op==12) false (beq_eq_false_iff_ne.2 hc6)<|gb [20,21,22,23,24,25,26] [(9,.bool (x0.Op==14)),(35,.bool (x0.Op==14)),(34,.bool (x0.Op==14)),(33,.bool (x0.Op==14)),(32,.bool (x0.Op==14)),(31,vI x0.Op),(30,pP b1 0)] [ld b1 0 (vI x0.Op)] ⟨hS1.c 0,trivial⟩<|gn hK5 ?_
  by_cases hc7:x0.Op=14
  ·rw [if_pos hc7] at h
   refine wk 9 (x0.Op==14) true (beq_iff_eq.2 hc7)<|wt<|ws fun K10 hK10=>wr [(0,0)]<|gb0 [0] [(4,vI 2)]<|gn hK10 ?_
   have hS7:=hS1.takeN 0
   subst h
   exact we_ret (pr0 [.tmp 4] [vI 2] ⟨rfl,hS7⟩)
  rw [if_neg hc7] at h
  refine wk 9 (x0.Op==14) false (beq_eq_false_iff_ne.2 hc7)<|wf<|ws fun K11 hK11=>wr [(0,0),(1,0),(2,0),(3,0)]<|gb [0,1,2,3] [(36,.bool (x0.Op==18)),(39,.bool (x0.Op==18)),(38,vI x0.Op),(37,pP b1 0)] [ld b1 0 (vI x0.Op)] ⟨hS1.c 0,trivial⟩<|gn hK11 ?_
  by_cases hc8:x0.Op=18
  ·rw [if_pos hc8] at h
   refine wk 36 (x0.Op==18) true (beq_iff_eq.2 hc8)<|wt<|ws fun K12 hK12=>wr [(0,0),(1,0),(2,0)]<|gb [0,1,2] [(4,vI x0.A),(41,vI x0.A),(40,pP b1 1)] [ld b1 1 (vI x0.A)] ⟨hS1.c 0,trivial⟩<|gn hK12 ?_
   have hS8:=hS1.takeN 0
   subst h
   exact we_ret (pr0 [.tmp 4] [vI x0.A] ⟨rfl,hS8⟩)
  rw [if_neg hc8] at h
  refine wk 36 (x0.Op==18) false (beq_eq_false_iff_ne.2 hc8)<|wf<|we_skip fun a hF=>hK2 _ _ ?_ a hF
  refine ws fun K13 hK13=>wr [(0,0)]<|gb0 [0] [(4,vI 1)]<|gn hK13 ?_
  have hS9:=hS1.takeN 0
  subst h
  exact we_ret (pr0 [.tmp 4] [vI 1] ⟨rfl,hS9⟩)
 rw [if_neg hc5] at h
 refine gk 25 x1 false (Bool.eq_false_iff.2 hc5)<|gb0 [16,17,18,19,20,21,22,23,24,25,26] [(9,.bool false),(35,.bool false),(34,.bool false),(33,undef),(32,undef),(31,undef),(30,undef),(29,undef),(28,undef),(27,undef),(26,undef)]<|gn hK5<|wf<|ws fun K14 hK14=>wr [(0,0),(1,0),(2,0),(3,0)]<|gb [0,1,2,3] [(36,.bool (x0.Op==18)),(39,.bool (x0.Op==18)),(38,vI x0.Op),(37,pP b1 0)] [ld b1 0 (vI x0.Op)] ⟨hS1.c 0,trivial⟩<|gn hK14 ?_
 by_cases hc9:x0.Op=18
 ·rw [if_pos hc9] at h
  refine wk 36 (x0.Op==18) true (beq_iff_eq.2 hc9)<|wt<|ws fun K15 hK15=>wr [(0,0),(1,0),(2,0)]<|gb [0,1,2] [(4,vI x0.A),(41,vI x0.A),(40,pP b1 1)] [ld b1 1 (vI x0.A)] ⟨hS1.c 0,trivial⟩<|gn hK15 ?_
  have hS10:=hS1.takeN 0
  subst h
  exact we_ret (pr0 [.tmp 4] [vI x0.A] ⟨rfl,hS10⟩)
 rw [if_neg hc9] at h
 refine wk 36 (x0.Op==18) false (beq_eq_false_iff_ne.2 hc9)<|wf<|we_skip fun a hF=>hK2 _ _ ?_ a hF
 refine ws fun K16 hK16=>wr [(0,0)]<|gb0 [0] [(4,vI 1)]<|gn hK16 ?_
 have hS11:=hS1.takeN 0
 subst h
 exact we_ret (pr0 [.tmp 4] [vI 1] ⟨rfl,hS11⟩)

structure SEnded where
 Vars:List Int
 Puts:List SPut
 Steps:Int

structure SStep where
 At:Int
 Ticks:Int
def SStep.eqb (x y : SStep) : Bool := ((x.At == y.At) && ((x.Ticks == y.Ticks) && true))
instance : Ok SStep := ⟨fun x => Ok.ok x.At ∧ Ok.ok x.Ticks ∧ True⟩
instance : Flat SStep := ⟨2, fun x => [vI x.At, vI x.Ticks], fun _ => rfl, fun _ => rfl, by decide⟩
end Go.Proofs.YtnckikjcjgmdlaaDoor.GV
